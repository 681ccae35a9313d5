import Derived.Test.YtnkngclfbmcmhaaW2
import Derived.Deep.LoopGhost
namespace Go.Proofs.Ytnkngclfbmcmhaa
open Go.RowKit Reg Mem

def posMap (rows : List Row) (k : Key) : Option Value := (rows.findIdx? fun r => r.key = k).map fun i => .int .i64 (i : Int)
structure HeapAt (lo : Nat) (w : World) (B M : Nat) (v : Value) (rows : List Row) : Prop where
  cell : w.heap[B]? = some (.cells #[v, .map (some M)] 64 (0, 0))
  own : Owns 67 Row.cells 5 lo w v rows
  map : MapIs Try.prog w M 29 Key.cells (posMap rows)
  nodup : (rows.map (·.key)).Nodup
  lob : lo ≤ B
  lom : lo ≤ M

theorem posMap_some {rows : List Row} (hd : (rows.map (·.key)).Nodup) {i : Nat} {r : Row} (h : rows[i]? = some r) : posMap rows r.key = some (.int .i64 i) := by
  unfold posMap
  have : rows.findIdx? (fun x => x.key = r.key) = some i := by
    rw [List.findIdx?_eq_some_iff_getElem]
    obtain ⟨hi, he⟩ := List.getElem?_eq_some_iff.1 h
    refine ⟨hi, by simp [he], fun j hj => ?_⟩
    simp only [decide_eq_true_eq]
    intro e
    have h1 : (rows.map (·.key))[j]'(by simp; omega) = (rows.map (·.key))[i]'(by simpa using hi) := by simp [e, he]
    exact List.pairwise_iff_getElem.1 hd j i (by simp; omega) (by simpa using hi) hj h1
  rw [this]; rfl
theorem posMap_none {rows : List Row} {k : Key} (h : k ∉ rows.map (·.key)) : posMap rows k = none := by
  unfold posMap
  have : rows.findIdx? (fun x => x.key = k) = none := by
    rw [List.findIdx?_eq_none_iff]
    intro r hr
    simp only [decide_eq_false_iff_not]
    exact fun e => h (List.mem_map.2 ⟨r, hr, e⟩)
  rw [this]; rfl
theorem posMap_elim {rows : List Row} {k : Key} {v : Value} (h : posMap rows k = some v) : ∃ (i : Nat) (r : Row), rows[i]? = some r ∧ r.key = k ∧ v = .int .i64 i := by
  unfold posMap at h
  cases hf : rows.findIdx? (fun x => x.key = k) with
  | none => rw [hf] at h; cases h
  | some i =>
    rw [hf] at h
    cases h
    obtain ⟨hi, hp, _⟩ := List.findIdx?_eq_some_iff_getElem.1 hf
    exact ⟨i, rows[i], List.getElem?_eq_getElem hi, by simpa using hp, rfl⟩
theorem xch_length (rows : List Row) (i j : Nat) (r r' : Row) : (xch rows i j r r').length = rows.length := by simp [xch]
theorem xch_get {rows : List Row} {i j : Nat} {r r' : Row} (hi : rows[i]? = some r) (hj : rows[j]? = some r') (n : Nat) : (xch rows i j r r')[n]? = if n = j then some r else if n = i then some r' else rows[n]? := by
  unfold xch
  have hi1 := (List.getElem?_eq_some_iff.1 hi).1
  have hj1 := (List.getElem?_eq_some_iff.1 hj).1
  rw [List.getElem?_set]
  by_cases h1 : j = n
  · subst h1; simp [hj1]
  · rw [if_neg h1, if_neg (fun e => h1 e.symm), List.getElem?_set]
    by_cases h2 : i = n
    · subst h2; simp [hi1]
    · rw [if_neg h2, if_neg (fun e => h2 e.symm)]
theorem xch_perm {rows : List Row} {i j : Nat} {r r' : Row} (hi : rows[i]? = some r) (hj : rows[j]? = some r') : (xch rows i j r r').Perm rows := by
  obtain ⟨hi1, rfl⟩ := List.getElem?_eq_some_iff.1 hi
  obtain ⟨hj1, rfl⟩ := List.getElem?_eq_some_iff.1 hj
  have h := (Array.swap_perm (xs := rows.toArray) (i := i) (j := j) (by simpa using hi1) (by simpa using hj1)).toList
  have e : (rows.toArray.swap i j (by simpa using hi1) (by simpa using hj1)).toList = xch rows i j rows[i] rows[j] := by
    simp [Array.swap, xch]
  rw [e] at h
  simpa using h
theorem posMap_xch {rows : List Row} (hd : (rows.map (·.key)).Nodup) {i j : Nat} {r r' : Row} (hi : rows[i]? = some r) (hj : rows[j]? = some r') (hp : (xch rows i j r r').Perm rows) :
    (fun k => if k = r.key then some (.int .i64 j) else if k = r'.key then some (.int .i64 i) else posMap rows k) = posMap (xch rows i j r r') := by
  have hd' : ((xch rows i j r r').map (·.key)).Nodup := ((hp.map (·.key)).nodup_iff).2 hd
  funext k
  by_cases h1 : k = r.key
  · subst h1; rw [if_pos rfl, posMap_some hd' (i := j) (by rw [xch_get hi hj, if_pos rfl])]
  · rw [if_neg h1]
    by_cases h2 : k = r'.key
    · subst h2
      rw [if_pos rfl]
      by_cases hij : i = j
      · subst hij; rw [hi] at hj; cases hj; exact absurd rfl h1
      · rw [posMap_some hd' (i := i) (by rw [xch_get hi hj, if_neg hij, if_pos rfl])]
    · rw [if_neg h2]
      cases hp2 : posMap rows k with
      | none =>
        rw [posMap_none]
        intro hk
        have hk2 := (hp.map (·.key)).mem_iff.1 hk
        obtain ⟨r0, hr0, hk0⟩ := List.mem_map.1 hk2
        obtain ⟨n, hn, he⟩ := List.mem_iff_getElem.1 hr0
        have := posMap_some hd (i := n) (r := r0) (by rw [List.getElem?_eq_getElem hn, he])
        rw [hk0, hp2] at this; cases this
      | some v =>
        obtain ⟨n, r0, hn, hk0, rfl⟩ := posMap_elim hp2
        subst hk0
        have e : (xch rows i j r r')[n]? = some r0 := by
          rw [xch_get hi hj, if_neg, if_neg, hn]
          · intro e; subst e; rw [hn] at hi; cases hi; exact h1 rfl
          · intro e; subst e; rw [hn] at hj; cases hj; exact h2 rfl
        rw [posMap_some hd' e]

def hup : Nat → List Row → Nat → List Row
  | 0, rs, _ => rs
  | f + 1, rs, i =>
    if 0 < i then
      match rs[i]?, rs[(i - 1) / 2]? with
      | some r, some p => if Key.cmp r.key p.key < 0 then hup f (xch rs i ((i - 1) / 2) r p) ((i - 1) / 2) else rs
      | _, _ => rs
    else rs
theorem hup_stop {f : Nat} {rs : List Row} {i : Nat} {r p : Row} (hi : rs[i]? = some r) (hp : rs[(i - 1) / 2]? = some p) (h : i = 0 ∨ ¬ Key.cmp r.key p.key < 0) : hup f rs i = rs := by
  cases f with
  | zero => rfl
  | succ f =>
    simp only [hup, hi, hp]
    rcases h with h | h
    · simp [h]
    · simp [h]
theorem hup_go {f : Nat} {rs : List Row} {i : Nat} {r p : Row} (hi : rs[i]? = some r) (hp : rs[(i - 1) / 2]? = some p) (h0 : 0 < i) (h : Key.cmp r.key p.key < 0) (hf : 0 < f) : hup f rs i = hup (f - 1) (xch rs i ((i - 1) / 2) r p) ((i - 1) / 2) := by
  obtain ⟨g, rfl⟩ : ∃ g, f = g + 1 := ⟨f - 1, by omega⟩
  simp [hup, hi, hp, h, h0]

theorem swap_int (lo B M : Nat) (i j : Int) (v : Value) (rows : List Row) (r r' : Row) (w : World) (hH : HeapAt lo w B M v rows) (hi0 : 0 ≤ i) (hj0 : 0 ≤ j) (hi : rows[i.toNat]? = some r) (hj : rows[j.toNat]? = some r') (hne : i ≠ j) :
    Calls Try.prog 40 #[.pointer (some ⟨B, 0, none⟩), .int .i64 i, .int .i64 j] w fun e w' => e = .returned (.tuple #[]) ∧ HeapAt lo w' B M v (xch rows i.toNat j.toNat r r') ∧ Keep (fun b => b = M ∨ v.ownBlock = some b) w w' := by
  obtain ⟨n, rfl⟩ := Int.eq_ofNat_of_zero_le hi0
  obtain ⟨m, rfl⟩ := Int.eq_ofNat_of_zero_le hj0
  simp only [Int.toNat_natCast] at *
  refine (swap_calls lo B M n m v (posMap rows) rows r r' w hH.cell hH.own hH.map hi hj (by omega)).mono ?_
  rintro e w' ⟨h1, h2, h3, h4, h5⟩
  have hp := xch_perm hi hj
  refine ⟨h1, ⟨h2.trans hH.cell, h3, ?_, ((hp.map (·.key)).nodup_iff).2 hH.nodup, hH.lob, hH.lom⟩, h5⟩
  rw [← posMap_xch hH.nodup hi hj hp]
  exact h4
theorem ahead_int (lo B M : Nat) (i j : Int) (v : Value) (rows : List Row) (r r' : Row) (w : World) (hH : HeapAt lo w B M v rows) (hi0 : 0 ≤ i) (hj0 : 0 ≤ j) (hi : rows[i.toNat]? = some r) (hj : rows[j.toNat]? = some r') :
    Calls Try.prog 39 #[.pointer (some ⟨B, 0, none⟩), .int .i64 i, .int .i64 j] w fun e w' => e = .returned (.bool (decide (Key.cmp r.key r'.key < 0))) ∧ Below w.heap.size w w' := by
  obtain ⟨n, rfl⟩ := Int.eq_ofNat_of_zero_le hi0
  obtain ⟨m, rfl⟩ := Int.eq_ofNat_of_zero_le hj0
  exact ahead_calls lo B M n m v rows r r' w hH.cell hH.own hi hj
theorem HeapAt.keep {lo : Nat} {w w' : World} {B M : Nat} {v : Value} {rows : List Row} {S : Nat → Prop} (h : HeapAt lo w B M v rows) (hK : Keep S w w') (hB : ¬ S B) (hM : ¬ S M) (hR : ∀ R, v.ownBlock = some R → ¬ S R) : HeapAt lo w' B M v rows :=
  ⟨hK.heap h.cell hB, h.own.keep hK hR, h.map.keep hK hM, h.nodup, h.lob, h.lom⟩

def HPost (lo B M : Nat) (v : Value) (rows : List Row) (w : World) (e : Ending) (w' : World) : Prop :=
  e = .returned (.tuple #[]) ∧ HeapAt lo w' B M v rows ∧ Keep (fun b => b = M ∨ v.ownBlock = some b) w w'
def UpRel (lo B M : Nat) (v : Value) (rows : List Row) (i0 : Nat) (w : World) (i : Value) (wr : World) : Prop :=
  ∃ (k f : Nat) (rs : List Row), i = .int .i64 k ∧ k ≤ f ∧ rs.length = rows.length ∧ k < rs.length ∧ HeapAt lo wr B M v rs ∧ hup i0 rows i0 = hup f rs k ∧ Keep (fun b => b = M ∨ v.ownBlock = some b) w wr

set_option maxHeartbeats 1000000 in
theorem up_calls (lo B M i : Nat) (v : Value) (rows : List Row) (w : World) (hH : HeapAt lo w B M v rows) (hi : i < rows.length) (hmax : rows.length ≤ 4294967296) :
    Calls Try.prog 27 #[.pointer (some ⟨B, 0, none⟩), .int .i64 i] w (HPost lo B M v (hup i rows i) w) := by
  go_enter Try.func27, Try.ntmps27
  go_wp2
  go_loopw [1] (fun i' wr => UpRel lo B M v rows i w i' wr) (fun i' _ => (intOf i').toNat)
  case atStart => exact ⟨i, i, rows, rfl, Nat.le_refl _, rfl, hi, hH, rfl, Keep.refl _ _⟩
  case round =>
    obtain ⟨k, f, rs, rfl, hf, hlen, hk, hH, heq, hK⟩ := hrel
    have hp : (k - 1) / 2 < rs.length := by omega
    obtain ⟨r, hr⟩ : ∃ r, rs[k]? = some r := ⟨_, List.getElem?_eq_getElem hk⟩
    obtain ⟨p, hpr⟩ : ∃ r, rs[(k - 1) / 2]? = some r := ⟨_, List.getElem?_eq_getElem hp⟩
    have hk1 : (k : Int) ≤ 4294967296 := by omega
    have HH := Lib.hid hH
    have HEQ := Lib.hid heq
    have HK := Lib.hid hK
    have HR := Lib.hid hr
    have HP := Lib.hid hpr
    have HL := Lib.hid hlen
    clear hH heq hK hr hpr hlen
    by_cases h0 : 0 < k
    · have h0' : (0 : Int) < k := by omega
      have en : (((k : Int) - 1) / 2).toNat = (k - 1) / 2 := by omega
      have ek : ((k : Int)).toNat = k := by omega
      have EN := Lib.hid en
      clear en ek
      have hahead := fun wx (hx : wx = wr) => ahead_int lo B M (k : Int) (((k : Int) - 1) / 2) v rs r p wx (hx ▸ HH.out) (by omega) (by omega) (by simpa using HR.out) (by rw [EN.out]; exact HP.out)
      have HA := Lib.hid (hahead wr rfl)
      clear hahead
      by_cases hc : Key.cmp r.key p.key < 0
      · go_wp2_with fail
        refine HA.out.mono ?_
        rintro e w1 ⟨rfl, hb⟩
        have hH1 := HH.out.keep (Keep.of_below (S := fun _ => False) hb) id id (fun _ _ => id)
        have HS := Lib.hid (swap_int lo B M (k : Int) (((k : Int) - 1) / 2) v rs r p w1 hH1 (by omega) (by omega) (by simpa using HR.out) (by rw [EN.out]; exact HP.out) (by omega))
        have HB := Lib.hid hb
        clear hH1 hb
        go_wp2_with fail
        refine HS.out.mono ?_
        rintro e w2 ⟨rfl, hH2, hK2⟩
        rw [EN.out, show ((k : Int)).toNat = k by omega] at hH2
        have HH2 := Lib.hid hH2
        have HK2 := Lib.hid hK2
        clear hH2 hK2
        go_wp2_with fail
        go_roundw
        case rel =>
          refine ⟨(k - 1) / 2, f - 1, _, by go_num, by omega, by rw [xch_length]; exact HL.out, by rw [xch_length]; omega, HH2.out, ?_, ?_⟩
          · rw [HEQ.out, hup_go HR.out HP.out h0 hc (by omega)]
          · exact (HK.out.trans (Keep.of_below (S := fun _ => False) HB.out) (fun x _ h => ⟨h, id⟩)).trans HK2.out (fun x _ h => ⟨h, h⟩)
        case measure => simp [intOf]; omega
      · go_wp2_with fail
        refine HA.out.mono ?_
        rintro e w1 ⟨rfl, hb⟩
        have HB := Lib.hid hb
        clear hb
        go_wp2_with fail
        go_end0
        refine ⟨rfl, ?_, HK.out.trans (Keep.of_below (S := fun _ => False) HB.out) (fun x _ h => ⟨h, id⟩)⟩
        rw [HEQ.out, hup_stop HR.out HP.out (.inr (by omega))]
        exact HH.out.keep (Keep.of_below (S := fun _ => False) HB.out) id id (fun _ _ => id)
    · have h0' : decide ((0 : Int) < k) = false := by simp; omega
      go_wp2_with fail
      go_end0
      refine ⟨rfl, ?_, HK.out⟩
      rw [HEQ.out, hup_stop HR.out HP.out (.inl (by omega))]
      exact HH.out
end Go.Proofs.Ytnkngclfbmcmhaa
