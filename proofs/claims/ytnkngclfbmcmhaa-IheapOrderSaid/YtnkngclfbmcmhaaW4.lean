import Derived.Test.YtnkngclfbmcmhaaW3
namespace Go.Proofs.Ytnkngclfbmcmhaa
open Go.RowKit Reg Mem

def hcand (rs : List Row) (c j : Nat) : Nat := match rs[j]?, rs[c]? with | some x, some y => if Key.cmp x.key y.key < 0 then j else c | _, _ => c
def stage (rs : List Row) (i : Nat) : Nat → Nat
  | 0 => i
  | t + 1 => hcand rs (stage rs i t) (2 * i + 1 + t)
def hdown : Nat → List Row → Nat → List Row
  | 0, rs, _ => rs
  | f + 1, rs, i =>
    let c := stage rs i 2
    if c = i then rs else match rs[i]?, rs[c]? with
      | some r, some p => hdown f (xch rs i c r p) c
      | _, _ => rs
theorem hcand_lt {rs : List Row} {c j : Nat} (hc : c < rs.length) : hcand rs c j < rs.length := by
  unfold hcand
  split
  · rename_i x y hx hy; split; exact (List.getElem?_eq_some_iff.1 hx).1; exact hc
  · exact hc
theorem stage_lt {rs : List Row} {i : Nat} (hi : i < rs.length) : ∀ t, stage rs i t < rs.length
  | 0 => hi
  | t + 1 => hcand_lt (stage_lt hi t)
theorem stage_or {rs : List Row} {i : Nat} : ∀ t, stage rs i t = i ∨ i < stage rs i t
  | 0 => .inl rfl
  | t + 1 => by
    have := stage_or (rs := rs) (i := i) t
    simp only [stage]
    unfold hcand
    split
    · split
      · right; omega
      · exact this
    · exact this
theorem stage_beyond {rs : List Row} {i t : Nat} (h : rs.length ≤ 2 * i + 1 + t) : stage rs i (t + 1) = stage rs i t := by
  simp only [stage, hcand, List.getElem?_eq_none h]
theorem stage_done {rs : List Row} {i t : Nat} (ht : t ≤ 2) (h : t = 2 ∨ rs.length ≤ 2 * i + 1 + t) : stage rs i t = stage rs i 2 := by
  rcases h with rfl | h
  · rfl
  · match t, ht with
    | 0, _ => rw [stage_beyond (t := 1) (by omega), stage_beyond (t := 0) (by omega)]
    | 1, _ => rw [stage_beyond (t := 1) (by omega)]
    | 2, _ => rfl
theorem hdown_stop {f : Nat} {rs : List Row} {i : Nat} (h : stage rs i 2 = i) : hdown f rs i = rs := by
  cases f with
  | zero => rfl
  | succ f => simp only [hdown, h, if_true]
theorem hdown_go {f : Nat} {rs : List Row} {i : Nat} {r p : Row} (h : stage rs i 2 ≠ i) (hi : rs[i]? = some r) (hp : rs[stage rs i 2]? = some p) (hf : 0 < f) : hdown f rs i = hdown (f - 1) (xch rs i (stage rs i 2) r p) (stage rs i 2) := by
  obtain ⟨g, rfl⟩ : ∃ g, f = g + 1 := ⟨f - 1, by omega⟩
  simp [hdown, h, hi, hp]

def DownRel (lo B M : Nat) (v : Value) (rows : List Row) (i0 : Nat) (w : World) (i : Value) (wr : World) : Prop :=
  ∃ (k f : Nat) (rs : List Row), i = .int .i64 k ∧ rs.length ≤ k + f ∧ rs.length = rows.length ∧ k < rs.length ∧ HeapAt lo wr B M v rs ∧ hdown rows.length rows i0 = hdown f rs k ∧ Keep (fun b => b = M ∨ v.ownBlock = some b) w wr
def DownIn (rs : List Row) (k : Nat) (wo : World) (c j : Value) (wr : World) : Prop :=
  ∃ t : Nat, t ≤ 2 ∧ c = .int .i64 (stage rs k t : Nat) ∧ j = .int .i64 (2 * k + 1 + t : Nat) ∧ Below wo.heap.size wo wr

set_option maxHeartbeats 2000000 in
theorem down_calls (lo B M i : Nat) (v : Value) (rows : List Row) (w : World) (hH : HeapAt lo w B M v rows) (hi : i < rows.length) (hmax : rows.length ≤ 4294967296) :
    Calls Try.prog 37 #[.pointer (some ⟨B, 0, none⟩), .int .i64 i] w (HPost lo B M v (hdown rows.length rows i) w) := by
  go_enter Try.func37, Try.ntmps37
  go_wp2
  go_loopw [1] (fun i' wr => DownRel lo B M v rows i w i' wr) (fun i' _ => rows.length - (intOf i').toNat)
  case atStart => exact ⟨i, rows.length, rows, rfl, by omega, rfl, hi, hH, rfl, Keep.refl _ _⟩
  case round =>
    obtain ⟨k, f, rs, rfl, hf, hlen, hk, hH, heq, hK⟩ := hrel
    obtain ⟨a0, cap, hv⟩ := hH.own.form
    have h0 : wr.cell? ⟨B, 0, none⟩ = some (.slice a0 rs.length cap) := by rw [cell_of hH.cell, hv]; rfl
    have hk1 : (k : Int) ≤ 4294967296 := by omega
    have HH := Lib.hid hH
    have HEQ := Lib.hid heq
    have HK := Lib.hid hK
    have HL := Lib.hid hlen
    have HV := Lib.hid hv
    have HC := Lib.hid h0
    clear hH heq hK hlen hv h0
    go_wp2_with fail
    obtain ⟨wo, rfl⟩ : ∃ wo : World, wo = wr := ⟨_, rfl⟩
    go_loopw [4, 5] (fun c j wr => DownIn rs k wo c j wr) (fun _ j _ => 2 * k + 4 - (intOf j).toNat)
    case atStart => exact ⟨0, by omega, rfl, by go_num, Below.refl _ _⟩
    case round =>
      obtain ⟨t, ht, rfl, rfl, hb⟩ := hrel
      have hB : B < wo.heap.size := (Array.getElem?_eq_some_iff.1 HH.out.cell).1
      have h0 : wr.cell? ⟨B, 0, none⟩ = some (.slice a0 rs.length cap) := (hb.cell (p := ⟨B, 0, none⟩) hB).trans HC.out
      have HB := Lib.hid hb
      clear hb
      have hst := stage_lt hk t
      generalize hs : stage rs k t = s at hst ⊢
      have HS := Lib.hid hs
      clear hs
      have hlen2 : (rs.length : Int) ≤ 4294967296 := by rw [HL.out]; omega
      by_cases hgo : t < 2 ∧ 2 * k + 1 + t < rs.length
      · obtain ⟨hg1, hg2⟩ := hgo
        obtain ⟨x, hx⟩ : ∃ x, rs[2 * k + 1 + t]? = some x := ⟨_, List.getElem?_eq_getElem hg2⟩
        obtain ⟨y, hy⟩ : ∃ x, rs[s]? = some x := ⟨_, List.getElem?_eq_getElem hst⟩
        have hH1 := HH.out.keep (Keep.of_below (S := fun _ => False) HB.out) id id (fun _ _ => id)
        have HX := Lib.hid hx
        have HY := Lib.hid hy
        have hHA := ahead_int lo B M ((2 * k + 1 + t : Nat) : Int) (s : Int) v rs x y wr hH1 (by omega) (by omega) (by rw [Int.toNat_natCast]; exact hx) (by rw [Int.toNat_natCast]; exact hy)
        have HA := Lib.hid hHA
        clear hHA hH1 hx hy
        generalize hn : rs.length = n at hf hk h0 hst hlen2 hg2
        have HN := Lib.hid hn
        have hg2' : ((2 * k + 1 + t : Nat) : Int) < n := by omega
        have hg1' : ((2 * k + 1 + t : Nat) : Int) ≤ 2 * (k : Int) + 2 := by omega
        generalize hj : 2 * k + 1 + t = j at hg2 hg2' hg1' HA HX ⊢
        have HJ := Lib.hid hj
        have hjl : (j : Int) ≤ 4294967296 := by omega
        clear hn hj
        by_cases hc : Key.cmp x.key y.key < 0
        · go_wp2_with fail
          refine HA.out.mono ?_
          rintro e w1 ⟨rfl, hb1⟩
          have HB1 := Lib.hid (HB.out.trans (hb1.mono HB.out.size))
          clear hb1
          go_wp2_with fail
          go_roundw
          case rel =>
            refine ⟨t + 1, by omega, ?_, by have := HJ.out; go_num, HB1.out⟩
            have e : stage rs k (t + 1) = j := by simp only [stage, hcand]; rw [HJ.out, HX.out, HS.out, HY.out]; simp [hc]
            rw [e]
          case measure => have := HJ.out; simp [intOf]; omega
        · go_wp2_with fail
          refine HA.out.mono ?_
          rintro e w1 ⟨rfl, hb1⟩
          have HB1 := Lib.hid (HB.out.trans (hb1.mono HB.out.size))
          clear hb1
          go_wp2_with fail
          go_roundw
          case rel =>
            refine ⟨t + 1, by omega, ?_, by have := HJ.out; go_num, HB1.out⟩
            have e : stage rs k (t + 1) = s := by simp only [stage, hcand]; rw [HJ.out, HX.out, HS.out, HY.out]; exact if_neg (by omega)
            rw [e]
          case measure => have := HJ.out; simp [intOf]; omega
      · have hdone : t = 2 ∨ rs.length ≤ 2 * k + 1 + t := by omega
        have hsd : s = stage rs k 2 := by rw [← HS.out]; exact stage_done ht hdone
        have HSD := Lib.hid hsd
        have hso : s = k ∨ k < s := by rw [hsd]; exact stage_or 2
        have hH1 := HH.out.keep (Keep.of_below (S := fun _ => False) HB.out) id id (fun _ _ => id)
        have HH1 := Lib.hid hH1
        have HK1 := Lib.hid (HK.out.trans (Keep.of_below (S := fun _ => False) HB.out) (U := fun b => b = M ∨ v.ownBlock = some b) (fun x _ h => ⟨h, id⟩))
        clear hH1 hsd
        generalize hn : rs.length = n at hf hk h0 hst hlen2 hgo hdone
        have HN := Lib.hid hn
        clear hn
        generalize hj : 2 * k + 1 + t = j at hgo hdone ⊢
        have HJ := Lib.hid hj
        clear hj
        have hjl : (j : Int) ≤ 2 * (k : Int) + 3 := by have := HJ.out; omega
        have hexit : decide ((j : Int) ≤ 2 * (k : Int) + 2) = false ∨ ((j : Int) ≤ 2 * (k : Int) + 2 ∧ decide (j < n) = false) := by
          have := HJ.out
          rcases hdone with h | h
          · left; simp; omega
          · by_cases h2 : (j : Int) ≤ 2 * (k : Int) + 2
            · right; exact ⟨h2, by simp; omega⟩
            · left; simp; omega
        by_cases hsk : s = k
        · have hsk' : ((s : Int) == k) = true := by simp [hsk]
          rcases hexit with hx1 | ⟨hx1, hx2⟩
          all_goals
            go_wp2_with fail
            refine bodyPost_ret (results_none rfl _ _ _) rfl ?_
            refine ⟨rfl, ?_, HK1.out⟩
            rw [HEQ.out, hdown_stop (by rw [← HSD.out]; exact hsk)]
            exact HH1.out
        · have hsk' : ((s : Int) == k) = false := by simp; omega
          have hsne := Lib.hid hsk
          have hsk2 := Lib.hid (show (k : Int) ≠ s by omega)
          clear hsk
          obtain ⟨x, hx⟩ : ∃ x, rs[k]? = some x := ⟨_, List.getElem?_eq_getElem (by rw [HN.out]; exact hk)⟩
          obtain ⟨y, hy⟩ : ∃ x, rs[s]? = some x := ⟨_, List.getElem?_eq_getElem (by rw [HN.out]; exact hst)⟩
          have HSW := Lib.hid (swap_int lo B M (k : Int) (s : Int) v rs x y wr HH1.out (by omega) (by omega) (by simpa using hx) (by simpa using hy) hsk2.out)
          have HX := Lib.hid hx
          have HY := Lib.hid hy
          clear hx hy
          have hks : k < s := by rcases hso with h | h; exact absurd h hsne.out; exact h
          clear hso
          rcases hexit with hx1 | ⟨hx1, hx2⟩
          all_goals
            go_wp2_with fail
            refine HSW.out.mono ?_
            rintro e w2 ⟨rfl, hH2, hK2⟩
            simp only [Int.toNat_natCast] at hH2
            have HH2 := Lib.hid hH2
            have HK2 := Lib.hid hK2
            clear hH2 hK2
            go_wp2_with fail
            go_roundw
            case rel =>
              refine ⟨s, f - 1, _, rfl, by rw [xch_length, HN.out]; omega, by rw [xch_length]; exact HL.out, by rw [xch_length, HN.out]; exact hst, HH2.out, ?_, HK1.out.trans HK2.out (fun x _ h => ⟨h, h⟩)⟩
              have e1 := HSD.out
              rw [HEQ.out, hdown_go (r := x) (p := y) (by rw [← e1]; exact hsne.out) HX.out (by rw [← e1]; exact HY.out) (by omega), ← e1]
            case measure => have := HL.out; have := HN.out; simp [intOf]; omega
end Go.Proofs.Ytnkngclfbmcmhaa
