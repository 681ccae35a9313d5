import Derived.Test.YtnkngclfbmcmhaaW5
import Derived.BigRegion
namespace Go.Proofs.Ytnkngclfbmcmhaa
open Go.RowKit Reg Mem

def FirstPost (r : Row) (en : Int) (w : World) (e : Ending) (w' : World) : Prop :=
  e = .returned (.tuple #[.agg #[.int .i64 r.key.at_, .int .i64 r.key.src, .int .i64 r.key.sent, .int .i64 r.key.no], .int .i64 r.v, .int .i64 en]) ∧ Below w.heap.size w w'

theorem first_none (lo B M : Nat) (v : Value) (w : World) (hH : HeapAt lo w B M v []) :
    Calls Try.prog 26 #[.pointer (some ⟨B, 0, none⟩)] w (FirstPost ⟨⟨0, 0, 0, 0⟩, 0⟩ 14 w) := by
  obtain ⟨a0, cap, rfl⟩ := hH.own.form
  have hB : B < w.heap.size := (Array.getElem?_eq_some_iff.1 hH.cell).1
  have h0 : w.cell? ⟨B, 0, none⟩ = some (.slice a0 0 cap) := by rw [cell_of hH.cell]; rfl
  clear hH
  go_enter Try.func26, Try.ntmps26
  go_wp2
  refine bodyPost_ret (v := .tuple #[.agg #[.int .i64 0, .int .i64 0, .int .i64 0, .int .i64 0], .int .i64 0, .int .i64 14]) (by simp [results, Try.results26, go_sem]) rfl ⟨rfl, ?_⟩
  exact (Below.refl _ w).alloc (Nat.le_refl _) _
set_option maxHeartbeats 1000000 in
theorem first_some (lo B M : Nat) (v : Value) (r : Row) (rows : List Row) (w : World) (hH : HeapAt lo w B M v (r :: rows)) :
    Calls Try.prog 26 #[.pointer (some ⟨B, 0, none⟩)] w (FirstPost r 0 w) := by
  have hB : B < w.heap.size := (Array.getElem?_eq_some_iff.1 hH.cell).1
  obtain ⟨R, cap, cur, rfl, hO⟩ := hH.own.some (by simp)
  have h0 : w.cell? ⟨B, 0, none⟩ = some (.slice (some ⟨R, 0, none⟩) (r :: rows).length cap) := by rw [cell_of hH.cell]; rfl
  have hc := hO.cells hcells (i := 0) (x := r) rfl
  have hR : R < w.heap.size := (Array.getElem?_eq_some_iff.1 hO.heap).1
  obtain ⟨⟨a, b, c, d⟩, x⟩ := r
  have c0 : w.cell? ⟨R, 0, none⟩ = some (.int .i64 a) := hc 0 _ rfl
  have c1 : w.cell? ⟨R, 1, none⟩ = some (.int .i64 b) := hc 1 _ rfl
  have c2 : w.cell? ⟨R, 2, none⟩ = some (.int .i64 c) := hc 2 _ rfl
  have c3 : w.cell? ⟨R, 3, none⟩ = some (.int .i64 d) := hc 3 _ rfl
  have c4 : w.cell? ⟨R, 4, none⟩ = some (.int .i64 x) := hc 4 _ rfl
  clear hc hO hH
  generalize hn : (⟨⟨a, b, c, d⟩, x⟩ :: rows : List Row).length = n at h0
  have hn1 : 0 < n := by rw [← hn]; simp
  have hn2 : ((n : Int) == 0) = false := by simp; omega
  clear hn
  go_enter Try.func26, Try.ntmps26
  go_wp2
  go_region
  go_wp2
  refine bodyPost_ret (v := .tuple #[.agg #[.int .i64 a, .int .i64 b, .int .i64 c, .int .i64 d], .int .i64 x, .int .i64 0]) (by simp [results, Try.results26, go_sem]) rfl ⟨rfl, ?_⟩
  exact ((Below.refl _ w).alloc (Nat.le_refl _) _).drew

theorem posMap_eq {rs : List Row} (hd : (rs.map (·.key)).Nodup) {m : Key → Option Value} (h1 : ∀ (i : Nat) r, rs[i]? = some r → m r.key = some (.int .i64 i)) (h2 : ∀ k, k ∉ rs.map (·.key) → m k = none) : m = posMap rs := by
  funext k
  by_cases hk : k ∈ rs.map (·.key)
  · obtain ⟨r, hr, rfl⟩ := List.mem_map.1 hk
    obtain ⟨n, hn, he⟩ := List.mem_iff_getElem.1 hr
    have hg : rs[n]? = some r := by rw [List.getElem?_eq_getElem hn, he]
    rw [h1 n r hg, posMap_some hd hg]
  · rw [h2 k hk, posMap_none hk]
/-- The rows without one: the last one takes its place. -/
def cutRow (rows : List Row) (i : Nat) : List Row :=
  match rows[rows.length - 1]? with
  | some l => if i + 1 = rows.length then rows.take (rows.length - 1) else (rows.take (rows.length - 1)).set i l
  | none => rows
def hpull (rows : List Row) (i : Nat) : List Row :=
  if i + 1 = rows.length then cutRow rows i else hup i (hdown (rows.length - 1) (cutRow rows i) i) i
theorem hup_perm : ∀ (f : Nat) (rs : List Row) (i : Nat), (hup f rs i).Perm rs
  | 0, rs, _ => .refl _
  | f + 1, rs, i => by
    unfold hup
    split
    · split
      · rename_i r p hr hp
        split
        · exact (hup_perm f _ _).trans (xch_perm hr hp)
        · exact .refl _
      · exact .refl _
    · exact .refl _
theorem hdown_perm : ∀ (f : Nat) (rs : List Row) (i : Nat), (hdown f rs i).Perm rs
  | 0, rs, _ => .refl _
  | f + 1, rs, i => by
    unfold hdown
    simp only
    split
    · exact .refl _
    · split
      · rename_i r p hr hp
        exact (hdown_perm f _ _).trans (xch_perm hr hp)
      · exact .refl _
theorem take_last {rows : List Row} {m : Nat} {l : Row} (hm : rows.length = m + 1) (hl : rows[m]? = some l) : rows = rows.take m ++ [l] := by
  obtain ⟨h1, h2⟩ := List.getElem?_eq_some_iff.1 hl
  rw [← h2]
  have h3 := List.take_append_getElem h1
  rw [← hm, List.take_length] at h3
  exact h3.symm
theorem cutRow_last {rows : List Row} {m : Nat} (hm : rows.length = m + 1) : cutRow rows m = rows.take m := by
  have hl : rows[rows.length - 1]? = some (rows[rows.length - 1]'(by omega)) := List.getElem?_eq_getElem (by omega)
  unfold cutRow
  rw [hl]
  simp [hm]
theorem cutRow_set {rows : List Row} {m i : Nat} {l : Row} (hm : rows.length = m + 1) (hl : rows[m]? = some l) (hi : i ≠ m) : cutRow rows i = (rows.take m).set i l := by
  unfold cutRow
  rw [show rows.length - 1 = m by omega, hl]
  simp only
  rw [if_neg (by omega)]
theorem cutRow_perm {rows : List Row} {i : Nat} {r : Row} (hi : rows[i]? = some r) : (cutRow rows i ++ [r]).Perm rows := by
  have hi1 := (List.getElem?_eq_some_iff.1 hi).1
  obtain ⟨m, hm⟩ : ∃ m, rows.length = m + 1 := ⟨rows.length - 1, by omega⟩
  obtain ⟨l, hl⟩ : ∃ l, rows[m]? = some l := ⟨_, List.getElem?_eq_getElem (by omega)⟩
  by_cases him : i = m
  · subst him
    rw [hi] at hl; cases hl
    rw [cutRow_last hm, ← take_last hm hi]
  · rw [cutRow_set hm hl him]
    have h := xch_perm hi hl
    refine (List.Perm.of_eq ?_).trans h
    unfold xch
    have hlt : (rows.take m).length = m := by rw [List.length_take]; omega
    conv => rhs; rw [take_last hm hl]
    rw [List.set_append_left (h := by omega), List.set_append_right (h := by rw [List.length_set]; omega)]
    rw [List.length_set, hlt, Nat.sub_self]
    rfl
theorem cutRow_nodup {rows : List Row} {i : Nat} {r : Row} (hi : rows[i]? = some r) (hd : (rows.map (·.key)).Nodup) : ((cutRow rows i).map (·.key)).Nodup ∧ r.key ∉ (cutRow rows i).map (·.key) := by
  have h := (((cutRow_perm hi).map (·.key)).nodup_iff).2 hd
  rw [List.map_append, List.nodup_append] at h
  exact ⟨h.1, fun hk => h.2.2 _ hk _ (by simp) rfl⟩
theorem cutRow_length {rows : List Row} {i : Nat} {r : Row} (hi : rows[i]? = some r) : (cutRow rows i).length + 1 = rows.length := by
  have := (cutRow_perm hi).length_eq
  simpa using this
theorem posMap_cut {rows : List Row} {i m : Nat} {r l : Row} (hd : (rows.map (·.key)).Nodup) (hm : rows.length = m + 1) (hi : rows[i]? = some r) (hl : rows[m]? = some l) (him : i ≠ m) :
    (fun k => if k = l.key then some (.int .i64 (i : Int)) else if k = r.key then none else posMap rows k) = posMap (cutRow rows i) := by
  have hc := cutRow_set hm hl him
  have hi1 := (List.getElem?_eq_some_iff.1 hi).1
  obtain ⟨hd', hr'⟩ := cutRow_nodup hi hd
  refine posMap_eq hd' ?_ ?_
  · intro n r0 hn
    rw [hc, List.getElem?_set] at hn
    by_cases h1 : i = n
    · subst h1
      rw [if_pos rfl, if_pos (by rw [List.length_take]; omega)] at hn
      cases hn
      simp
    · rw [if_neg h1] at hn
      obtain ⟨hn1, hn2⟩ := List.getElem?_eq_some_iff.1 hn
      rw [List.length_take] at hn1
      rw [List.getElem?_take, if_pos (by omega)] at hn
      have hne : ∀ (j : Nat) (x : Row), rows[j]? = some x → j ≠ n → r0.key ≠ x.key := by
        intro j x hj hjn e
        have h1 := posMap_some hd hn
        have h2 := posMap_some hd hj
        rw [e, h2] at h1
        simp only [Option.some.injEq, Value.int.injEq, true_and] at h1
        omega
      rw [if_neg (hne m l hl (by omega)), if_neg (hne i r hi h1)]
      exact posMap_some hd hn
  · intro k hk
    have hl' : k ≠ l.key := by
      rintro rfl
      refine hk (List.mem_map.2 ⟨l, ?_, rfl⟩)
      rw [hc]
      exact List.mem_of_getElem? (i := i) (by rw [List.getElem?_set, if_pos rfl, if_pos (by rw [List.length_take]; omega)])
    rw [if_neg hl']
    by_cases h2 : k = r.key
    · rw [if_pos h2]
    · rw [if_neg h2]
      refine posMap_none fun hk2 => ?_
      have := ((cutRow_perm hi).map (·.key)).mem_iff.2 hk2
      rw [List.map_append, List.mem_append] at this
      rcases this with h | h
      · exact hk h
      · simp at h; exact h2 h
theorem posMap_cut_last {rows : List Row} {m : Nat} {r : Row} (hd : (rows.map (·.key)).Nodup) (hm : rows.length = m + 1) (hi : rows[m]? = some r) :
    (fun k => if k = r.key then none else posMap rows k) = posMap (rows.take m) := by
  have hc := cutRow_last hm
  obtain ⟨hd', hr'⟩ := cutRow_nodup hi hd
  rw [hc] at hd' hr'
  refine posMap_eq hd' ?_ ?_
  · intro n r0 hn
    obtain ⟨hn1, hn2⟩ := List.getElem?_eq_some_iff.1 hn
    have hk : r0.key ∈ (rows.take m).map (·.key) := List.mem_map.2 ⟨r0, List.mem_of_getElem? hn, rfl⟩
    rw [if_neg (fun e => hr' (by rw [← e]; exact hk))]
    rw [List.length_take] at hn1
    rw [List.getElem?_take, if_pos (by omega)] at hn
    exact posMap_some hd hn
  · intro k hk
    by_cases h2 : k = r.key
    · rw [if_pos h2]
    · rw [if_neg h2]
      refine posMap_none fun hk2 => ?_
      rw [take_last hm hi, List.map_append, List.mem_append] at hk2
      rcases hk2 with h | h
      · exact hk h
      · simp at h; exact h2 h
def PullPost (lo B M : Nat) (v : Value) (rows : List Row) (i : Nat) (x : Int) (w : World) (e : Ending) (w' : World) : Prop :=
  e = .returned (.tuple #[.int .i64 x, .int .i64 0]) ∧ ∃ v', HeapAt lo w' B M v' (hpull rows i) ∧ Keep (fun b => b = B ∨ b = M ∨ v.ownBlock = some b) w w' ∧ v'.ownBlock = v.ownBlock
theorem pull_none (lo B M : Nat) (v : Value) (rows : List Row) (a b c d : Int) (w : World) (hH : HeapAt lo w B M v rows) (hm : (⟨a, b, c, d⟩ : Key) ∉ rows.map (·.key)) :
    Calls Try.prog 23 #[.pointer (some ⟨B, 0, none⟩), .agg #[.int .i64 a, .int .i64 b, .int .i64 c, .int .i64 d]] w fun e w' => e = .returned (.tuple #[.int .i64 0, .int .i64 14]) ∧ Below w.heap.size w w' := by
  have h1 : w.cell? ⟨B, 1, none⟩ = some (.map (some M)) := by rw [cell_of hH.cell]; rfl
  have hB : B < w.heap.size := (Array.getElem?_eq_some_iff.1 hH.cell).1
  have hz := Try.zeroValue3
  have HP := Lib.hid (posMap_none hm)
  have HM := Lib.hid hH.map
  clear hH hm
  go_enter Try.func23, Try.ntmps23
  go_wp2_with first
    | ((with_reducible refine tot_done ?ht ?_); (case ht => rfl))
    | ((with_reducible refine wp_region_text ?hm ?hb ?_); (case hm => kernel_rfl); (case hb => decide +kernel))
    | ((with_reducible refine wpList_lookup_ok (M := M) (m := posMap rows) (zv := .int .i64 0) (v := .int .i64 0) (b := false) keyed Try.underlying61 ?hz ?hM ⟨a, b, c, d⟩ ?hx ?hy ?hv ?hb ?_); (case hx => rfl); (case hy => exact (wholeKey _ _ _ _).symm); (case hM => exact HM.out.heap (Below.heap_alloc _ _ _ HM.out.lt)); (case hz => exact hz); (case hv => rw [HP.out]; rfl); (case hb => rw [HP.out]; rfl))
  go_ret2
  exact ⟨rfl, ((Below.refl _ w).alloc (Nat.le_refl _) _).drew⟩

theorem elemRowZ : ∃ i, ElemOf Try.prog 62 67 5 40 i (.agg #[.int .i64 0, .int .i64 0, .int .i64 0, .int .i64 0, .int .i64 0]) := ⟨_, Try.underlying62, rfl, by kernel_rfl, by kernel_rfl, by kernel_rfl, by kernel_rfl, by omega⟩
set_option maxHeartbeats 2000000 in
set_option maxRecDepth 100000 in
theorem pull_some (lo B M i : Nat) (v : Value) (rows : List Row) (a b c d x : Int) (w : World) (hH : HeapAt lo w B M v rows) (hi : rows[i]? = some ⟨⟨a, b, c, d⟩, x⟩) (hmax : rows.length ≤ 4294967296) :
    Calls Try.prog 23 #[.pointer (some ⟨B, 0, none⟩), .agg #[.int .i64 a, .int .i64 b, .int .i64 c, .int .i64 d]] w (PullPost lo B M v rows i x w) := by
  have hi1 := (List.getElem?_eq_some_iff.1 hi).1
  have hB : B < w.heap.size := (Array.getElem?_eq_some_iff.1 hH.cell).1
  have hM : M < w.heap.size := hH.map.lt
  obtain ⟨R, cap, cur, rfl, hO⟩ := hH.own.some (by omega)
  have hRB : B ≠ R := fun e => by have hc := hH.cell; rw [e, hO.heap] at hc; simp at hc
  have hMB : B ≠ M := fun e => by obtain ⟨l, ⟨es, ck, h, _⟩, _⟩ := hH.map; have hc := hH.cell; rw [e, h] at hc; simp at hc
  have hMR : M ≠ R := fun e => by obtain ⟨l, ⟨es, ck, h, _⟩, _⟩ := hH.map; rw [e, hO.heap] at h; simp at h
  have hR : R < w.heap.size := (Array.getElem?_eq_some_iff.1 hO.heap).1
  obtain ⟨m, hm⟩ : ∃ m, rows.length = m + 1 := ⟨rows.length - 1, by omega⟩
  obtain ⟨l, hl⟩ : ∃ l, rows[m]? = some l := ⟨_, List.getElem?_eq_getElem (by omega)⟩
  have h0 : w.cell? ⟨B, 0, none⟩ = some (.slice (some ⟨R, 0, none⟩) (m + 1) cap) := by rw [cell_of hH.cell, hm]; rfl
  have h1 : w.cell? ⟨B, 1, none⟩ = some (.map (some M)) := by rw [cell_of hH.cell]; rfl
  have hx : w.cell? ⟨R, i * 5 + 4, none⟩ = some (.int .i64 x) := hO.cells hcells hi 4 _ rfl
  have hz := Try.zeroValue3
  have HP := Lib.hid (posMap_some hH.nodup hi)
  have HL := Lib.hid (hO.cells hcells hl)
  have HO := Lib.hid hO
  have HH := Lib.hid hH
  have HI := Lib.hid hi
  have HLM := Lib.hid hl
  have HLEN := Lib.hid hm
  have hi2 : (i : Int) < (m : Int) + 1 := by omega
  have hm2 : (m : Int) ≤ 4294967296 := by omega
  have hmc : (m : Int) + 1 ≤ cap := by have := hO.le; omega
  have hm0 : (0 : Int) ≤ m := by omega
  obtain ⟨⟨la, lb, lc, ld⟩, lx⟩ := l
  clear hH hi hO hl hm
  go_enter Try.func23, Try.ntmps23
  go_wp2_with first
    | ((with_reducible refine tot_done ?ht ?_); (case ht => rfl))
    | ((with_reducible refine wp_region_text ?hm ?hb ?_); (case hm => kernel_rfl); (case hb => decide +kernel))
    | ((with_reducible refine wpList_lookup_ok (M := M) (m := posMap rows) (zv := .int .i64 0) (v := .int .i64 i) (b := true) keyed Try.underlying61 ?hz ?hM ⟨a, b, c, d⟩ ?hx ?hy ?hv ?hb ?_); (case hx => rfl); (case hy => exact (wholeKey _ _ _ _).symm); (case hM => exact HH.out.map.heap (Below.heap_alloc _ _ _ hM)); (case hz => exact hz); (case hv => rw [HP.out]; rfl); (case hb => rw [HP.out]; rfl))
    | ((with_reducible refine wpList_delete (M := M) (m := posMap rows) keyed Try.underlying61 ?hM ⟨a, b, c, d⟩ ?hx ?hy ?_); (case hx => rfl); (case hy => exact (wholeKey _ _ _ _).symm); (case hM => exact HH.out.map.heap (Below.heap_alloc _ _ _ hM)))
  intro w2 hM2 hK2 hs2
  replace hK2 := hK2.undrew.undrew
  have hkb : w2.heap[w.heap.size]? = some (.cells #[.int .i64 a, .int .i64 b, .int .i64 c, .int .i64 d] 29 (0, 0)) := by
    refine hK2.heap ?_ (by omega)
    exact heap_alloc_new w (.cells #[.int .i64 a, .int .i64 b, .int .i64 c, .int .i64 d] 29)
  have hKw : Keep (fun b => b = M) w w2 := ((Keep.refl (fun _ => False) w).alloc _).trans hK2 (fun y _ h => ⟨id, h⟩)
  have hsz : w.heap.size + 1 ≤ w2.heap.size := by have := hK2.size; simp at this; omega
  have HKw := Lib.hid hKw
  have HM2 := Lib.hid hM2
  have HKB := Lib.hid hkb
  have HO2 := Lib.hid (HO.out.world (hKw.block R hR (fun e => hMR e.symm)))
  have HL2 := Lib.hid (fun j u h => hKw.cell (HL.out j u h) (fun e => hMR e.symm))
  have hB2 := hKw.heap HH.out.cell hMB
  rw [HLEN.out] at hB2
  have HB2 := Lib.hid hB2
  have h02 : w2.cell? ⟨B, 0, none⟩ = some (.slice (some ⟨R, 0, none⟩) (m + 1) cap) := by rw [cell_of hB2]; rfl
  have hB2l : B < w2.heap.size := by omega
  clear hK2 hM2 hkb hKw hs2 h0 h1 hx HP hB2
  go_wp2_with first
    | ((with_reducible refine tot_done ?ht ?_); (case ht => rfl))
    | ((with_reducible refine wp_region_text ?hm ?hb ?_); (case hm => kernel_rfl); (case hb => decide +kernel))
    | ((with_reducible refine wpList_load_agg (b := R) (o := m * 5) [.int .i64 la, .int .i64 lb, .int .i64 lc, .int .i64 ld, .int .i64 lx] ?hA ?hx ?hc ?_); (case hx => rfl); (case hA => kernel_rfl); (case hc => exact HL2.out))
  obtain ⟨ei, el⟩ := elemRowZ
  have hKa : Keep (fun _ => False) w2 (w2.alloc (.cells #[.int .i64 la, .int .i64 lb, .int .i64 lc, .int .i64 ld, .int .i64 lx] 67)) := (Keep.refl _ _).alloc _
  have hHa := heap_alloc_new w2 (.cells #[.int .i64 la, .int .i64 lb, .int .i64 lc, .int .i64 ld, .int .i64 lx] 67)
  have hfit : m * 5 + 5 ≤ cur.size := HO.out.fit (by have := HLEN.out; omega)
  obtain ⟨w3, hr3, hR3, hK3⟩ := run_clear_one el (tt := 0) (R := R) (o := m * 5) (c := cap - m) (hKa.heap HO2.out.heap id) hfit (by simp [Value.cells, Value.oneCell'])
  rw [hr3]
  have hR2l : R < w2.heap.size := by omega
  have hO3 : OwnAt 67 Row.cells 5 lo w3 R cap _ (rows.take m) := (HO2.out.cut hcells m (by have := HLEN.out; omega)).beyond (by rw [List.length_take]; have := HLEN.out; omega) hfit hR3
  have hK3' : Keep (fun b => b = M ∨ b = R) w w3 := (HKw.out.trans (hKa.trans hK3 (U := fun b => b = R) (fun y _ h => ⟨id, h⟩)) (fun y _ h => ⟨fun e => h (.inl e), fun e => h (.inr e)⟩))
  have hK23 : Keep (fun b => b = R) w2 w3 := hKa.trans hK3 (fun y _ h => ⟨id, h⟩)
  have HK3 := Lib.hid hK3'
  have HO3 := Lib.hid hO3
  have HM3 := Lib.hid (HM2.out.keep hK23 hMR)
  have HKB3 := Lib.hid (hK23.heap HKB.out (by omega))
  have HLB3 := Lib.hid (hK3.heap hHa (by omega))
  have hB3 := hK23.heap HB2.out hRB
  have HB3 := Lib.hid hB3
  have hf3 := frozen_of hB3 0
  have l0 : w3.cell? ⟨w2.heap.size, 0, none⟩ = some (.int .i64 la) := by rw [cell_of HLB3.out]; rfl
  have l1 : w3.cell? ⟨w2.heap.size, 1, none⟩ = some (.int .i64 lb) := by rw [cell_of HLB3.out]; rfl
  have l2 : w3.cell? ⟨w2.heap.size, 2, none⟩ = some (.int .i64 lc) := by rw [cell_of HLB3.out]; rfl
  have l3 : w3.cell? ⟨w2.heap.size, 3, none⟩ = some (.int .i64 ld) := by rw [cell_of HLB3.out]; rfl
  have l4 : w3.cell? ⟨w2.heap.size, 4, none⟩ = some (.int .i64 lx) := by rw [cell_of HLB3.out]; rfl
  have k0 : w3.cell? ⟨w.heap.size, 0, none⟩ = some (.int .i64 a) := by rw [cell_of HKB3.out]; rfl
  have k1 : w3.cell? ⟨w.heap.size, 1, none⟩ = some (.int .i64 b) := by rw [cell_of HKB3.out]; rfl
  have k2 : w3.cell? ⟨w.heap.size, 2, none⟩ = some (.int .i64 c) := by rw [cell_of HKB3.out]; rfl
  have k3 : w3.cell? ⟨w.heap.size, 3, none⟩ = some (.int .i64 d) := by rw [cell_of HKB3.out]; rfl
  have n1 : w2.heap.size ≠ B := by omega
  have n2 : w.heap.size ≠ B := by omega
  have h03 := hK23.cell h02 hRB
  have hsz3 := hK3.size
  rw [World.size_alloc] at hsz3
  clear hr3 hR3 hK3 hO3 hK3' hK23 hKa hHa hfit hB3 h02 HL2 HM2 HKB HB2 HO2 HKw el hB2l hR2l
  have hB4 := set_heap (o := 0) (v := .slice (some ⟨R, 0, none⟩) m cap) HB3.out
  have hK4 : Keep (fun b => b = B) w3 (w3.setCell ⟨B, 0, none⟩ (.slice (some ⟨R, 0, none⟩) m cap)) := (Keep.refl (fun b => b = B) w3).setCell (p := ⟨B, 0, none⟩) (.inl rfl) _
  have hRB' : R ≠ B := fun e => hRB e.symm
  have HO4 := Lib.hid (HO3.out.world (hK4.block R (Array.getElem?_eq_some_iff.1 HO3.out.heap).1 hRB'))
  have HM4 := Lib.hid (HM3.out.keep hK4 (fun e => hMB e.symm))
  have hlb := hK4.heap HLB3.out n1
  have HLB := Lib.hid (fun (q : Nat) (u : Value) (hq : [Value.int .i64 la, .int .i64 lb, .int .i64 lc, .int .i64 ld, .int .i64 lx][q]? = some u) => show (w3.setCell ⟨B, 0, none⟩ (.slice (some ⟨R, 0, none⟩) m cap)).drew.cell? ⟨w2.heap.size, 0 + q, none⟩ = some u by rw [show (w3.setCell ⟨B, 0, none⟩ (.slice (some ⟨R, 0, none⟩) m cap)).drew.cell? ⟨w2.heap.size, 0 + q, none⟩ = (w3.setCell ⟨B, 0, none⟩ (.slice (some ⟨R, 0, none⟩) m cap)).cell? ⟨w2.heap.size, 0 + q, none⟩ from rfl, cell_of hlb, Nat.zero_add, ← hq]; simp)
  have HK4 := Lib.hid (HK3.out.trans hK4 (U := fun b => b = B ∨ b = M ∨ b = R) (fun y _ h => ⟨fun e => h (.inr e), fun e => h (.inl e)⟩))
  have HB4 := Lib.hid hB4
  have HLB4 := Lib.hid hlb
  have hsz4 := hK4.size
  clear hB4 hK4 hlb HO3 HM3 HLB3 HKB3 HK3 HB3
  have hcut : i = m → (a = la ∧ b = lb ∧ c = lc ∧ d = ld) := by
    rintro rfl
    have := HI.out.symm.trans HLM.out
    simp only [Option.some.injEq, Row.mk.injEq, Key.mk.injEq] at this
    exact this.1
  have hdif : i ≠ m → ¬ (a = la ∧ b = lb ∧ c = lc ∧ d = ld) := by
    rintro hne ⟨rfl, rfl, rfl, rfl⟩
    have h1 := posMap_some HH.out.nodup HI.out
    have h2 := posMap_some HH.out.nodup HLM.out
    rw [h1] at h2
    simp only [Option.some.injEq, Value.int.injEq, true_and] at h2
    omega
  by_cases him : i = m
  · obtain ⟨rfl, rfl, rfl, rfl⟩ := hcut him
    have HIM := Lib.hid him
    have HD := Lib.hid hdif
    clear hcut hdif him
    go_wp2_with first
      | ((with_reducible refine tot_done ?ht ?_); (case ht => rfl))
      | ((with_reducible refine wp_region_text ?hm ?hb ?_); (case hm => kernel_rfl); (case hb => decide +kernel))
    refine bodyPost_ret (v := .tuple #[.int .i64 x, .int .i64 0]) (by simp [results, Try.results23, go_sem]) rfl ⟨rfl, ?_⟩
    have hpe : hpull rows i = rows.take m := by
      unfold hpull
      rw [if_pos (by rw [HIM.out]; exact HLEN.out.symm), HIM.out, cutRow_last HLEN.out]
    have htl : (rows.take m).length = m := by rw [List.length_take, HLEN.out]; omega
    have hown := HO4.out.own hcells
    rw [htl] at hown
    refine ⟨.slice (some ⟨R, 0, none⟩) m cap, ?_, HK4.out.mono (fun y _ h => ?_), rfl⟩
    · rw [hpe]
      refine ⟨HB4.out.trans rfl, hown, ?_, ?_, HH.out.lob, HH.out.lom⟩
      · have hi := HI.out
        rw [HIM.out] at hi
        rw [← posMap_cut_last HH.out.nodup HLEN.out hi]
        exact HM4.out
      · have := (cutRow_nodup HI.out HH.out.nodup).1
        rw [HIM.out, cutRow_last HLEN.out] at this
        exact this
    · exact fun e => h (e.elim .inl (fun e => .inr (e.elim .inl (fun e => .inr (by simp [Value.ownBlock, e])))))
  · have him2 : i < m := by omega
    have HIM := Lib.hid him
    have HD := Lib.hid hcut
    have hd : la ≠ a ∨ (la = a ∧ lb ≠ b) ∨ (la = a ∧ lb = b ∧ lc ≠ c) ∨ (la = a ∧ lb = b ∧ lc = c ∧ ld ≠ d) := by
      have := hdif him
      omega
    have HXL : Hid ((cutRow rows i).length = m) := Lib.hid (by have := cutRow_length HI.out; have := HLEN.out; omega)
    have HC := Lib.hid (cutRow_set HLEN.out HLM.out him)
    have HPM := Lib.hid (posMap_cut HH.out.nodup HLEN.out HI.out HLM.out him)
    have HND := Lib.hid (cutRow_nodup HI.out HH.out.nodup).1
    have HHP : Hid (hpull rows i = hup i (hdown m (cutRow rows i) i) i) := Lib.hid (by
      unfold hpull
      rw [if_neg (by have := HLEN.out; omega), show rows.length - 1 = m by have := HLEN.out; omega])
    have HTL : Hid ((rows.take m).length = m) := Lib.hid (by rw [List.length_take, HLEN.out]; omega)
    generalize hcs : splice cur (m * 5) (Value.agg #[.int .i64 0, .int .i64 0, .int .i64 0, .int .i64 0, .int .i64 0]).cells.toList = cs at HO4
    clear hcut hdif him hcs
    have hA67 : aggB Try.prog 67 [Value.int .i64 la, .int .i64 lb, .int .i64 lc, .int .i64 ld, .int .i64 lx].length = true := by kernel_rfl
    have hA29 : aggB Try.prog 29 [Value.int .i64 la, .int .i64 lb, .int .i64 lc, .int .i64 ld].length = true := by kernel_rfl
    have HDL := Lib.hid ((hdown_perm m (cutRow rows i) i).length_eq.trans HXL.out)
    rcases hd with hd | ⟨rfl, hd⟩ | ⟨rfl, rfl, hd⟩ | ⟨rfl, rfl, rfl, hd⟩
    all_goals
      go_wp2_with first
        | ((with_reducible refine tot_done ?ht ?_); (case ht => rfl))
        | ((with_reducible refine wp_region_text ?hm ?hb ?_); (case hm => kernel_rfl); (case hb => decide +kernel))
        | ((with_reducible refine wpList_load_agg (b := w2.heap.size) (o := 0) [.int .i64 la, .int .i64 lb, .int .i64 lc, .int .i64 ld, .int .i64 lx] ?hA ?hx ?hc ?_); (case hx => rfl); (case hA => with_reducible exact hA67); (case hc => exact HLB.out))
        | ((with_reducible refine wpList_store_agg (R := R) (o := i * 5) (cs := cs) (e := 67) [.int .i64 la, .int .i64 lb, .int .i64 lc, .int .i64 ld, .int .i64 lx] ?hA ?hx ?hy ?hR ?hf ?h1 ?_); (case hx => rfl); (case hy => rfl); (case hA => with_reducible exact hA67); (case hR => exact HO4.out.heap); (case hf => exact HO4.out.fit (by rw [HTL.out]; exact him2)); (case h1 => exact hone ⟨⟨la, lb, lc, ld⟩, lx⟩))
      intro w5 hR5 hK5
      replace hK5 := hK5.undrew
      have hO5 := HO4.out.store hcells (i := i) ⟨⟨la, lb, lc, ld⟩, lx⟩ (by rw [HTL.out]; exact him2) hR5
      rw [← HC.out] at hO5
      have HO5 := Lib.hid hO5
      have HM5 := Lib.hid (HM4.out.keep hK5.drew hMR)
      have hb5 := hK5.heap HB4.out hRB
      have HB5 := Lib.hid hb5
      have hl5 := hK5.heap HLB4.out (by omega)
      have HL5 := Lib.hid (fun (q : Nat) (u : Value) (hq : [Value.int .i64 la, .int .i64 lb, .int .i64 lc, .int .i64 ld][q]? = some u) => show w5.drew.cell? ⟨w2.heap.size, 0 + q, none⟩ = some u by
        rw [show w5.drew.cell? ⟨w2.heap.size, 0 + q, none⟩ = w5.cell? ⟨w2.heap.size, 0 + q, none⟩ from rfl, cell_of hl5, Nat.zero_add, ← hq]
        have := (List.getElem?_eq_some_iff.1 hq).1
        match q, this with
        | 0, _ => rfl
        | 1, _ => rfl
        | 2, _ => rfl
        | 3, _ => rfl)
      have h05 : w5.cell? ⟨B, 0, none⟩ = some (.slice (some ⟨R, 0, none⟩) m cap) := by rw [cell_of hb5]; rfl
      have h15 : w5.cell? ⟨B, 1, none⟩ = some (.map (some M)) := by rw [cell_of hb5]; rfl
      have HK5 := Lib.hid (HK4.out.trans hK5 (U := fun b => b = B ∨ b = M ∨ b = R) (fun y _ h => ⟨h, fun e => h (.inr (.inr e))⟩))
      clear hR5 hK5 hO5 hb5 hl5 HO4 HM4 HB4 HLB4 HLB HK4
      go_wp2_with first
        | ((with_reducible refine tot_done ?ht ?_); (case ht => rfl))
        | ((with_reducible refine wp_region_text ?hm ?hb ?_); (case hm => kernel_rfl); (case hb => decide +kernel))
        | ((with_reducible refine wpList_load_agg (b := w2.heap.size) (o := 0) [.int .i64 la, .int .i64 lb, .int .i64 lc, .int .i64 ld] ?hA ?hx ?hc ?_); (case hx => rfl); (case hA => with_reducible exact hA29); (case hc => exact HL5.out))
        | ((with_reducible refine wpList_mapUpdate (M := M) keyed Try.underlying61 HM5.out ⟨la, lb, lc, ld⟩ (.int .i64 i) ?hx ?hy ?hz ?_); (case hx => rfl); (case hy => exact (wholeKey _ _ _ _).symm); (case hz => rfl))
      intro w6 hM6 hK6 hs6
      replace hK6 := hK6.undrew
      have hH6 : HeapAt lo w6 B M (.slice (some ⟨R, 0, none⟩) m cap) (cutRow rows i) := by
        have ho := (HO5.out.own hcells)
        rw [HXL.out] at ho
        refine ⟨hK6.heap HB5.out hMB, ho.keep hK6 (fun b e1 e2 => ?_), ?_, HND.out, HH.out.lob, HH.out.lom⟩
        · simp only [Value.ownBlock, Option.some.injEq] at e1
          exact hMR (e2.symm.trans e1.symm)
        · rw [← HPM.out]
          exact hM6
      have HK6 := Lib.hid (HK5.out.trans hK6 (U := fun b => b = B ∨ b = M ∨ b = R) (fun y _ h => ⟨h, fun e => h (.inr (.inl e))⟩))
      have HH6 := Lib.hid hH6
      clear hM6 hK6 hs6 hH6 h05 h15 HO5 HM5 HL5 HB5 HK5
      go_wp2_with first
        | ((with_reducible refine tot_done ?ht ?_); (case ht => rfl))
        | (go_at_call 37; refine (down_calls lo B M i _ _ _ HH6.out (by rw [HXL.out]; exact him2) (by rw [HXL.out]; omega)).mono ?_; rintro e w7 ⟨rfl, hH7, hK7⟩; rw [HXL.out] at hH7)
        | (go_at_call 27; refine (up_calls lo B M i _ _ _ hH7 (by rw [HDL.out]; exact him2) (by rw [HDL.out]; omega)).mono ?_; rintro e w8 ⟨rfl, hH8, hK8⟩)
      refine bodyPost_ret (v := .tuple #[.int .i64 x, .int .i64 0]) (by simp [results, Try.results23, go_sem]) rfl ⟨rfl, ?_⟩
      refine ⟨.slice (some ⟨R, 0, none⟩) m cap, ?_, (HK6.out.trans (hK7.trans hK8 (fun _ _ h => ⟨h, h⟩)) (fun y _ h => ⟨fun e => h ?_, fun e => h ?_⟩)), rfl⟩
      · rw [HHP.out]; exact hH8
      · exact e.elim .inl (fun e => .inr (e.elim .inl (fun e => .inr (by simp [Value.ownBlock, e]))))
      · exact .inr (e.elim .inl (fun e => .inr (by simpa [Value.ownBlock] using e)))
end Go.Proofs.Ytnkngclfbmcmhaa
