import Derived.Test.YtnkngclfbmcmhaaW4
namespace Go.Proofs.Ytnkngclfbmcmhaa
open Go.RowKit Reg Mem

theorem elemRow : Elem Try.prog 62 67 5 40 := ⟨_, .agg #[.int .i64 0, .int .i64 0, .int .i64 0, .int .i64 0, .int .i64 0], Try.underlying62, rfl, by kernel_rfl, by kernel_rfl, by kernel_rfl, by kernel_rfl, by omega⟩
theorem hone : ∀ r : Row, ∀ u ∈ r.cells, u.oneCell' = true := fun _ => one_row _ _ _ _ _

theorem len_calls (lo B M : Nat) (v : Value) (rows : List Row) (w : World) (hH : HeapAt lo w B M v rows) :
    Calls Try.prog 14 #[.pointer (some ⟨B, 0, none⟩)] w fun e w' => e = .returned (.int .i64 rows.length) ∧ w = w' := by
  obtain ⟨a0, cap, rfl⟩ := hH.own.form
  have h0 : w.cell? ⟨B, 0, none⟩ = some (.slice a0 rows.length cap) := by rw [cell_of hH.cell]; rfl
  clear hH
  go_enter Try.func14, Try.ntmps14
  go_wp2
  go_ret
  exact ⟨rfl, rfl⟩

def NewPost (w : World) (e : Ending) (w' : World) : Prop :=
  e = .returned (.pointer (some ⟨w.heap.size + 1, 0, none⟩)) ∧ w'.heap.size = w.heap.size + 2 ∧ (∀ lo, lo ≤ w.heap.size → HeapAt lo w' (w.heap.size + 1) w.heap.size (.slice none 0 0) []) ∧ Below w.heap.size w w'
theorem new_calls (w : World) : Calls Try.prog 9 #[] w (NewPost w) := by
  have hmm := @run_makeMap Try.prog
  go_enter Try.func9, Try.ntmps9
  go_wp2
  go_ret
  refine ⟨rfl, by simp, fun lo hlo => ⟨?_, ⟨rfl, .inl ⟨rfl, rfl⟩⟩, ?_, by simp, by omega, by omega⟩, ?_⟩
  · have := heap_alloc_new (w.alloc (.map #[] 0)) (.cells #[.slice none 0 0, .map (some w.heap.size)] 64)
    rw [World.size_alloc] at this
    exact this
  · exact (MapIs.empty w).heap (Below.heap_alloc _ _ _ (by simp))
  · exact ((Below.refl _ w).alloc (Nat.le_refl _) _).alloc (by simp) _

def PushPost (lo B M : Nat) (v : Value) (rows : List Row) (r : Row) (w : World) (e : Ending) (w' : World) : Prop :=
  e = .returned (.int .i64 0) ∧ ∃ v', HeapAt lo w' B M v' (hup rows.length (rows ++ [r]) rows.length) ∧ Keep (fun b => b = B ∨ b = M ∨ v.ownBlock = some b) w w' ∧ (∀ R, v'.ownBlock = some R → v.ownBlock = some R ∨ w.heap.size ≤ R)

theorem push_there (lo B M : Nat) (v : Value) (rows : List Row) (a b c d x : Int) (w : World) (hH : HeapAt lo w B M v rows) (hm : (⟨a, b, c, d⟩ : Key) ∈ rows.map (·.key)) :
    Calls Try.prog 11 #[.pointer (some ⟨B, 0, none⟩), .agg #[.int .i64 a, .int .i64 b, .int .i64 c, .int .i64 d], .int .i64 x] w fun e w' => e = .returned (.int .i64 13) ∧ Below w.heap.size w w' := by
  have h1 : w.cell? ⟨B, 1, none⟩ = some (.map (some M)) := by rw [cell_of hH.cell]; rfl
  have hB : B < w.heap.size := (Array.getElem?_eq_some_iff.1 hH.cell).1
  have hz := Try.zeroValue3
  obtain ⟨r0, hr0, hk0⟩ := List.mem_map.1 hm
  obtain ⟨n, hn, he⟩ := List.mem_iff_getElem.1 hr0
  have hp := posMap_some hH.nodup (i := n) (r := r0) (by rw [List.getElem?_eq_getElem hn, he])
  rw [hk0] at hp
  have HP := Lib.hid hp
  have HM := Lib.hid hH.map
  clear hH hm hp hr0 hk0 he
  go_enter Try.func11, Try.ntmps11
  go_wp2_with first
    | ((with_reducible refine tot_done ?ht ?_); (case ht => rfl))
    | ((with_reducible refine wp_region_text ?hm ?hb ?_); (case hm => kernel_rfl); (case hb => decide +kernel))
    | ((with_reducible refine wpList_lookup_ok (M := M) (m := posMap rows) (zv := .int .i64 0) (v := .int .i64 n) (b := true) keyed Try.underlying61 ?hz ?hM ⟨a, b, c, d⟩ ?hx ?hy ?hv ?hb ?_); (case hx => rfl); (case hy => exact (wholeKey _ _ _ _).symm); (case hM => exact HM.out.heap (Below.heap_alloc _ _ _ HM.out.lt)); (case hz => exact hz); (case hv => rw [HP.out]; rfl); (case hb => rw [HP.out]; rfl))
  go_ret
  exact ⟨rfl, ((Below.refl _ w).alloc (Nat.le_refl _) _).drew⟩

theorem posMap_push {rows : List Row} {r : Row} (h : r.key ∉ rows.map (·.key)) (hd : (rows.map (·.key)).Nodup) : (fun k => if k = r.key then some (.int .i64 (rows.length : Int)) else posMap rows k) = posMap (rows ++ [r]) := by
  have hd' : ((rows ++ [r]).map (·.key)).Nodup := by
    rw [List.map_append, List.nodup_append]
    exact ⟨hd, by simp, fun a ha b hb => by simp at hb; subst hb; exact fun e => h (e ▸ ha)⟩
  funext k
  by_cases h1 : k = r.key
  · subst h1; rw [if_pos rfl, posMap_some hd' (i := rows.length) (by simp)]
  · rw [if_neg h1]
    cases hp : posMap rows k with
    | none =>
      rw [posMap_none]
      rw [List.map_append, List.mem_append]
      rintro (hk | hk)
      · obtain ⟨r0, hr0, hk0⟩ := List.mem_map.1 hk
        obtain ⟨n, hn, he⟩ := List.mem_iff_getElem.1 hr0
        have := posMap_some hd (i := n) (r := r0) (by rw [List.getElem?_eq_getElem hn, he])
        rw [hk0, hp] at this; cases this
      · simp at hk; exact h1 hk
    | some v =>
      obtain ⟨n, r0, hn, hk0, rfl⟩ := posMap_elim hp
      subst hk0
      rw [posMap_some hd' (i := n) (by rw [List.getElem?_append_left (List.getElem?_eq_some_iff.1 hn).1]; exact hn)]
theorem row_rd {w : World} {b : Nat} {a b1 c d x : Int} (h : w.heap[b]? = some (.cells #[.int .i64 a, .int .i64 b1, .int .i64 c, .int .i64 d, .int .i64 x] 67 (0, 0))) :
    Rd Row.cells w (.slice (some ⟨b, 0, none⟩) 1 1) [(⟨⟨a, b1, c, d⟩, x⟩ : Row)] := by
  refine ⟨some ⟨b, 0, none⟩, 1, rfl, fun h => (by cases h), fun ad ha j u hu => ?_⟩
  cases ha
  rw [add_none, cell_of h, Nat.zero_add]
  rw [← hu]
  simp [flatE, Row.cells]
set_option maxHeartbeats 1000000 in
set_option maxRecDepth 100000 in
theorem push_new (lo B M : Nat) (v : Value) (rows : List Row) (a b c d x : Int) (w : World) (hH : HeapAt lo w B M v rows) (hm : (⟨a, b, c, d⟩ : Key) ∉ rows.map (·.key)) (hmax : rows.length < 4294967296) (hlo : lo ≤ w.heap.size) :
    Calls Try.prog 11 #[.pointer (some ⟨B, 0, none⟩), .agg #[.int .i64 a, .int .i64 b, .int .i64 c, .int .i64 d], .int .i64 x] w (PushPost lo B M v rows ⟨⟨a, b, c, d⟩, x⟩ w) := by
  have hB : B < w.heap.size := (Array.getElem?_eq_some_iff.1 hH.cell).1
  have hM : M < w.heap.size := hH.map.lt
  have hMB : B ≠ M := fun e => by obtain ⟨l, ⟨es, ck, h, _⟩, _⟩ := hH.map; have hc := hH.cell; rw [e, h] at hc; simp at hc
  have hRB : v.ownBlock ≠ some B := fun e => by
    rcases hH.own.2 with ⟨rfl, _⟩ | ⟨g, cap, cur, rfl, _, hg, _⟩
    · simp [Value.ownBlock] at e
    · simp only [Value.ownBlock, Option.some.injEq] at e; have hc := hH.cell; rw [← e, hg] at hc; simp at hc
  have hRM : v.ownBlock ≠ some M := fun e => by
    obtain ⟨l, ⟨es, ck, h, _⟩, _⟩ := hH.map
    rcases hH.own.2 with ⟨rfl, _⟩ | ⟨g, cap, cur, rfl, _, hg, _⟩
    · simp [Value.ownBlock] at e
    · simp only [Value.ownBlock, Option.some.injEq] at e; rw [← e, hg] at h; simp at h
  obtain ⟨a0, cap, rfl⟩ := hH.own.form
  have h0 : w.cell? ⟨B, 0, none⟩ = some (.slice a0 rows.length cap) := by rw [cell_of hH.cell]; rfl
  have h1 : w.cell? ⟨B, 1, none⟩ = some (.map (some M)) := by rw [cell_of hH.cell]; rfl
  have hz := Try.zeroValue3
  have HP := Lib.hid (posMap_none hm)
  have HH := Lib.hid hH
  have HMem := Lib.hid hm
  clear hH hm
  go_enter Try.func11, Try.ntmps11
  go_wp2_with first
    | ((with_reducible refine tot_done ?ht ?_); (case ht => rfl))
    | ((with_reducible refine wp_region_text ?hm ?hb ?_); (case hm => kernel_rfl); (case hb => decide +kernel))
    | ((with_reducible refine wpList_lookup_ok (M := M) (m := posMap rows) (zv := .int .i64 0) (v := .int .i64 0) (b := false) keyed Try.underlying61 ?hz ?hM ⟨a, b, c, d⟩ ?hx ?hy ?hv ?hb ?_); (case hx => rfl); (case hy => exact (wholeKey _ _ _ _).symm); (case hM => exact HH.out.map.heap (Below.heap_alloc _ _ _ hM)); (case hz => exact hz); (case hv => rw [HP.out]; rfl); (case hb => rw [HP.out]; rfl))
    | ((with_reducible refine wpList_append (v := .slice a0 rows.length cap) (sv := .slice (some ⟨w.heap.size + 1, 0, none⟩) 1 1) (lo := lo) (xs := rows) (ys := [⟨⟨a, b, c, d⟩, x⟩]) elemRow hcells hone ?hO ?hr ?hmx ?hby ?hlo ?hx ?hy ?_); (case hx => rfl); (case hy => rfl))
  case hO => exact HH.out.own.keep ((((Keep.refl (fun _ => False) w).alloc _).alloc _).drew.drew) (fun _ _ h => h)
  case hr =>
    refine row_rd ?_
    have := heap_alloc_new (w.alloc (.cells #[.int .i64 a, .int .i64 b, .int .i64 c, .int .i64 d] 29)) (.cells #[.int .i64 a, .int .i64 b, .int .i64 c, .int .i64 d, .int .i64 x] 67)
    rw [World.size_alloc] at this
    exact this
  case hmx => simp [maxLen]; omega
  case hby => simp; omega
  case hlo => simp; omega
  intro v' w2 hO2 hK2 hv2
  have hKw : Keep (fun b => (Value.slice a0 rows.length cap).ownBlock = some b) w w2 := by
    refine (((((Keep.refl (fun _ => False) w).alloc _).alloc _).drew.drew)).trans hK2 (fun y _ h => ⟨id, h⟩)
  have hsz : w.heap.size + 2 ≤ w2.heap.size := by have := hK2.size; simp at this; omega
  have hkb : w2.heap[w.heap.size]? = some (.cells #[.int .i64 a, .int .i64 b, .int .i64 c, .int .i64 d] 29 (0, 0)) := by
    rw [hK2.block w.heap.size (by simp; omega) (fun e => by
      rcases HH.out.own.2 with ⟨e1, _⟩ | ⟨g, cap, cur, e1, _, hg, _⟩
      · rw [e1] at e; simp [Value.ownBlock] at e
      · rw [e1] at e; simp only [Value.ownBlock, Option.some.injEq] at e
        have := (Array.getElem?_eq_some_iff.1 hg).1; omega)]
    have := heap_alloc_new w (.cells #[.int .i64 a, .int .i64 b, .int .i64 c, .int .i64 d] 29)
    rw [← Below.heap_alloc _ (.cells #[.int .i64 a, .int .i64 b, .int .i64 c, .int .i64 d, .int .i64 x] 67) _ (by simp)] at this
    exact this
  have hcellB := hKw.heap HH.out.cell hRB
  have hmap2 := HH.out.map.keep hKw hRM
  have hfr : ∀ R, v'.ownBlock = some R → (Value.slice a0 rows.length cap).ownBlock = some R ∨ w.heap.size ≤ R := fun R hR => by
    rcases hv2 with h | h
    · exact .inl (h ▸ hR)
    · rw [h] at hR; cases hR; right; simp; omega
  obtain ⟨a1, cap1, rfl⟩ := hO2.form
  have HO2 := Lib.hid hO2
  have HFR := Lib.hid hfr
  have HKw := Lib.hid hKw
  have HB2 := Lib.hid hcellB
  have HM2 := Lib.hid hmap2
  have HKB := Lib.hid hkb
  have hk0 : w2.cell? ⟨w.heap.size, 0, none⟩ = some (.int .i64 a) := by rw [cell_of hkb]; rfl
  clear hO2 hK2 hv2 hfr hKw hcellB hmap2 hkb h0 h1
  have hkf : ∀ q u, [Value.int .i64 a, .int .i64 b, .int .i64 c, .int .i64 d][q]? = some u → w2.cell? ⟨w.heap.size, 0 + q, none⟩ = some u := fun q u hq => by rw [cell_of HKB.out, Nat.zero_add, ← hq]; simp
  have HKF := Lib.hid hkf
  have el : (rows ++ [(⟨⟨a, b, c, d⟩, x⟩ : Row)]).length = rows.length + 1 := by simp
  rw [el] at HFR HO2
  have hmax2 : (rows.length : Int) < 4294967296 := by omega
  clear hkf hk0 el
  go_wp2_with first
    | ((with_reducible refine wpList_store_one (R := B) (o := 0) (cs := #[.slice a0 rows.length cap, .map (some M)]) (e := 64) (.slice a1 (rows.length + 1) cap1) ?hs ?hx ?hy ?hR ?hf ?h1 ?_); (case hs => kernel_rfl); (case hx => rfl); (case hy => rfl); (case hR => exact HB2.out); (case hf => simp); (case h1 => rfl))
  intro w3 hB3 hK3
  have hB3' : w3.heap[B]? = some (.cells #[.slice a1 (rows.length + 1) cap1, .map (some M)] 64 (0, 0)) := by rw [hB3]; rfl
  have h0 : w3.cell? ⟨B, 0, none⟩ = some (.slice a1 (rows.length + 1) cap1) := by rw [cell_of hB3']; rfl
  have h1 : w3.cell? ⟨B, 1, none⟩ = some (.map (some M)) := by rw [cell_of hB3']; rfl
  have hne : ∀ R, (Value.slice a1 (rows.length + 1) cap1).ownBlock = some R → R ≠ B := fun R hR e => by
    rcases HFR.out R hR with h | h
    · exact hRB (e ▸ h)
    · omega
  have HO3 := Lib.hid (HO2.out.keep hK3 hne)
  have HM3 := Lib.hid (HM2.out.keep hK3 (fun e => hMB e.symm))
  have HKF3 := Lib.hid (fun q u hq => hK3.cell (HKF.out q u hq) (fun e : w.heap.size = B => by omega))
  have HK3 := Lib.hid (HKw.out.trans hK3 (U := fun b => b = B ∨ (Value.slice a0 rows.length cap).ownBlock = some b) (fun y _ h => ⟨fun e => h (.inr e), fun e => h (.inl e)⟩))
  have HB3 := Lib.hid hB3'
  have hsz3 := hK3.size
  clear hB3 hB3' hK3 hne HO2 HM2 HKF HKw HB2 HKB
  go_wp2_with first
    | ((with_reducible refine tot_done ?ht ?_); (case ht => rfl))
    | ((with_reducible refine wp_region_text ?hm ?hb ?_); (case hm => kernel_rfl); (case hb => decide +kernel))
    | ((with_reducible refine wpList_load_agg (b := w.heap.size) (o := 0) [.int .i64 a, .int .i64 b, .int .i64 c, .int .i64 d] ?hA ?hx ?hc ?_); (case hx => rfl); (case hA => kernel_rfl); (case hc => exact HKF3.out))
    | ((with_reducible refine wpList_mapUpdate (M := M) (m := posMap rows) keyed Try.underlying61 ?hM ⟨a, b, c, d⟩ (.int .i64 rows.length) ?hx ?hy ?hz ?_); (case hx => rfl); (case hy => exact (wholeKey _ _ _ _).symm); (case hz => rfl); (case hM => exact HM3.out))
  intro w4 hM4 hK4 hs4
  have hne : ∀ R, (Value.slice a1 (rows.length + 1) cap1).ownBlock = some R → R ≠ M := fun R hR e => by
    rcases HFR.out R hR with h | h
    · exact hRM (e ▸ h)
    · omega
  replace hK4 := hK4.undrew
  have h0' := hK4.cell h0 hMB
  have hH4 : HeapAt lo w4 B M (.slice a1 (rows.length + 1) cap1) (rows ++ [⟨⟨a, b, c, d⟩, x⟩]) := by
    refine ⟨hK4.heap HB3.out hMB, HO3.out.keep hK4 hne, ?_, ?_, HH.out.lob, HH.out.lom⟩
    · rw [← posMap_push HMem.out HH.out.nodup]; exact hM4
    · rw [List.map_append, List.nodup_append]
      exact ⟨HH.out.nodup, by simp, fun y hy z hz => by simp at hz; subst hz; exact fun e => HMem.out (e ▸ hy)⟩
  have HK4 := Lib.hid (HK3.out.trans hK4 (U := fun b => b = B ∨ b = M ∨ (Value.slice a0 rows.length cap).ownBlock = some b) (fun y _ h => ⟨fun e => e.elim (fun e => h (.inl e)) (fun e => h (.inr (.inr e))), fun e => h (.inr (.inl e))⟩))
  have HH4 := Lib.hid hH4
  clear hM4 hK4 hs4 hne hH4 h0 h1 HO3 HM3 HKF3 HK3 HB3
  go_wp2_with first
    | ((with_reducible refine tot_done ?ht ?_); (case ht => rfl))
    | (go_at_call 27; refine (up_calls lo B M rows.length _ _ _ HH4.out (by simp) (by simp; omega)).mono ?_; rintro e w5 ⟨rfl, hH5, hK5⟩)
  go_ret
  refine ⟨rfl, _, hH5, HK4.out.trans hK5 (fun y hy h => ⟨h, ?_⟩), HFR.out⟩
  rintro (e | e)
  · exact h (.inr (.inl e))
  · rcases HFR.out y e with h2 | h2
    · exact h (.inr (.inr h2))
    · omega
end Go.Proofs.Ytnkngclfbmcmhaa
