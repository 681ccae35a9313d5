import Derived.Test.YtnkngclfbmcmhaaW1
import Derived.Test.YtnkngclfbmcmhaaMem
import Derived.Lib.Hide
namespace Go.Proofs.Ytnkngclfbmcmhaa
open Go.RowKit Reg Mem

structure Row where
  key : Key
  v : Int
def Row.cells (r : Row) : List Value := [.int .i64 r.key.at_, .int .i64 r.key.src, .int .i64 r.key.sent, .int .i64 r.key.no, .int .i64 r.v]
theorem hcells : ∀ r : Row, r.cells.length = 5 := fun _ => rfl
theorem key_facts {w : World} {R o : Nat} {a b c d v : Int} (h : ∀ j u, (Row.cells ⟨⟨a, b, c, d⟩, v⟩)[j]? = some u → w.cell? ⟨R, o + j, none⟩ = some u) :
    ∀ q u, [Value.int .i64 a, .int .i64 b, .int .i64 c, .int .i64 d][q]? = some u → w.cell? ⟨R, o + q, none⟩ = some u := fun q u hq => h q u (by
  rw [← hq]; have := (List.getElem?_eq_some_iff.1 hq).1; simp only [List.length_cons, List.length_nil] at this; unfold Row.cells
  match q, this with | 0, _ => rfl | 1, _ => rfl | 2, _ => rfl | 3, _ => rfl)
def keyed : Keyed Try.prog 29 Key.cells :=
  ⟨[.int .i64, .int .i64, .int .i64, .int .i64], by kernel_rfl, fun _ => rfl, fun a b => by
    obtain ⟨a1, a2, a3, a4⟩ := a; obtain ⟨b1, b2, b3, b4⟩ := b
    simp only [Key.cells, ceqs, ceq, Bool.and_true, Key.mk.injEq]
    rw [Bool.eq_iff_iff]; simp⟩
theorem wholeKey (a b c d : Int) : whole Try.prog 29 (Key.cells ⟨a, b, c, d⟩) = .agg #[.int .i64 a, .int .i64 b, .int .i64 c, .int .i64 d] := by kernel_rfl

set_option maxHeartbeats 400000 in
theorem ahead_calls (lo B M i j : Nat) (v : Value) (rows : List Row) (r r' : Row) (w : World) (hcell : w.heap[B]? = some (.cells #[v, .map (some M)] 64 (0, 0)))
    (hown : Owns 67 Row.cells 5 lo w v rows) (hi : rows[i]? = some r) (hj : rows[j]? = some r') :
    Calls Try.prog 39 #[.pointer (some ⟨B, 0, none⟩), .int .i64 i, .int .i64 j] w fun e w' => e = .returned (.bool (decide (Key.cmp r.key r'.key < 0))) ∧ Below w.heap.size w w' := by
  have hi1 := (List.getElem?_eq_some_iff.1 hi).1
  have hj1 := (List.getElem?_eq_some_iff.1 hj).1
  obtain ⟨R, cap, cur, rfl, hO⟩ := hown.some (by omega)
  have h0 : w.cell? ⟨B, 0, none⟩ = some (.slice (some ⟨R, 0, none⟩) rows.length cap) := by rw [cell_of hcell]; rfl
  have hci := hO.cells hcells hi
  have hcj := hO.cells hcells hj
  generalize rows.length = n at *
  obtain ⟨⟨a, b, c, d⟩, v⟩ := r
  obtain ⟨⟨a', b', c', d'⟩, v'⟩ := r'
  have hi2 : (i : Int) < n := by omega
  have hj2 : (j : Int) < n := by omega
  have Hi := Lib.hid (key_facts hci)
  have Hj := Lib.hid (key_facts hcj)
  clear hci hcj hi hj hcell hown hO
  go_enter Try.func39, Try.ntmps39
  go_wp2
  refine wp_region_text (by kernel_rfl) (by decide +kernel) ?_
  go_wp2_with first
    | ((with_reducible refine wpList_load_agg (b := R) (o := i * 5) [.int .i64 a, .int .i64 b, .int .i64 c, .int .i64 d] ?hA ?hx ?hc ?_); (case hx => rfl); (case hA => kernel_rfl); (case hc => exact Hi.out))
    | ((with_reducible refine wpList_load_agg (b := R) (o := j * 5) [.int .i64 a', .int .i64 b', .int .i64 c', .int .i64 d'] ?hA ?hx ?hc ?_); (case hx => rfl); (case hA => kernel_rfl); (case hc => exact Hj.out))
    | (go_at_call 13; refine (compare_calls _ _ _ _ _ _ _ _ _).mono ?_; rintro e w1 ⟨rfl, hb1⟩)
    | ((with_reducible refine tot_done ?ht ?_); (case ht => rfl))
  go_ret
  exact ⟨rfl, below_undrew ‹_›⟩

/-- Two rows' exchange. -/
def xch (rows : List Row) (i j : Nat) (r r' : Row) : List Row := (rows.set i r').set j r

theorem one_row (a b c d v : Int) : ∀ u ∈ [Value.int .i64 a, .int .i64 b, .int .i64 c, .int .i64 d, .int .i64 v], u.oneCell' = true := by simp [Value.oneCell']
def SwapPost (lo B M i j : Nat) (v : Value) (m : Key → Option Value) (rows : List Row) (r r' : Row) (w : World) (e : Ending) (w' : World) : Prop :=
  e = .returned (.tuple #[]) ∧ w'.heap[B]? = w.heap[B]? ∧ Owns 67 Row.cells 5 lo w' v (xch rows i j r r') ∧
      MapIs Try.prog w' M 29 Key.cells (fun k => if k = r.key then some (.int .i64 j) else if k = r'.key then some (.int .i64 i) else m k) ∧ Keep (fun b => b = M ∨ v.ownBlock = some b) w w'

set_option maxHeartbeats 1000000 in
set_option maxRecDepth 100000 in
theorem swap_calls (lo B M i j : Nat) (v : Value) (m : Key → Option Value) (rows : List Row) (r r' : Row) (w : World) (hcell : w.heap[B]? = some (.cells #[v, .map (some M)] 64 (0, 0)))
    (hown : Owns 67 Row.cells 5 lo w v rows) (hmap : MapIs Try.prog w M 29 Key.cells m) (hi : rows[i]? = some r) (hj : rows[j]? = some r') (hne : i ≠ j) :
    Calls Try.prog 40 #[.pointer (some ⟨B, 0, none⟩), .int .i64 i, .int .i64 j] w (SwapPost lo B M i j v m rows r r' w) := by
  have hi1 := (List.getElem?_eq_some_iff.1 hi).1
  have hj1 := (List.getElem?_eq_some_iff.1 hj).1
  obtain ⟨R, cap, cur, rfl, hO⟩ := hown.some (by omega)
  have h0 : w.cell? ⟨B, 0, none⟩ = some (.slice (some ⟨R, 0, none⟩) rows.length cap) := by rw [cell_of hcell]; rfl
  have h1 : w.cell? ⟨B, 1, none⟩ = some (.map (some M)) := by rw [cell_of hcell]; rfl
  have hRB : B ≠ R := fun e => by rw [e, hO.heap] at hcell; simp at hcell
  have hMB : B ≠ M := fun e => by obtain ⟨l, ⟨es, ck, h, _⟩, _⟩ := hmap; rw [e, h] at hcell; simp at hcell
  have hMR : M ≠ R := fun e => by obtain ⟨l, ⟨es, ck, h, _⟩, _⟩ := hmap; rw [e, hO.heap] at h; simp at h
  have Hi := Lib.hid (hO.cells hcells hi)
  have Hj := Lib.hid (hO.cells hcells hj)
  have hfi := hO.fit hi1
  have hfj := hO.fit hj1
  generalize hn : rows.length = n at h0 hi1 hj1
  have Hn := Lib.hid hn
  clear hn
  obtain ⟨⟨a, b, c, d⟩, v⟩ := r
  obtain ⟨⟨a', b', c', d'⟩, v'⟩ := r'
  have hi2 : (i : Int) < n := by omega
  have hj2 : (j : Int) < n := by omega
  have HO := Lib.hid hO
  have Hcell := Lib.hid hcell
  have Hmap := Lib.hid hmap
  have Hfi := Lib.hid hfi
  have Hfj := Lib.hid hfj
  have HI := Lib.hid hi
  have HJ := Lib.hid hj
  clear hcell hown hO hmap hfi hfj hi hj
  go_enter Try.func40, Try.ntmps40
  refine wp_seq_k ?_
  intro K hK
  refine wp_region_text (by kernel_rfl) (by decide +kernel) ?_
  go_wp2_with first
    | ((with_reducible refine wpList_load_agg (b := R) (o := i * 5) [.int .i64 a, .int .i64 b, .int .i64 c, .int .i64 d, .int .i64 v] ?hA ?hx ?hc ?_); (case hx => rfl); (case hA => kernel_rfl); (case hc => exact Hi.out))
    | ((with_reducible refine wpList_load_agg (b := R) (o := j * 5) [.int .i64 a', .int .i64 b', .int .i64 c', .int .i64 d', .int .i64 v'] ?hA ?hx ?hc ?_); (case hx => rfl); (case hA => kernel_rfl); (case hc => exact Hj.out))
    | ((with_reducible refine wpList_store_agg (R := R) (o := i * 5) (cs := cur) (e := 67) [.int .i64 a', .int .i64 b', .int .i64 c', .int .i64 d', .int .i64 v'] ?hA ?hx ?hy ?hR ?hf ?h1 ?_); (case hx => rfl); (case hy => rfl); (case hA => kernel_rfl); (case hR => exact HO.out.heap); (case hf => exact Hfi.out); (case h1 => exact one_row _ _ _ _ _))
  intro w2 hR2 hK2
  have hO2 := HO.out.store hcells (i := i) ⟨⟨a', b', c', d'⟩, v'⟩ (by rw [Hn.out]; exact hi1) hR2
  have HO2 := Lib.hid hO2
  have HK2 := Lib.hid hK2.undrew
  have Hfj2 := Lib.hid (hO2.fit (i := j) (by rw [List.length_set, Hn.out]; exact hj1))
  clear hO2 hK2 hR2
  go_wp2_with first
    | ((with_reducible refine wpList_store_agg (R := R) (o := j * 5) (e := 67) [.int .i64 a, .int .i64 b, .int .i64 c, .int .i64 d, .int .i64 v] ?hA ?hx ?hy HO2.out.heap ?hf ?h1 ?_); (case hx => rfl); (case hy => rfl); (case hA => kernel_rfl); (case hf => exact Hfj2.out); (case h1 => exact one_row _ _ _ _ _))
  intro w3 hR3 hK3
  have hO3 := HO2.out.store hcells (i := j) ⟨⟨a, b, c, d⟩, v⟩ (by rw [List.length_set, Hn.out]; exact hj1) hR3
  have hK3' := HK2.out.trans hK3 (U := fun b => b = R) (fun x _ h => ⟨h, h⟩)
  have h0 := hK3'.cell h0 hRB
  have h1 := hK3'.cell h1 hRB
  have hmap3 := Hmap.out.keep hK3' hMR
  have hri : ((rows.set i ⟨⟨a', b', c', d'⟩, v'⟩).set j ⟨⟨a, b, c, d⟩, v⟩)[i]? = some ⟨⟨a', b', c', d'⟩, v'⟩ := by
    rw [List.getElem?_set_ne (by omega), List.getElem?_set_self (by rw [Hn.out]; exact hi1)]
  have hrj : ((rows.set i ⟨⟨a', b', c', d'⟩, v'⟩).set j ⟨⟨a, b, c, d⟩, v⟩)[j]? = some ⟨⟨a, b, c, d⟩, v⟩ := by
    rw [List.getElem?_set_self (by rw [List.length_set, Hn.out]; exact hj1)]
  have Hi3 := Lib.hid (key_facts (hO3.cells hcells hri))
  have Hj3 := Lib.hid (key_facts (hO3.cells hcells hrj))
  have HO3 := Lib.hid hO3
  have HK3 := Lib.hid hK3'
  have Hmap3 := Lib.hid hmap3
  clear hO3 hK3' hmap3 hri hrj hR3 hK3 HO2 HK2 Hi Hj Hmap HO
  go_wp2_with first
    | ((with_reducible refine tot_done ?ht ?_); (case ht => rfl))
    | ((with_reducible refine wp_region_text ?hm ?hb ?_); (case hm => kernel_rfl); (case hb => decide +kernel))
    | ((with_reducible refine wpList_load_agg (b := R) (o := i * 5) [.int .i64 a', .int .i64 b', .int .i64 c', .int .i64 d'] ?hA ?hx ?hc ?_); (case hx => rfl); (case hA => kernel_rfl); (case hc => exact Hi3.out))
    | ((with_reducible refine wpList_mapUpdate (M := M) (m := m) keyed Try.underlying61 ?hM ⟨a', b', c', d'⟩ (.int .i64 i) ?hx ?hy ?hz ?_); (case hx => rfl); (case hy => exact (wholeKey _ _ _ _).symm); (case hz => rfl); (case hM => exact Hmap3.out))
  intro w4 hM4 hK4 hs4
  replace hK4 := hK4.undrew
  have hK4' := HK3.out.trans hK4 (U := fun b => b = M ∨ b = R) (fun x _ h => ⟨fun e => h (.inr e), fun e => h (.inl e)⟩)
  have h0 := hK4.cell h0 hMB
  have h1 := hK4.cell h1 hMB
  have Hj4 := Lib.hid (fun q u hq => hK4.cell (Hj3.out q u hq) (fun e : R = M => hMR e.symm))
  have HO4 := Lib.hid (HO3.out.world (hK4.block R (Array.getElem?_eq_some_iff.1 HO3.out.heap).1 (fun e => hMR e.symm)))
  have HK4 := Lib.hid hK4'
  have HM4 := Lib.hid hM4
  clear hK4' hK4 hM4 hs4 HK3 Hi3 Hj3 Hmap3 HO3
  go_wp2_with first
    | ((with_reducible refine tot_done ?ht ?_); (case ht => rfl))
    | ((with_reducible refine wp_region_text ?hm ?hb ?_); (case hm => kernel_rfl); (case hb => decide +kernel))
    | ((with_reducible refine wpList_load_agg (b := R) (o := j * 5) [.int .i64 a, .int .i64 b, .int .i64 c, .int .i64 d] ?hA ?hx ?hc ?_); (case hx => rfl); (case hA => kernel_rfl); (case hc => exact Hj4.out))
    | ((with_reducible refine wpList_mapUpdate (M := M) (m := fun x => if x = (⟨a', b', c', d'⟩ : Key) then some (.int .i64 i) else m x) keyed Try.underlying61 ?hM ⟨a, b, c, d⟩ (.int .i64 j) ?hx ?hy ?hz ?_); (case hx => rfl); (case hy => exact (wholeKey _ _ _ _).symm); (case hz => rfl); (case hM => exact HM4.out))
  intro w5 hM5 hK5 hs5
  replace hK5 := hK5.undrew
  have HK5 := Lib.hid (HK4.out.trans hK5 (U := fun b => b = M ∨ b = R) (fun x _ h => ⟨h, fun e => h (.inl e)⟩))
  have HO5 := Lib.hid (HO4.out.world (hK5.block R (Array.getElem?_eq_some_iff.1 HO4.out.heap).1 (fun e => hMR e.symm)))
  have HM5 := Lib.hid hM5
  clear hM5 hK5 hs5
  go_wp2_with first
    | ((with_reducible refine tot_done ?ht ?_); (case ht => rfl))
  go_end0
  refine ⟨rfl, HK5.out.block B (Array.getElem?_eq_some_iff.1 Hcell.out).1 (by rintro (h | h); exact hMB h; exact hRB h), ?_, ?_, HK5.out.mono (fun x _ h => ?_)⟩
  · have := HO5.out.own hcells
    simp only [List.length_set, Hn.out] at this
    exact this
  · exact HM5.out
  · rintro (h1 | h1)
    · exact h (.inl h1)
    · exact h (.inr (by rw [h1]; rfl))
#print axioms swap_calls
end Go.Proofs.Ytnkngclfbmcmhaa
