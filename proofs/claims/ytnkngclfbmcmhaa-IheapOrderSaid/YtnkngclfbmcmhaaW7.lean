import Derived.Test.YtnkngclfbmcmhaaP2
import Derived.BigRegion
namespace Go.Proofs.Ytnkngclfbmcmhaa
open Go.RowKit Reg Mem

theorem four {w : World} {b : Nat} {x0 x1 x2 x3 : Value} {T : TypeId} (h : w.heap[b]? = some (.cells #[x0, x1, x2, x3] T (0, 0))) :
    w.cell? ⟨b, 0, none⟩ = some x0 ∧ w.cell? ⟨b, 1, none⟩ = some x1 ∧ w.cell? ⟨b, 2, none⟩ = some x2 ∧ w.cell? ⟨b, 3, none⟩ = some x3 ∧ ∀ o, w.frozen? ⟨b, o, none⟩ = false :=
  ⟨by rw [cell_of h]; rfl, by rw [cell_of h]; rfl, by rw [cell_of h]; rfl, by rw [cell_of h]; rfl, fun o => frozen_of h o⟩
theorem fresh_heap {w w2 : World} {cs : Array Value} {T : TypeId} (h : Below (w.alloc (.cells cs T)).heap.size (w.alloc (.cells cs T)) w2) : w2.heap[w.heap.size]? = some (.cells cs T (0, 0)) :=
  (h.block _ (by simp)).trans (heap_alloc_new w (.cells cs T))

set_option maxHeartbeats 1000000 in
theorem hs_pop (lo : Nat) (F : Nat → Prop) (B : Nat) (s : List Row) (w : World) (h : HS lo F w B s) (hmax : s.length ≤ 4294967296) :
    Calls Try.prog 12 #[.pointer (some ⟨B, 0, none⟩)] w fun e w' => e = .returned (firstVal s) ∧ HKept lo F B w s.tail w' := by
  cases s with
  | nil =>
    have H := Lib.hid h
    clear h
    have HA : Hid (∀ w', Keep (fun _ => False) w w' → Calls Try.prog 26 #[.pointer (some ⟨B, 0, none⟩)] w' fun e w'_1 => e = .returned (.tuple #[.agg #[.int .i64 0, .int .i64 0, .int .i64 0, .int .i64 0], .int .i64 0, .int .i64 14]) ∧ Below w'.heap.size w' w'_1) :=
      Lib.hid fun w' hb => hs_first lo F B [] w' (H.out.keep hb (fun _ _ => id))
    go_enter Try.func12, Try.ntmps12
    go_wp2_with fail
    refine (HA.out _ ((Keep.refl _ _).alloc _)).mono ?_
    rintro e w2 ⟨rfl, hb2⟩
    obtain ⟨k0, k1, k2, k3, kf⟩ := four (fresh_heap hb2)
    have HB := Lib.hid (((Below.refl _ w).alloc (Nat.le_refl _) (.cells #[.int .i64 0, .int .i64 0, .int .i64 0, .int .i64 0] 29)).trans (hb2.mono (by simp)))
    have hf2 := fresh_heap hb2
    clear hb2
    go_wp2
    have hK : Keep (fun _ => False) w w2 := Keep.of_below HB.out
    have hp : ∀ o, (fun _ => False : Nat → Prop) (⟨w.heap.size, o, none⟩ : Addr).block ∨ w.heap.size ≤ (⟨w.heap.size, o, none⟩ : Addr).block := fun _ => .inr (Nat.le_refl _)
    have hK2 := (((((((hK.setCell (hp 0) (.int .i64 0)).setCell (hp 1) (.int .i64 0)).setCell (hp 2) (.int .i64 0)).setCell (hp 3) (.int .i64 0)).setCell (hp 0) (.int .i64 0)).setCell (hp 1) (.int .i64 0)).setCell (hp 2) (.int .i64 0)).setCell (hp 3) (.int .i64 0)
    have hf9 := set_heap (o := 3) (v := .int .i64 0) (set_heap (o := 2) (v := .int .i64 0) (set_heap (o := 1) (v := .int .i64 0) (set_heap (o := 0) (v := .int .i64 0) (set_heap (o := 3) (v := .int .i64 0) (set_heap (o := 2) (v := .int .i64 0) (set_heap (o := 1) (v := .int .i64 0) (set_heap (o := 0) (v := .int .i64 0) hf2)))))))
    generalize hw9 : World.setCell _ _ _ = w9
    rw [hw9] at hf9 hK2
    clear k0 k1 k2 k3
    obtain ⟨k0, k1, k2, k3, _⟩ := four (show w9.heap[w.heap.size]? = some (.cells #[.int .i64 0, .int .i64 0, .int .i64 0, .int .i64 0] 29 (0, 0)) from hf9)
    refine bodyPost_ret (v := .tuple #[.agg #[.int .i64 0, .int .i64 0, .int .i64 0, .int .i64 0], .int .i64 0, .int .i64 14]) (by simp [results, Try.results12, go_sem, k0, k1, k2, k3]) rfl ⟨rfl, ?_⟩
    exact ⟨H.out.keep hK2 (fun _ _ => id), hK2.mono (fun _ _ _ => id)⟩
  | cons r s =>
    have hpl := pulled_head h.sorted
    have hfv : foundVal (r :: s) r.key = .tuple #[.int .i64 r.v, .int .i64 0] := by
      unfold foundVal
      rw [List.find?_cons_of_pos (by simp)]
    have hhk := fun w' (hb : Keep (fun _ => False) w w') => hs_pull lo F B (r :: s) r.key.at_ r.key.src r.key.sent r.key.no w' (h.keep hb (fun _ _ => id)) hmax
    rw [hpl, hfv] at hhk
    have H := Lib.hid h
    have HFb := Lib.hid h.bound
    have HP := Lib.hid hhk
    obtain ⟨⟨a, b, c, d⟩, x⟩ := r
    have HA : Hid (∀ w', Keep (fun _ => False) w w' → Calls Try.prog 26 #[.pointer (some ⟨B, 0, none⟩)] w' fun e w'_1 => e = .returned (.tuple #[.agg #[.int .i64 a, .int .i64 b, .int .i64 c, .int .i64 d], .int .i64 x, .int .i64 0]) ∧ Below w'.heap.size w' w'_1) :=
      Lib.hid fun w' hb => hs_first lo F B (⟨⟨a, b, c, d⟩, x⟩ :: s) w' (H.out.keep hb (fun _ _ => id))
    clear h hpl hfv hhk
    go_enter Try.func12, Try.ntmps12
    go_wp2_with fail
    refine (HA.out _ ((Keep.refl _ _).alloc _)).mono ?_
    rintro e w2 ⟨rfl, hb2⟩
    obtain ⟨k0, k1, k2, k3, kf⟩ := four (fresh_heap hb2)
    have HB := Lib.hid (((Below.refl _ w).alloc (Nat.le_refl _) (.cells #[.int .i64 0, .int .i64 0, .int .i64 0, .int .i64 0] 29)).trans (hb2.mono (by simp)))
    have hf2 := Lib.hid (fresh_heap hb2)
    clear hb2
    go_wp2_with fail
    have hK : Keep (fun _ => False) w w2 := Keep.of_below HB.out
    have hp : ∀ o, (fun _ => False : Nat → Prop) (⟨w.heap.size, o, none⟩ : Addr).block ∨ w.heap.size ≤ (⟨w.heap.size, o, none⟩ : Addr).block := fun _ => .inr (Nat.le_refl _)
    have hK2 := (((hK.setCell (hp 0) (.int .i64 a)).setCell (hp 1) (.int .i64 b)).setCell (hp 2) (.int .i64 c)).setCell (hp 3) (.int .i64 d)
    have hf3 := set_heap (o := 3) (v := .int .i64 d) (set_heap (o := 2) (v := .int .i64 c) (set_heap (o := 1) (v := .int .i64 b) (set_heap (o := 0) (v := .int .i64 a) hf2.out)))
    refine (HP.out _ hK2).mono ?_
    rintro e w3 ⟨rfl, hH3, hK3⟩
    have hf4 := hK3.heap hf3 (fun h => by have := (HFb.out _ h).2; omega)
    clear k0 k1 k2 k3 kf
    obtain ⟨k0, k1, k2, k3, kf⟩ := four (show w3.heap[w.heap.size]? = some (.cells #[.int .i64 a, .int .i64 b, .int .i64 c, .int .i64 d] 29 (0, 0)) from hf4)
    have HK := Lib.hid (hK2.trans hK3 (U := F) (fun _ _ h => ⟨id, h⟩))
    have HH := Lib.hid hH3
    have HF4 := Lib.hid hf4
    clear hK hK2 hf3 hH3 hK3 hf4
    go_wp2
    have hl : ∀ x, F x → x ≠ w.heap.size := fun x hx e => by have := (HFb.out x hx).2; omega
    have hK3 : Keep (fun x => x = w.heap.size) w3 w3 := Keep.refl _ _
    have hp : ∀ o, (fun x => x = w.heap.size : Nat → Prop) (⟨w.heap.size, o, none⟩ : Addr).block ∨ w3.heap.size ≤ (⟨w.heap.size, o, none⟩ : Addr).block := fun _ => .inl rfl
    have hK4 := (((hK3.setCell (hp 0) (.int .i64 a)).setCell (hp 1) (.int .i64 b)).setCell (hp 2) (.int .i64 c)).setCell (hp 3) (.int .i64 d)
    have hf9 := set_heap (o := 3) (v := .int .i64 d) (set_heap (o := 2) (v := .int .i64 c) (set_heap (o := 1) (v := .int .i64 b) (set_heap (o := 0) (v := .int .i64 a) HF4.out)))
    generalize hw9 : World.setCell _ _ _ = w9
    rw [hw9] at hf9 hK4
    clear k0 k1 k2 k3
    obtain ⟨k0, k1, k2, k3, _⟩ := four (show w9.heap[w.heap.size]? = some (.cells #[.int .i64 a, .int .i64 b, .int .i64 c, .int .i64 d] 29 (0, 0)) from hf9)
    refine bodyPost_ret (v := .tuple #[.agg #[.int .i64 a, .int .i64 b, .int .i64 c, .int .i64 d], .int .i64 x, .int .i64 0]) (by simp [results, Try.results12, go_sem, k0, k1, k2, k3]) rfl ⟨rfl, ?_⟩
    exact ⟨HH.out.keep hK4 hl, HK.out.trans hK4 (fun x hx h => ⟨h, fun e => by omega⟩)⟩
end Go.Proofs.Ytnkngclfbmcmhaa
