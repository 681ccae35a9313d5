import Derived.Test.YtnkngclfbmcmhaaW8
namespace Go.Proofs.Ytnkngclfbmcmhaa
open Go.RowKit Reg Mem

theorem below_keep {F : Nat → Prop} {w w1 w2 : World} (h : Below w.heap.size w w1) (hK : Keep F w1 w2) (hF : ∀ x, F x → w.heap.size ≤ x) : Below w.heap.size w w2 :=
  h.trans (hK.belowOf h.size (fun x hx e => by have := hF x e; omega))
set_option maxHeartbeats 1000000 in
set_option maxRecDepth 100000 in
theorem awake_calls (w : World) : Calls Try.prog 10 #[] w fun e w' => e = .returned (.bool true) ∧ Below w.heap.size w w' := by
  have HN := Lib.hid (hs_new w.heap.size w (Nat.le_refl _))
  go_enter Try.func10, Try.ntmps10
  go_wp2_with fail
  refine HN.out.mono ?_
  rintro e w1 ⟨rfl, h1, hb1⟩
  have HB1 := Lib.hid hb1
  have HP := Lib.hid (hs_push w.heap.size _ (w.heap.size + 1) [] 5 0 1 0 1 w1 h1 (by simp) hb1.size)
  clear h1 hb1 HN
  go_wp2_with fail
  refine HP.out.mono ?_
  rintro e w2 ⟨rfl, F2, h2, hk2, hf2⟩
  have HB2 := Lib.hid (below_keep HB1.out hk2 (fun x hx => hx.1))
  rw [show pushed [] ⟨⟨5, 0, 1, 0⟩, 1⟩ = [⟨⟨5, 0, 1, 0⟩, 1⟩] by simp [pushed, ins]] at h2
  have HP2 := Lib.hid (hs_push w.heap.size F2 (w.heap.size + 1) _ 3 0 1 1 2 w2 h2 (by simp) HB2.out.size)
  have HF2 := Lib.hid (fun x hx => (h2.bound x hx).1)
  clear h2 hk2 hf2 HP
  go_wp2_with fail
  refine HP2.out.mono ?_
  rintro e w3 ⟨rfl, F3, h3, hk3, hf3⟩
  have HB3 := Lib.hid (below_keep HB2.out hk3 HF2.out)
  rw [show pushed [⟨⟨5, 0, 1, 0⟩, 1⟩] ⟨⟨3, 0, 1, 1⟩, 2⟩ = [⟨⟨3, 0, 1, 1⟩, 2⟩, ⟨⟨5, 0, 1, 0⟩, 1⟩] by simp [pushed, ins, Key.lt]] at h3
  have HP3 := Lib.hid (hs_push w.heap.size F3 (w.heap.size + 1) _ 3 (-1) (-1) 0 3 w3 h3 (by simp) HB3.out.size)
  have HF3 := Lib.hid (fun x hx => (h3.bound x hx).1)
  clear h3 hk3 hf3 HP2
  go_wp2_with fail
  refine HP3.out.mono ?_
  rintro e w4 ⟨rfl, F4, h4, hk4, hf4⟩
  have HB4 := Lib.hid (below_keep HB3.out hk4 HF3.out)
  rw [show pushed [⟨⟨3, 0, 1, 1⟩, 2⟩, ⟨⟨5, 0, 1, 0⟩, 1⟩] ⟨⟨3, -1, -1, 0⟩, 3⟩ = [⟨⟨3, -1, -1, 0⟩, 3⟩, ⟨⟨3, 0, 1, 1⟩, 2⟩, ⟨⟨5, 0, 1, 0⟩, 1⟩] by simp [pushed, ins, Key.lt]] at h4
  have HP4 := Lib.hid (batch_some w.heap.size F4 (w.heap.size + 1) _ _ w4 h4 (by simp))
  have HF4 := Lib.hid (fun x hx => (h4.bound x hx).1)
  clear h4 hk4 hf4 HP3
  go_wp2_with fail
  refine HP4.out.mono ?_
  rintro e w5 ⟨v, rfl, hO5, h5, hk5⟩
  have HB5 := Lib.hid (below_keep HB4.out hk5 HF4.out)
  have hO6 : Owns 3 intE 1 w4.heap.size w5 v [3, 2] := hO5
  have h6 : HS w.heap.size F4 w5 (w.heap.size + 1) [⟨⟨5, 0, 1, 0⟩, 1⟩] := h5
  have HI := Lib.hid (IntsAt.own hO6)
  have HL := Lib.hid (fun w' (hK : Keep (fun _ => False) w5 w') => hs_len w.heap.size F4 (w.heap.size + 1) _ w' (h6.keep hK (fun _ _ => id)))
  clear hO5 h5 hk5 hO6 h6 HP4
  have HT : Hid (IntsAt (w5.alloc (.cells #[.int .i64 3, .int .i64 2] 3)) (.slice (some ⟨w5.heap.size, 0, none⟩) 2 2) [3, 2]) := Lib.hid ⟨_, _, rfl, fun i x hx => ⟨_, rfl, by
    rw [cell_of (heap_alloc_new w5 _)]
    match i, hx with
    | 0, hx => cases hx; rfl
    | 1, hx => cases hx; rfl
    | (n + 2), hx => simp at hx⟩⟩
  go_wp2_with fail
  refine (ints_calls _ _ _ _ _ (HI.out.keep (S := fun _ => False) ((Keep.refl _ _).alloc _) (fun _ _ => id)) HT.out (by simp)).mono ?_
  rintro e w6 ⟨rfl, hb6⟩
  have HK6 := Lib.hid (((Keep.refl (fun _ => False) w5).alloc (.cells #[.int .i64 3, .int .i64 2] 3)).trans (Keep.of_below (S := fun _ => False) hb6) (U := fun _ => False) (fun _ _ h => ⟨h, h⟩))
  clear hb6
  go_wp2_with fail
  refine (HL.out _ HK6.out).mono ?_
  rintro e w7 ⟨rfl, rfl⟩
  go_wp2_with fail
  go_ret
  exact ⟨rfl, below_keep HB5.out HK6.out (fun _ h => h.elim)⟩
end Go.Proofs.Ytnkngclfbmcmhaa
