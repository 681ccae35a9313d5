import Derived.Test.YtcbdacmdmaoegaaH3
/- The walk of law03's example. -/
namespace Go.Proofs.Ytcbdacmdmaoegaa
open Go Go.RowKit Reg Mem

def aw1 : Row := ⟨⟨5, 0, 1, 0⟩, 1⟩
def aw2 : Row := ⟨⟨3, 0, 1, 1⟩, 2⟩
def aw3 : Row := ⟨⟨3, -1, -1, 0⟩, 3⟩
theorem aw_p1 : pushed [] aw1 = [aw1] := by unfold pushed; rw [if_neg (by simp)]; rfl
theorem aw_p2 : pushed [aw1] aw2 = [aw2, aw1] := by unfold pushed; rw [if_neg (by simp [aw1, aw2])]; rfl
theorem aw_p3 : pushed [aw2, aw1] aw3 = [aw3, aw2, aw1] := by unfold pushed; rw [if_neg (by simp [aw1, aw2, aw3])]; rfl
theorem aw_sorted : HSorted [aw3, aw2, aw1] := by
  have h2 := ins_sorted aw2 [aw1] (by simp [HSorted]) (by simp [aw1, aw2])
  have h3 := ins_sorted aw3 [aw2, aw1] h2 (by simp [aw1, aw2, aw3])
  exact h3
theorem push_aw (B : Nat) (s s' : List Row) (r : Row) (hp : pushed s r = s') (w : World) (F : Nat → Prop) (h : (heapA B s).at_ w F) (hmax : s.length < 4294967296) :
    Calls Try.prog 21 #[.pointer (some ⟨B, 0, none⟩), .agg #[.int .i64 r.key.at_, .int .i64 r.key.src, .int .i64 r.key.sent, .int .i64 r.key.no], .int .i64 r.v] w fun e w' => (∃ v, e = .returned v) ∧ St F w w' [heapA B s'] := by
  subst hp
  exact (hpush_calls B s r.key r.v w F h hmax).mono fun _ _ h => ⟨⟨_, h.1⟩, h.2⟩
theorem batch_aw (B : Nat) (w : World) (F : Nat → Prop) (h : (heapA B [aw3, aw2, aw1]).at_ w F) :
    Calls Try.prog 28 #[.pointer (some ⟨B, 0, none⟩)] w fun e w' => ∃ v, e = .returned (.tuple #[.int .i64 3, v, .int .i64 0]) ∧ St F w w' [heapA B [aw1], Mem.Own 3 tE 1 v [3, 2]] := hbatch_two B aw3 [aw2, aw1] w F h aw_sorted (by decide)
set_option maxRecDepth 100000 in
set_option maxHeartbeats 4000000 in
theorem awake3_calls (w : World) : Calls Try.prog 17 #[] w fun e w' => e = .returned (.bool true) ∧ Below w.heap.size w w' := by
  have S := St.init (fun _ => False) w
  have e3 : ((3 : Int) == 3) = true := rfl
  go_enter Try.func17, Try.ntmps17
  go_upto_region 4 with first
    | go_skip
    | ((with_reducible refine wpList_skip ?hw ?_); (case hw => with_unfolding_all rfl); simp only [Act.put, List.setIfInBounds_toArray, List.set_cons_succ, List.set_cons_zero])
    | (go_at_call 15; refine Calls.mono (hnew_calls _) ?_; rintro e wz ⟨B, rfl, T⟩; replace S := S.join T rfl; clear T; simp only [List.cons_append, List.nil_append] at S)
    | ((with_reducible refine tot_done ?ht ?_); (case ht => kernel_rfl))
  go_upto_region 5 with first
    | go_skip
    | ((with_reducible refine wpList_skip ?hw ?_); (case hw => with_unfolding_all rfl); simp only [Act.put, List.setIfInBounds_toArray, List.set_cons_succ, List.set_cons_zero])
    | (go_at_call 21; obtain ⟨Fz, hF, hBk⟩ := S.lend1 0 rfl rfl; refine Calls.mono (push_aw _ _ _ aw1 aw_p1 _ _ hF (by decide)) ?_; rintro e wz ⟨⟨_, rfl⟩, T⟩; replace S := hBk _ _ rfl T; clear hBk hF T; simp only [List.set_cons_zero] at S)
    | ((with_reducible refine tot_done ?ht ?_); (case ht => kernel_rfl))
  go_upto_region 6 with first
    | go_skip
    | ((with_reducible refine wpList_skip ?hw ?_); (case hw => with_unfolding_all rfl); simp only [Act.put, List.setIfInBounds_toArray, List.set_cons_succ, List.set_cons_zero])
    | (go_at_call 21; obtain ⟨Fz, hF, hBk⟩ := S.lend1 0 rfl rfl; refine Calls.mono (push_aw _ _ _ aw2 aw_p2 _ _ hF (by decide)) ?_; rintro e wz ⟨⟨_, rfl⟩, T⟩; replace S := hBk _ _ rfl T; clear hBk hF T; simp only [List.set_cons_zero] at S)
    | ((with_reducible refine tot_done ?ht ?_); (case ht => kernel_rfl))
  go_upto_region 7 with first
    | go_skip
    | ((with_reducible refine wpList_skip ?hw ?_); (case hw => with_unfolding_all rfl); simp only [Act.put, List.setIfInBounds_toArray, List.set_cons_succ, List.set_cons_zero])
    | (go_at_call 21; obtain ⟨Fz, hF, hBk⟩ := S.lend1 0 rfl rfl; refine Calls.mono (push_aw _ _ _ aw3 aw_p3 _ _ hF (by decide)) ?_; rintro e wz ⟨⟨_, rfl⟩, T⟩; replace S := hBk _ _ rfl T; clear hBk hF T; simp only [List.set_cons_zero] at S)
    | ((with_reducible refine tot_done ?ht ?_); (case ht => kernel_rfl))
  go_wp2_with first
    | go_skip
    | ((with_reducible refine wpList_skip ?hw ?_); (case hw => with_unfolding_all rfl); simp only [Act.put, List.setIfInBounds_toArray, List.set_cons_succ, List.set_cons_zero])
    | (go_at_call 28; replace S := S.pick [0] rfl; simp only [pick, nth] at S; obtain ⟨Fz, hF, hBk⟩ := S.lend1 0 rfl rfl; refine Calls.mono (batch_aw _ _ _ hF) ?_; rintro e wz ⟨v1, rfl, T⟩; replace S := hBk _ _ rfl (T.close_sep rfl rfl); clear hBk hF T; simp only [List.set_cons_zero] at S; replace S := S.open_sep rfl rfl)
    | ((with_reducible apply wps_buildSlice (T := 61) (E := 3) (cs := #[.int .i64 3, .int .i64 2]) S); (case hr => intro w; kernel_rfl); clear S; intro bz wz S)
    | (go_at_call 40; refine Calls.mono (ints_same _ _ [3, 2] _ _ _ (own_sl (sh := true) tElen (S.get (i := 2) rfl).choose_spec) (blk_sl [3, 2] tElen (S.get (i := 0) rfl).choose_spec rfl rfl) (by decide)) ?_; rintro e wz ⟨rfl, hE⟩; replace S := S.ext (Keep.of_below hE); clear hE)
    | (go_at_call 29; refine Calls.mono (hlen_calls _ _ _ _ (S.get (i := 1) rfl).choose_spec) ?_; rintro e wz ⟨rfl, hE⟩; replace S := S.ext (Keep.of_below hE); clear hE)
    | ((with_reducible refine tot_done ?ht ?_); (case ht => kernel_rfl))
  go_ret
  exact ⟨rfl, S.below⟩
theorem few_calls (v : Value) (n c : Nat) (ad : Option Addr) (w : World) (hv : v = .slice ad n c) : Calls Try.prog 16 #[v] w fun e w' => e = .returned (.bool (decide (n ≤ 60))) ∧ Below w.heap.size w w' := by
  subst hv
  have S := St.init (fun _ => False) w
  go_enter Try.func16, Try.ntmps16
  go_wp2_with first
    | ((with_reducible refine tot_done ?ht ?_); (case ht => kernel_rfl))
  go_ret
  exact ⟨ret_bool (by simp; omega), S.below⟩
end Go.Proofs.Ytcbdacmdmaoegaa
