import Derived.Test.YtmpfbkfemlhekaaGreatDoorB08
import Derived.Test.YtmpfbkfemlhekaaGreatDoorB13
import Derived.Test.YtmpfbkfemlhekaaGreatDoorB14
import Derived.Test.YtmpfbkfemlhekaaGreatDoorB04
import Derived.Maps.RangeRun
import Derived.Laws.IdiomRangeMap
import Derived.Test.YtmpfbkfemlhekaaGreatDoorProg
import Derived.Shelf.SortG.Plain
import Derived.KernelRfl
import Derived.Deep.CutRange
import Derived.Test.YtmpfbkfemlhekaaGreatDoorB06
/- A process's queue of events as a thing; the walks of its add, come, and of Put where nothing is taken back. -/
namespace Go.Proofs.YtmpfbkfemlhekaaGreatDoor
open Go Go.RowKit Reg Mem

def queueA (X : Nat) (l m : List Event) : Asn := exs false fun p : Value × Value =>
  sep false (Blk false X #[p.1, p.2] 229) (sep false (Mem.Own 48 Event.cells 7 p.1 l) (Mem.Own 48 Event.cells 7 p.2 m))
theorem queue_open {G : Nat → Prop} {w0 w : World} {L : List Asn} {X : Nat} {l m : List Event} (S : St G w0 w (queueA X l m :: L)) :
    ∃ v1 v2, St G w0 w (Mem.Own 48 Event.cells 7 v1 l :: Mem.Own 48 Event.cells 7 v2 m :: Blk false X #[v1, v2] 229 :: L) := by
  obtain ⟨⟨v1, v2⟩, S⟩ := S.open_exs (fun _ => rfl)
  exact ⟨v1, v2, (S.open_sep rfl rfl).swap2.open_sep rfl rfl⟩
theorem queue_close {G : Nat → Prop} {w0 w : World} {L : List Asn} {X : Nat} {l m : List Event} {v1 v2 : Value}
    (S : St G w0 w (Mem.Own 48 Event.cells 7 v1 l :: Mem.Own 48 Event.cells 7 v2 m :: Blk false X #[v1, v2] 229 :: L)) : St G w0 w (queueA X l m :: L) :=
  ((S.close_sep rfl rfl).swap2.close_sep rfl rfl).close_exs (A := fun p : Value × Value =>
  sep false (Blk false X #[p.1, p.2] 229) (sep false (Mem.Own 48 Event.cells 7 p.1 l) (Mem.Own 48 Event.cells 7 p.2 m))) (v1, v2) rfl
set_option maxRecDepth 100000 in
theorem qnew_calls (w : World) : Calls Tryz.prog 71 #[] w fun e w' => ∃ X, e = .returned (.pointer (some ⟨X, 0, none⟩)) ∧ St (fun _ => False) w w' [queueA X [] []] := by
  have S := St.init (fun _ => False) w
  go_enter Tryz.func71, Tryz.ntmps71
  go_wp2_with first | ((with_reducible apply wps_alloca (E := 229) S); (case hz => exact Tryz.zeroValue229); clear S; intro bX wz S) | ((with_reducible apply wps_boxa (E := 229) S); (case hx => rfl); clear S; intro bX wz S) | ((with_reducible refine tot_done ?ht ?_); (case ht => kernel_rfl)) | ((with_reducible apply wps_boxa S); (case hx => rfl); clear S; intro bz wz S) | ((with_reducible apply wps_box1 (v := .int _ _) S); (case hx | h1 => rfl); clear S; intro bz wz S) | ((with_reducible apply wps_box1 (v := .bool _) S); (case hx | h1 => rfl); clear S; intro bz wz S) | ((with_reducible apply wps_box1 (v := .slice _ _ _) S); (case hx | h1 => rfl); clear S; intro bz wz S) | ((with_reducible apply wps_box1 (v := .pointer _) S); (case hx | h1 => rfl); clear S; intro bz wz S) | ((with_reducible apply wps_box1 (v := .map _) S); (case hx | h1 => rfl); clear S; intro bz wz S) | ((with_reducible apply wps_box1 (v := .string _) S); (case hx | h1 => rfl); clear S; intro bz wz S) | ((with_reducible apply wps_box1 (v := .func _ _ _) S); (case hx | h1 => rfl); clear S; intro bz wz S)
  replace S := (S.nil 48 Event.cells 7).nil 48 Event.cells 7
  go_ret
  exact ⟨_, rfl, (queue_close S).pick [0] rfl⟩
def RAddPost (X : Nat) (va : Value) (l : List Event) (F : Nat → Prop) (w : World) (r : Ending) (w' : World) : Prop :=
  ∃ v, r = .returned (.tuple #[]) ∧ St F w w' [Mem.Own 48 Event.cells 7 v l, Blk false X #[v, va] 229]
set_option maxRecDepth 100000 in
set_option maxHeartbeats 8000000 in
theorem radd_calls (X : Nat) (v va : Value) (l : List Event) (e : Event) (w : World) (F : Nat → Prop) (S0 : St F w w [Mem.Own 48 Event.cells 7 v l, Blk false X #[v, va] 229]) (hl : UpT l) (hn : l.length ≤ 65536) :
    Calls Tryz.prog 182 #[.pointer (some ⟨X, 0, none⟩), .agg #[.int .i64 e.key.at_, .int .i64 e.key.src, .int .i64 e.key.sent, .int .i64 e.key.no, .int .i64 e.dst, .int .i64 e.kind, .int .i64 e.data]] w (RAddPost X va (insTot e l) F w) := by
  have S := S0
  clear S0
  have HU := Lib.hid hl
  have HI := Lib.hid (ins_plT e hl)
  have HP := Lib.hid (plT_le l e)
  have HLN : Hid (l.length ≤ 65536) := Lib.hid hn
  clear hl
  go_enter Tryz.func182, Tryz.ntmps182
  go_wp2_with first | ((with_reducible apply wps_boxa (E := 48) S); (case hx => rfl); clear S; intro be wz S) | ((with_reducible apply wps_loada (T := 48) (k := 7) S 0); (case hx | hi => rfl); (case hk => exact Nat.le_of_ble_eq_true rfl); (case hT => decide +kernel)) | ((with_reducible apply wps_load S 2); (case hx | hi | hu => rfl); (case hT => decide +kernel)) | (go_at_call 141; have hcz := bse_calls _ _ e _ _ (own_sl (sh := true) ecells (S.get (i := 1) rfl).choose_spec) HU.out HLN.out; (with_reducible refine Calls.mono hcz ?_); clear hcz; rintro rr wz ⟨rfl, hE⟩; replace S := S.ext (Keep.of_below hE); clear hE) | ((with_reducible apply wps_buildSlice (T := 66) (E := 48) (cs := #[.int .i64 e.key.at_, .int .i64 e.key.src, .int .i64 e.key.sent, .int .i64 e.key.no, .int .i64 e.dst, .int .i64 e.kind, .int .i64 e.data]) S); (case hr => intro w; kernel_rfl); clear S; intro bz wz S) | (go_at_call 216; replace S := S.weak (i := 0) (A' := Blk true bz #[.int .i64 e.key.at_, .int .i64 e.key.src, .int .i64 e.key.sent, .int .i64 e.key.no, .int .i64 e.dst, .int .i64 e.kind, .int .i64 e.data] 48) rfl (fun e => by cases e) (fun F h => ⟨F, fun _ hb => hb, h⟩); simp only [List.set_cons_zero] at S; obtain ⟨Fz, hF, hBk⟩ := S.lend [2] [0] [1, 3] rfl rfl rfl; simp only [List.cons_append, List.nil_append, pick, nth] at hF hBk; have hcz := inse_calls _ l e _ bz _ _ hF HP.out HLN.out; rw [HI.out] at hcz; (with_reducible refine Calls.mono hcz ?_); clear hcz; rintro rr wz ⟨ai, ci, rfl, T⟩; replace S := hBk _ _ T rfl; clear hBk hF T; simp only [List.cons_append, List.nil_append] at S) | ((with_reducible apply wps_store (u := (.slice ai (insTot e l).length ci)) S 2); (case hx | hy | hi | h1 => rfl); (case hn => exact Nat.le_of_ble_eq_true rfl); (case hT => decide +kernel); clear S; intro wz S; simp only [List.set_cons_succ, List.set_cons_zero, List.setIfInBounds_toArray] at S) | ((with_reducible refine tot_done ?ht ?_); (case ht => kernel_rfl)) | ((with_reducible apply wps_text S); (case hm => kernel_rfl); (case hB => decide +kernel); clear S; intro wz S) | ((with_reducible apply wps_boxa S); (case hx => rfl); clear S; intro bz wz S) | ((with_reducible apply wps_box1 (v := .int _ _) S); (case hx | h1 => rfl); clear S; intro bz wz S) | ((with_reducible apply wps_box1 (v := .bool _) S); (case hx | h1 => rfl); clear S; intro bz wz S) | ((with_reducible apply wps_box1 (v := .slice _ _ _) S); (case hx | h1 => rfl); clear S; intro bz wz S) | ((with_reducible apply wps_box1 (v := .pointer _) S); (case hx | h1 => rfl); clear S; intro bz wz S) | ((with_reducible apply wps_box1 (v := .map _) S); (case hx | h1 => rfl); clear S; intro bz wz S) | ((with_reducible apply wps_box1 (v := .string _) S); (case hx | h1 => rfl); clear S; intro bz wz S) | ((with_reducible apply wps_box1 (v := .func _ _ _) S); (case hx | h1 => rfl); clear S; intro bz wz S) | ((with_reducible apply wps_load S 0); (case hx | hi | hu => rfl); (case hT => decide +kernel)) | ((with_reducible apply wps_loada (T := 48) (k := 7) S 0); (case hx | hi => rfl); (case hk => exact Nat.le_of_ble_eq_true rfl); (case hT => decide +kernel))
  go_end0
  exact ⟨_, rfl, S.pick [0, 2] rfl⟩
set_option maxRecDepth 100000 in
set_option maxHeartbeats 8000000 in
theorem qcome_calls (X : Nat) (v va : Value) (l : List Event) (e : Event) (w : World) (F : Nat → Prop) (S0 : St F w w [Mem.Own 48 Event.cells 7 v l, Blk false X #[v, va] 229]) (hl : UpT l) (hn : l.length ≤ 65536) :
    Calls Tryz.prog 128 #[.pointer (some ⟨X, 0, none⟩), .agg #[.int .i64 e.key.at_, .int .i64 e.key.src, .int .i64 e.key.sent, .int .i64 e.key.no, .int .i64 e.dst, .int .i64 e.kind, .int .i64 e.data]] w (RAddPost X va (insTot e l) F w) := by
  have S := S0
  clear S0
  have HA := Lib.hid fun w F S0 => radd_calls X v va l e w F S0 hl hn
  clear hl hn
  go_enter Tryz.func128, Tryz.ntmps128
  go_wp2_with first | ((with_reducible apply wps_boxa (E := 48) S); (case hx => rfl); clear S; intro be wz S) | ((with_reducible apply wps_loada (T := 48) (k := 7) S 0); (case hx | hi => rfl); (case hk => exact Nat.le_of_ble_eq_true rfl); (case hT => decide +kernel)) | (go_at_call 182; obtain ⟨Fz, hF, hBk⟩ := S.lend [1, 2] [] [0] rfl rfl rfl; simp only [List.cons_append, List.nil_append, pick, nth] at hF hBk; (with_reducible refine Calls.mono (HA.out _ _ hF) ?_); rintro rr wz ⟨v3, rfl, T⟩; replace S := hBk _ _ T rfl; clear hBk hF T; simp only [List.cons_append, List.nil_append] at S) | ((with_reducible refine tot_done ?ht ?_); (case ht => kernel_rfl)) | ((with_reducible apply wps_text S); (case hm => kernel_rfl); (case hB => decide +kernel); clear S; intro wz S) | ((with_reducible apply wps_boxa S); (case hx => rfl); clear S; intro bz wz S) | ((with_reducible apply wps_box1 (v := .int _ _) S); (case hx | h1 => rfl); clear S; intro bz wz S) | ((with_reducible apply wps_box1 (v := .bool _) S); (case hx | h1 => rfl); clear S; intro bz wz S) | ((with_reducible apply wps_box1 (v := .slice _ _ _) S); (case hx | h1 => rfl); clear S; intro bz wz S) | ((with_reducible apply wps_box1 (v := .pointer _) S); (case hx | h1 => rfl); clear S; intro bz wz S) | ((with_reducible apply wps_box1 (v := .map _) S); (case hx | h1 => rfl); clear S; intro bz wz S) | ((with_reducible apply wps_box1 (v := .string _) S); (case hx | h1 => rfl); clear S; intro bz wz S) | ((with_reducible apply wps_box1 (v := .func _ _ _) S); (case hx | h1 => rfl); clear S; intro bz wz S) | ((with_reducible apply wps_loada (T := 48) (k := 7) S 0); (case hx | hi => rfl); (case hk => exact Nat.le_of_ble_eq_true rfl); (case hT => decide +kernel))
  go_end0
  exact ⟨_, rfl, S.pick [0, 1] rfl⟩
set_option maxRecDepth 100000 in
set_option maxHeartbeats 8000000 in
theorem rrem_nil (X : Nat) (v va : Value) (e : Event) (w : World) (F1 F2 : Nat → Prop) (h1 : (Sl true Event.cells 7 va []).at_ w F1) (h2 : (Blk true X #[v, va] 229).at_ w F2) :
    Calls Tryz.prog 181 #[.pointer (some ⟨X, 1, none⟩), .agg #[.int .i64 e.key.at_, .int .i64 e.key.src, .int .i64 e.key.sent, .int .i64 e.key.no, .int .i64 e.dst, .int .i64 e.kind, .int .i64 e.data]] w fun r w' => r = .returned (.bool false) ∧ Below w.heap.size w w' := by
  have S : St (fun _ => False) w w [Sl true Event.cells 7 va [], Blk true X #[v, va] 229] := ((St.init _ w).share (A := Blk true X #[v, va] 229) rfl rfl h2).share (A := Sl true Event.cells 7 va []) rfl rfl h1
  clear h1 h2
  have HB := Lib.hid fun w F h => bse_calls va [] e w F h List.Pairwise.nil (by simp)
  unfold BsEPost at HB
  rw [show plT [] e = 0 from rfl, show decide (e ∈ ([] : List Event)) = false from by simp] at HB
  go_enter Tryz.func181, Tryz.ntmps181
  go_wp2_with first | ((with_reducible apply wps_boxa (E := 48) S); (case hx => rfl); clear S; intro be wz S) | ((with_reducible apply wps_loada (T := 48) (k := 7) S 0); (case hx | hi => rfl); (case hk => exact Nat.le_of_ble_eq_true rfl); (case hT => decide +kernel)) | ((with_reducible apply wps_load S 2); (case hx | hi | hu => rfl); (case hT => decide +kernel)) | (go_at_call 141; refine Calls.mono (HB.out _ _ (S.get (i := 1) rfl).choose_spec) ?_; rintro e wz ⟨rfl, hE⟩; replace S := S.ext (Keep.of_below hE); clear hE) | ((with_reducible refine tot_done ?ht ?_); (case ht => kernel_rfl)) | ((with_reducible apply wps_text S); (case hm => kernel_rfl); (case hB => decide +kernel); clear S; intro wz S) | ((with_reducible apply wps_boxa S); (case hx => rfl); clear S; intro bz wz S) | ((with_reducible apply wps_box1 (v := .int _ _) S); (case hx | h1 => rfl); clear S; intro bz wz S) | ((with_reducible apply wps_box1 (v := .bool _) S); (case hx | h1 => rfl); clear S; intro bz wz S) | ((with_reducible apply wps_box1 (v := .slice _ _ _) S); (case hx | h1 => rfl); clear S; intro bz wz S) | ((with_reducible apply wps_box1 (v := .pointer _) S); (case hx | h1 => rfl); clear S; intro bz wz S) | ((with_reducible apply wps_box1 (v := .map _) S); (case hx | h1 => rfl); clear S; intro bz wz S) | ((with_reducible apply wps_box1 (v := .string _) S); (case hx | h1 => rfl); clear S; intro bz wz S) | ((with_reducible apply wps_box1 (v := .func _ _ _) S); (case hx | h1 => rfl); clear S; intro bz wz S) | ((with_reducible apply wps_load S 0); (case hx | hi | hu => rfl); (case hT => decide +kernel)) | ((with_reducible apply wps_loada (T := 48) (k := 7) S 0); (case hx | hi => rfl); (case hk => exact Nat.le_of_ble_eq_true rfl); (case hT => decide +kernel))
  go_ret
  exact ⟨rfl, S.below⟩
set_option maxRecDepth 100000 in
set_option maxHeartbeats 8000000 in
theorem qmeet_nil (X : Nat) (v va : Value) (e : Event) (w : World) (F1 F2 : Nat → Prop) (h1 : (Sl true Event.cells 7 va []).at_ w F1) (h2 : (Blk true X #[v, va] 229).at_ w F2) :
    Calls Tryz.prog 126 #[.pointer (some ⟨X, 1, none⟩), .agg #[.int .i64 e.key.at_, .int .i64 e.key.src, .int .i64 e.key.sent, .int .i64 e.key.no, .int .i64 e.dst, .int .i64 e.kind, .int .i64 e.data]] w fun r w' => r = .returned (.bool false) ∧ Below w.heap.size w w' := by
  have S : St (fun _ => False) w w [Sl true Event.cells 7 va [], Blk true X #[v, va] 229] := ((St.init _ w).share (A := Blk true X #[v, va] 229) rfl rfl h2).share (A := Sl true Event.cells 7 va []) rfl rfl h1
  clear h1 h2
  go_enter Tryz.func126, Tryz.ntmps126
  go_wp2_with first | ((with_reducible apply wps_boxa (E := 48) S); (case hx => rfl); clear S; intro be wz S) | ((with_reducible apply wps_loada (T := 48) (k := 7) S 0); (case hx | hi => rfl); (case hk => exact Nat.le_of_ble_eq_true rfl); (case hT => decide +kernel)) | (go_at_call 181; refine Calls.mono (rrem_nil _ _ _ _ _ _ _ (S.get (i := 1) rfl).choose_spec (S.get (i := 2) rfl).choose_spec) ?_; rintro e wz ⟨rfl, hE⟩; replace S := S.ext (Keep.of_below hE); clear hE) | ((with_reducible refine tot_done ?ht ?_); (case ht => kernel_rfl)) | ((with_reducible apply wps_text S); (case hm => kernel_rfl); (case hB => decide +kernel); clear S; intro wz S) | ((with_reducible apply wps_boxa S); (case hx => rfl); clear S; intro bz wz S) | ((with_reducible apply wps_box1 (v := .int _ _) S); (case hx | h1 => rfl); clear S; intro bz wz S) | ((with_reducible apply wps_box1 (v := .bool _) S); (case hx | h1 => rfl); clear S; intro bz wz S) | ((with_reducible apply wps_box1 (v := .slice _ _ _) S); (case hx | h1 => rfl); clear S; intro bz wz S) | ((with_reducible apply wps_box1 (v := .pointer _) S); (case hx | h1 => rfl); clear S; intro bz wz S) | ((with_reducible apply wps_box1 (v := .map _) S); (case hx | h1 => rfl); clear S; intro bz wz S) | ((with_reducible apply wps_box1 (v := .string _) S); (case hx | h1 => rfl); clear S; intro bz wz S) | ((with_reducible apply wps_box1 (v := .func _ _ _) S); (case hx | h1 => rfl); clear S; intro bz wz S) | ((with_reducible apply wps_loada (T := 48) (k := 7) S 0); (case hx | hi => rfl); (case hk => exact Nat.le_of_ble_eq_true rfl); (case hT => decide +kernel))
  go_ret
  exact ⟨rfl, S.below⟩
set_option maxRecDepth 100000 in
set_option maxHeartbeats 8000000 in
theorem qput_come (X : Nat) (l : List Event) (e : Event) (w : World) (F : Nat → Prop) (S0 : St F w w [queueA X l []]) (hl : UpT l) (hn : l.length ≤ 65536) (h0 : 0 ≤ e.key.at_) (h1 : e.key.at_ ≤ 1073741824) :
    Calls Tryz.prog 74 #[.pointer (some ⟨X, 0, none⟩), .agg #[.int .i64 e.key.at_, .int .i64 e.key.src, .int .i64 e.key.sent, .int .i64 e.key.no, .int .i64 e.dst, .int .i64 e.kind, .int .i64 e.data, .bool false]] w fun r w' =>
      r = .returned (.tuple #[.bool false, .int .i64 0]) ∧ St F w w' [queueA X (insTot e l) []] := by
  have S := S0
  clear S0
  obtain ⟨v1, v2, S2⟩ := queue_open S
  clear S
  have S := S2
  clear S2
  have HC := Lib.hid fun w F S0 => qcome_calls X v1 v2 l e w F S0 hl hn
  have f1 : decide (e.key.at_ < 0) = false := decide_eq_false (by omega)
  have f2 : decide (e.key.at_ > 1073741824) = false := decide_eq_false (by omega)
  clear hl hn h0 h1
  go_enter Tryz.func74, Tryz.ntmps74
  go_wp2_with first | go_skip | ((with_reducible refine wpList_skip ?hw ?_); (case hw => with_unfolding_all rfl); simp only [Act.put, List.setIfInBounds_toArray, List.set_cons_succ, List.set_cons_zero]) | ((with_reducible apply wps_boxa (E := 50) S); (case hx => rfl); clear S; intro be wz S) | (go_at_call 126; refine Calls.mono (qmeet_nil _ _ _ _ _ _ _ (own_sl (sh := true) ecells (S.get (i := 2) rfl).choose_spec) (S.get (i := 3) rfl).choose_spec) ?_; rintro e wz ⟨rfl, hE⟩; replace S := S.ext (Keep.of_below hE); clear hE) | (go_at_call 128; obtain ⟨Fz, hF, hBk⟩ := S.lend [1, 3] [] [0, 2] rfl rfl rfl; simp only [List.cons_append, List.nil_append, pick, nth] at hF hBk; (with_reducible refine Calls.mono (HC.out _ _ hF) ?_); rintro rr wz ⟨v3, rfl, T⟩; replace S := hBk _ _ T rfl; clear hBk hF T; simp only [List.cons_append, List.nil_append] at S) | ((with_reducible refine tot_done ?ht ?_); (case ht => kernel_rfl)) | ((with_reducible apply wps_text S); (case hm => kernel_rfl); (case hB => decide +kernel); clear S; intro wz S) | ((with_reducible apply wps_boxa S); (case hx => rfl); clear S; intro bz wz S) | ((with_reducible apply wps_box1 (v := .int _ _) S); (case hx | h1 => rfl); clear S; intro bz wz S) | ((with_reducible apply wps_box1 (v := .bool _) S); (case hx | h1 => rfl); clear S; intro bz wz S) | ((with_reducible apply wps_box1 (v := .slice _ _ _) S); (case hx | h1 => rfl); clear S; intro bz wz S) | ((with_reducible apply wps_box1 (v := .pointer _) S); (case hx | h1 => rfl); clear S; intro bz wz S) | ((with_reducible apply wps_box1 (v := .map _) S); (case hx | h1 => rfl); clear S; intro bz wz S) | ((with_reducible apply wps_box1 (v := .string _) S); (case hx | h1 => rfl); clear S; intro bz wz S) | ((with_reducible apply wps_box1 (v := .func _ _ _) S); (case hx | h1 => rfl); clear S; intro bz wz S) | ((with_reducible apply wps_load S 0); (case hx | hi | hu => rfl); (case hT => decide +kernel)) | ((with_reducible apply wps_loada (T := 48) (k := 7) S 0); (case hx | hi => rfl); (case hk => exact Nat.le_of_ble_eq_true rfl); (case hT => decide +kernel))
  (try simp only [Exit.inBlock, Exit.then]); refine bodyPost_ret (results2 rfl (res_tmp rfl) (res_tmp rfl)) rfl ?_
  exact ⟨rfl, queue_close (S.pick [0, 3, 1] rfl)⟩
end Go.Proofs.YtmpfbkfemlhekaaGreatDoor
/- A map whose entries are told one by one, so that it can be gone through. Over any program. -/
namespace Go.Proofs.YtmpfbkfemlhekaaGreatDoor.Mem
open Go Go.RowKit Reg
open Go.ChangeMaps (setBlock)
open Go.MapKept (heap_set)
variable {P : Program} {K : TypeId} {κ : Type} [DecidableEq κ] {kv : κ → List Value}

structure Tells (P : Program) (K : TypeId) (kv : κ → List Value) (es : Array MapEntry) (clock : Nat) (l : List (κ × Value)) : Prop where
  same : es.toList.map (fun e => (e.key, e.val)) = l.map fun p => (whole P K (kv p.1), p.2)
  keys : (l.map (·.1)).Nodup
  born : (es.toList.map (·.born)).Nodup
  old : ∀ e ∈ es.toList, e.born < clock
def MapE (sh : Bool) (M : Nat) (es : Array MapEntry) (clock : Nat) : Asn where
  sh := sh
  at_ w F := w.heap[M]? = some (.map es clock) ∧ ∀ x, F x ↔ x = M
  loc h hb := ⟨(hb M ((h.2 M).2 rfl)).trans h.1, h.2⟩
  lt h b hb := by rw [(h.2 b).1 hb]; exact (Array.getElem?_eq_some_iff.1 h.1).1
def IterE (r M since : Nat) (seen : Array Nat) (c0 : Nat) : Asn where
  sh := false
  at_ w F := w.heap[r]? = some (.mapIter (some M) since seen c0) ∧ ∀ x, F x ↔ x = r
  loc h hb := ⟨(hb r ((h.2 r).2 rfl)).trans h.1, h.2⟩
  lt h b hb := by rw [(h.2 b).1 hb]; exact (Array.getElem?_eq_some_iff.1 h.1).1
def MapK (sh : Bool) (P : Program) (K : TypeId) (kv : κ → List Value) (M : Nat) (l : List (κ × Value)) : Asn where
  sh := sh
  at_ w F := (∃ es clock, w.heap[M]? = some (.map es clock) ∧ Tells P K kv es clock l) ∧ ∀ x, F x ↔ x = M
  loc h hb := ⟨let ⟨es, c, h1, h2⟩ := h.1; ⟨es, c, (hb M ((h.2 M).2 rfl)).trans h1, h2⟩, h.2⟩
  lt h b hb := by rw [(h.2 b).1 hb]; obtain ⟨es, c, h1, h2⟩ := h.1; exact (Array.getElem?_eq_some_iff.1 h1).1
def lookK (l : List (κ × Value)) (k : κ) : Option Value := (place l k 0).map (·.2)
theorem mapK_is {sh : Bool} {w : World} {F : Nat → Prop} {M : Nat} {l : List (κ × Value)} (h : (MapK sh P K kv M l).at_ w F) : MapIs P w M K kv (lookK l) := by
  obtain ⟨⟨es, c, h1, h2⟩, _⟩ := h
  exact ⟨l, ⟨es, c, h1, h2.same⟩, h2.keys, fun k => rfl⟩
theorem lookK_none {l : List (κ × Value)} {k : κ} (h : k ∉ l.map (·.1)) : lookK l k = none := by unfold lookK; rw [place_none.2 h]; rfl
theorem lookK_at {l : List (κ × Value)} {k : κ} {v : Value} {n : Nat} (hd : (l.map (·.1)).Nodup) (h : l[n]? = some (k, v)) : lookK l k = some v := by
  unfold lookK
  cases hp : place l k 0 with
  | none => exact absurd (List.mem_map.2 ⟨(k, v), List.mem_of_getElem? h, rfl⟩) (place_none.1 hp)
  | some q =>
    obtain ⟨m, u⟩ := q
    have h2 := (place_some hp).2
    simp only [Nat.sub_zero] at h2
    have e1 : (l.map (·.1))[n]? = some k := by rw [List.getElem?_map, h]; rfl
    have e2 : (l.map (·.1))[m]? = some k := by rw [List.getElem?_map, h2]; rfl
    have hn := (List.getElem?_eq_some_iff.1 e1).1
    have hm := (List.getElem?_eq_some_iff.1 e2).1
    have : n = m := (List.getElem_inj hd).1 ((List.getElem?_eq_some_iff.1 e1).2.trans (List.getElem?_eq_some_iff.1 e2).2.symm)
    subst this
    rw [h] at h2
    simp only [Option.some.injEq, Prod.mk.injEq, true_and] at h2
    rw [h2]; rfl
section
variable {w : World} {M : Nat} {T E : TypeId} {l : List (κ × Value)} {es : Array MapEntry} {clock : Nat}
theorem run_updK_new (hK : Keyed P K kv) (hT : P.underlying T = some (.map K E)) (h1 : w.heap[M]? = some (.map es clock)) (ht : Tells P K kv es clock l) (k : κ) (v : Value) (hk : k ∉ l.map (·.1)) :
    ∃ w' es' c', (Instr.mapUpdate T (.map (some M)) (whole P K (kv k)) v).run P w = .ok () w' ∧ w'.heap[M]? = some (.map es' c') ∧ Tells P K kv es' c' (l ++ [(k, v)]) ∧ Keep (fun b => b = M) w w' := by
  have hck := run_checkKey (P := P) w false 100 K hK.ks hK.layK 10000 (kv k) (by omega) (hK.fit k)
  have hfk := run_findKey hK k w es.toList l ht.same
  have hlt : M < w.heap.size := (Array.getElem?_eq_some_iff.1 h1).1
  have hset : ∀ o : Obj, (w.heap.setIfInBounds M o)[M]? = some o := fun o => by simp [hlt]
  have hp : place l k 0 = none := place_none.2 hk
  unfold Instr.mapUpdate
  simp only [Sem.run_bind, run_underlying hT, Result.andThen_ok, getObj, Sem.run, h1, hck, hfk, hp]
  simp only [setObj, Sem.run, h1]
  refine ⟨_, _, _, rfl, hset _, ⟨?_, ?_, ?_, ?_⟩, set_keep⟩
  · simp [ht.same]
  · rw [List.map_append, List.nodup_append]
    exact ⟨ht.keys, by simp, fun a ha b hb => by simp at hb; subst hb; exact fun e => hk (e ▸ ha)⟩
  · rw [Array.toList_push, List.map_append, List.nodup_append]
    refine ⟨ht.born, by simp, fun a ha b hb => ?_⟩
    obtain ⟨e, he, rfl⟩ := List.mem_map.1 ha
    have := ht.old e he
    simp at hb
    omega
  · intro e he
    rw [Array.toList_push, List.mem_append] at he
    rcases he with he | he
    · have := ht.old e he; omega
    · simp at he; subst he; simp
theorem run_updK_set (hK : Keyed P K kv) (hT : P.underlying T = some (.map K E)) (h1 : w.heap[M]? = some (.map es clock)) (ht : Tells P K kv es clock l) (k : κ) (v u : Value) (n : Nat) (hn : l[n]? = some (k, u)) :
    ∃ w' es', (Instr.mapUpdate T (.map (some M)) (whole P K (kv k)) v).run P w = .ok () w' ∧ w'.heap[M]? = some (.map es' clock) ∧ Tells P K kv es' clock (l.set n (k, v)) ∧ Keep (fun b => b = M) w w' := by
  have hck := run_checkKey (P := P) w false 100 K hK.ks hK.layK 10000 (kv k) (by omega) (hK.fit k)
  have hfk := run_findKey hK k w es.toList l ht.same
  have hlt : M < w.heap.size := (Array.getElem?_eq_some_iff.1 h1).1
  have hset : ∀ o : Obj, (w.heap.setIfInBounds M o)[M]? = some o := fun o => by simp [hlt]
  have hleaf : isAggB P K = false → (kv k).length = 1 := fun ha => (fits_length (hK.fit k)).trans (lay_leaf hK.layK ha)
  obtain ⟨e, he, hek, hev⟩ : ∃ e : MapEntry, es[n]? = some e ∧ e.key = whole P K (kv k) ∧ e.val = u := by
    have : (es.toList.map fun e => (e.key, e.val))[n]? = some (whole P K (kv k), u) := by rw [ht.same]; simp [hn]
    simp only [List.getElem?_map, Option.map_eq_some_iff, Prod.mk.injEq] at this
    obtain ⟨e, he, h5, h6⟩ := this
    exact ⟨e, by simpa using he, h5, h6⟩
  obtain ⟨m, u', hp⟩ : ∃ m u', place l k 0 = some (m, u') := by
    cases hp : place l k 0 with
    | none => exact absurd (List.mem_map.2 ⟨(k, u), List.mem_of_getElem? hn, rfl⟩) (place_none.1 hp)
    | some q => exact ⟨q.1, q.2, rfl⟩
  have h2 := (place_some hp).2
  simp only [Nat.sub_zero] at h2
  have hmn : n = m := by
    have e1 : (l.map (·.1))[n]? = some k := by rw [List.getElem?_map, hn]; rfl
    have e2 : (l.map (·.1))[m]? = some k := by rw [List.getElem?_map, h2]; rfl
    exact (List.getElem_inj ht.keys).1 ((List.getElem?_eq_some_iff.1 e1).2.trans (List.getElem?_eq_some_iff.1 e2).2.symm)
  subst hmn
  have hkey : (es[n]?.map (·.key)).getD (whole P K (kv k)) = whole P K (kv k) := by rw [he]; simpa using hek
  unfold Instr.mapUpdate
  simp only [Sem.run_bind, run_underlying hT, Result.andThen_ok, getObj, Sem.run, h1, hck, hfk, hp]
  simp only [hkey, Instr.keyThatStays, sameBits_whole (P := P) (K := K) (hK.fit k) hleaf, if_true, Sem.run_bind, Sem.run_pure, Result.andThen_ok, setObj, Sem.run, h1]
  have hlist : ∀ f : MapEntry → MapEntry, (es.modify n f).toList = es.toList.modify n f := fun f => Array.toList_modify
  refine ⟨_, _, rfl, hset _, ⟨?_, ?_, ?_, ?_⟩, set_keep⟩
  · rw [Array.toList_modify, List.map_set, ← ht.same]
    apply List.ext_getElem?
    intro j
    simp only [List.getElem?_map, List.getElem?_modify, List.getElem?_set]
    by_cases hj : n = j
    · subst hj
      have hn : n < es.toList.length := by have := (Array.getElem?_eq_some_iff.1 he).1; simpa using this
      have hn2 : n < es.size := by simpa using hn
      simp [hn2]
    · simp [hj]
  · rw [List.map_set]
    have e1 : (l.map (·.1)).set n k = l.map (·.1) := by
      apply List.ext_getElem?
      intro j
      simp only [List.getElem?_set, List.getElem?_map, List.length_map]
      by_cases hj : n = j
      · subst hj
        obtain ⟨hlt2, he2⟩ := List.getElem?_eq_some_iff.1 hn
        simp [hlt2, he2]
      · simp [hj]
    rw [e1]; exact ht.keys
  · have e1 : ∀ f : MapEntry → MapEntry, (∀ x, (f x).born = x.born) → (es.modify n f).toList.map (·.born) = es.toList.map (·.born) := fun f hf => by
      rw [Array.toList_modify]
      apply List.ext_getElem?
      intro j
      simp only [List.getElem?_map, List.getElem?_modify]
      by_cases hj : n = j
      · subst hj; cases es.toList[n]? <;> simp [hf]
      · simp [hj]
    exact Eq.mpr (congrArg List.Nodup (e1 _ (fun _ => rfl))) ht.born
  · intro x hx
    rw [Array.toList_modify] at hx
    obtain ⟨j, hj, ej⟩ := List.mem_iff_getElem.1 hx
    have hj2 : j < es.toList.length := by simpa using hj
    have hold := ht.old (es.toList[j]) (List.getElem_mem hj2)
    rw [← ej, List.getElem_modify]
    split <;> exact hold
end
section
variable {ops : Array Oper} {rest : List Oper} {a : Act} {Q : Exit → Act → World → Prop} {d : Option Tmp} {tt : TypeId} {p : String} {af : Array Edge} {gd : Option (Nat × Bool)} {x y z : Operand}
variable {G : Nat → Prop} {w0 w w' : World} {L : List Asn} {T E : TypeId} {M : Nat} {l : List (κ × Value)}
omit [DecidableEq κ] in
theorem wps_makeMapK (S : St G w0 w L) (kv : κ → List Value) (next : ∀ M w', St G w0 w' (MapK false P K kv M [] :: L) → wpList P ops Q rest (a.put d (.map (some M))) w') (hgd : gOk gd ops a = true := by with_unfolding_all rfl) :
    wpList P ops Q ({ dst := d, op := .makeMap T none, type := tt, pos := p, after := af, guard := gd } :: rest) a w :=
  wpList_ok hgd fun K' hK => by
    have hr := @run_makeMap P T w
    unfold Oper.wp execOp
    simp only [Option.map_none, hr, Sem.run_bind, Sem.run_pure, Result.andThen_ok]
    exact hK _ _ (next _ _ (S.grow (F := fun x => x = w.heap.size) (keep_alloc w _) ⟨⟨#[], 0, heap_alloc_new w _, ⟨rfl, List.nodup_nil, List.nodup_nil, fun e he => by simp at he⟩⟩, fun _ => Iff.rfl⟩ (fun _ e => Nat.le_of_eq e.symm)))
theorem wps_lookupK {sh : Bool} (hK : Keyed P K kv) (hT : P.underlying T = some (.map K E)) {zv : Value} (hz : ∀ w, (zeroValue E).run P w = .ok zv w)
    (S : St G w0 w L) (i : Nat) (hi : L[i]? = some (MapK sh P K kv M l)) (k : κ) (hx : a.eval x = .map (some M)) (hy : a.eval y = whole P K (kv k)) {v : Value} (hv : (lookK l k).getD zv = v)
    (h : wpList P ops Q rest (a.put d v) w) (hgd : gOk gd ops a = true := by with_unfolding_all rfl) : wpList P ops Q ({ dst := d, op := .lookup T x y false, type := tt, pos := p, after := af, guard := gd } :: rest) a w := by
  obtain ⟨F, hF⟩ := S.get hi
  exact wpList_lookup (hgd := hgd) hK hT hz (mapK_is hF) k hx hy hv h
theorem wps_updK_new (hK : Keyed P K kv) (hT : P.underlying T = some (.map K E)) (S : St G w0 w L) (i : Nat) (hi : L[i]? = some (MapK false P K kv M l)) (k : κ) (v : Value) (hk : k ∉ l.map (·.1))
    (hx : a.eval x = .map (some M)) (hy : a.eval y = whole P K (kv k)) (hz : a.eval z = v) (next : ∀ w', St G w0 w' (L.set i (MapK false P K kv M (l ++ [(k, v)]))) → wpList P ops Q rest (a.put d undef) w') (hgd : gOk gd ops a = true := by with_unfolding_all rfl) :
    wpList P ops Q ({ dst := d, op := .mapUpdate T x y z, type := tt, pos := p, after := af, guard := gd } :: rest) a w :=
  wpList_ok hgd fun K' hK' => by
    obtain ⟨F, hF⟩ := S.get hi
    obtain ⟨⟨es, c, h1, ht⟩, hF2⟩ := hF
    obtain ⟨w', es', c', hr, h2, h3, h4⟩ := run_updK_new hK hT h1 ht k v hk
    unfold Oper.wp execOp
    simp only [hx, hy, hz, hr, Sem.run_bind, Sem.run_pure, Result.andThen_ok]
    exact hK' _ _ (next w' (S.step hi rfl fun F hF => ⟨F, h4.mono (fun x _ h e => h ((hF.2 x).2 e)), ⟨⟨es', c', h2, h3⟩, hF.2⟩, fun _ h => .inl h⟩))
theorem wps_updK_set (hK : Keyed P K kv) (hT : P.underlying T = some (.map K E)) (S : St G w0 w L) (i : Nat) (hi : L[i]? = some (MapK false P K kv M l)) (k : κ) (v u : Value) (n : Nat) (hn : l[n]? = some (k, u))
    (hx : a.eval x = .map (some M)) (hy : a.eval y = whole P K (kv k)) (hz : a.eval z = v) (next : ∀ w', St G w0 w' (L.set i (MapK false P K kv M (l.set n (k, v)))) → wpList P ops Q rest (a.put d undef) w') (hgd : gOk gd ops a = true := by with_unfolding_all rfl) :
    wpList P ops Q ({ dst := d, op := .mapUpdate T x y z, type := tt, pos := p, after := af, guard := gd } :: rest) a w :=
  wpList_ok hgd fun K' hK' => by
    obtain ⟨F, hF⟩ := S.get hi
    obtain ⟨⟨es, c, h1, ht⟩, hF2⟩ := hF
    obtain ⟨w', es', hr, h2, h3, h4⟩ := run_updK_set hK hT h1 ht k v u n hn
    unfold Oper.wp execOp
    simp only [hx, hy, hz, hr, Sem.run_bind, Sem.run_pure, Result.andThen_ok]
    exact hK' _ _ (next w' (S.step hi rfl fun F hF => ⟨F, h4.mono (fun x _ h e => h ((hF.2 x).2 e)), ⟨⟨es', c, h2, h3⟩, hF.2⟩, fun _ h => .inl h⟩))
omit [DecidableEq κ] in
theorem wps_rangeE {sh : Bool} {es : Array MapEntry} {clock : Nat} (hT : P.underlying T = some (.map K E)) (S : St G w0 w L) (i : Nat) (hi : L[i]? = some (MapE sh M es clock)) (hx : a.eval x = .map (some M))
    (next : ∀ r w', St G w0 w' (IterE r M clock #[] clock :: L) → wpList P ops Q rest (a.put d (.pointer (some ⟨r, 0, none⟩))) w') (hgd : gOk gd ops a = true := by with_unfolding_all rfl) :
    wpList P ops Q ({ dst := d, op := .range T x, type := tt, pos := p, after := af, guard := gd } :: rest) a w :=
  wpList_ok hgd fun K' hK' => by
    obtain ⟨F, hF⟩ := S.get hi
    have hr := run_range_map w T K E M es clock hT hF.1
    unfold Oper.wp execOp
    simp only [hx, hr, Sem.run_bind, Sem.run_pure, Result.andThen_ok]
    exact hK' _ _ (next _ _ (S.grow (F := fun x => x = w.heap.size) (keep_alloc w _) ⟨heap_alloc_new w _, fun _ => Iff.rfl⟩ (fun _ e => Nat.le_of_eq e.symm)))
theorem keep_setBlock (w : World) (r : Nat) (o : Obj) : Keep (fun b => b = r) w (setBlock w r o) :=
  ⟨rfl, rfl, rfl, by simp [setBlock], fun b _ hb => by simp only [setBlock]; rw [Array.getElem?_setIfInBounds_ne (Ne.symm hb)], Nat.le_refl _⟩
theorem wps_nextE {sh : Bool} {es : Array MapEntry} {clock r c0 : Nat} {seen : Array Nat} (S : St G w0 w L) (i j : Nat) (hi : L[i]? = some (IterE r M clock seen c0)) (hj : L[j]? = some (MapE sh M es clock)) (hold : ∀ e ∈ es.toList, e.born < clock) (hc0 : clock ≤ c0)
    (hx : a.eval x = .pointer (some ⟨r, 0, none⟩))
    (hdone : (∀ e ∈ es.toList, e.born ∈ seen) → wpList P ops Q rest (a.put d (.tuple #[.bool false])) w)
    (hmore : ∀ e w', e ∈ es.toList → e.born ∉ seen → St G w0 w' (L.set i (IterE r M clock (seen.push e.born) clock)) → wpList P ops Q rest (a.put d (.tuple #[.bool true, e.key, e.val])) w') (hgd : gOk gd ops a = true := by with_unfolding_all rfl) :
    wpList P ops Q ({ dst := d, op := .next x false, type := tt, pos := p, after := af, guard := gd } :: rest) a w :=
  wpList_ok hgd fun K' hK' => by
    obtain ⟨F, hF⟩ := S.get hi
    obtain ⟨F2, hF2⟩ := S.get hj
    rcases run_next_at (P := P) w tt r M clock c0 seen es clock hF.1 hF2.1 hold hc0 with ⟨h0, hrun⟩ | ⟨e, he, w1, hal, hrun⟩
    · unfold Oper.wp execOp
      simp only [hx, hrun, Sem.run_bind, Sem.run_pure, Result.andThen_ok]
      refine hK' _ _ (hdone fun e he => ?_)
      have := all_seen es seen h0 e he
      simpa using this
    · obtain ⟨hem, hes⟩ := mem_left he
      unfold Oper.wp execOp
      simp only [hx, hrun, Sem.run_bind, Sem.run_pure, Result.andThen_ok]
      have S1 : St G w0 w1 L := by
        rcases hal with rfl | rfl
        · exact S
        · exact S.ext (keep_drew w)
      refine hK' _ _ (hmore e _ hem (by simpa using hes) (S1.step hi rfl fun F3 hF3 => ⟨F3, (keep_setBlock w1 r _).mono (fun x _ h e => h ((hF3.2 x).2 e)), ⟨?_, hF3.2⟩, fun _ h => .inl h⟩))
      exact (heap_set (o' := .mapIter (some M) clock (seen.push e.born) clock) hF3.1).1
theorem wps_entryE {sh : Bool} {es : Array MapEntry} {clock r : Nat} {seen : Array Nat} {e : MapEntry} (S : St G w0 w L) (i j : Nat) (hi : L[i]? = some (IterE r M clock (seen.push e.born) clock)) (hj : L[j]? = some (MapE sh M es clock)) (he : e ∈ es.toList) (hn : (es.toList.map (·.born)).Nodup)
    (hx : a.eval x = .pointer (some ⟨r, 0, none⟩)) (next : wpList P ops Q rest (a.put d (.tuple #[e.key, e.val])) w) (hgd : gOk gd ops a = true := by with_unfolding_all rfl) :
    wpList P ops Q ({ dst := d, op := .entry x, type := tt, pos := p, after := af, guard := gd } :: rest) a w :=
  wpList_ok hgd fun K' hK' => by
    obtain ⟨F, hF⟩ := S.get hi
    obtain ⟨F2, hF2⟩ := S.get hj
    have hr := run_entry_at (P := P) w r M clock seen es clock e hF.1 hF2.1 he hn
    unfold Oper.wp execOp
    simp only [hx, hr, Sem.run_bind, Sem.run_pure, Result.andThen_ok]
    exact hK' _ _ next
end
end Go.Proofs.YtmpfbkfemlhekaaGreatDoor.Mem
namespace Go.Proofs.YtmpfbkfemlhekaaGreatDoor
open Go Go.Shelf

set_option maxRecDepth 100000
def sortI_ren : Go.Shelf.Ren := ⟨fun | 53 => 77 | 59 => 189 | 63 => 130 | 64 => 131 | 68 => 202 | 70 => 183 | 71 => 184 | 72 => 185 | 73 => 186 | 74 => 187 | 75 => 188 | 76 => 190 | 77 => 191 | 78 => 192 | 79 => 193 | 88 => 217 | 89 => 218 | 90 => 219 | 91 => 220 | 92 => 221 | 96 => 251 | n => n, fun | 0 => 0 | 1 => 1 | 2 => 2 | 3 => 3 | 4 => 4 | 5 => 5 | 6 => 6 | 7 => 7 | 8 => 8 | 9 => 9 | 10 => 10 | 11 => 11 | 12 => 12 | 13 => 13 | 14 => 14 | 15 => 15 | 16 => 16 | 17 => 17 | 18 => 18 | 19 => 19 | 20 => 20 | 21 => 21 | 22 => 37 | 23 => 3 | 30 => 104 | 32 => 178 | 44 => 120 | 51 => 244 | 52 => 255 | 53 => 145 | 56 => 242 | 57 => 243 | 59 => 298 | 60 => 299 | 61 => 300 | 62 => 301 | 63 => 302 | 64 => 303 | 65 => 304 | 66 => 305 | 67 => 306 | 68 => 307 | 69 => 308 | 75 => 336 | 76 => 337 | 77 => 338 | 78 => 339 | 79 => 340 | 80 => 341 | 83 => 363 | 84 => 188 | 85 => 364 | 87 => 375 | 88 => 376 | 89 => 377 | 90 => 378 | 91 => 379 | 92 => 380 | 93 => 38 | 94 => 381 | 95 => 382 | 96 => 383 | 97 => 384 | 98 => 385 | 99 => 386 | 100 => 387 | 101 => 388 | 102 => 390 | n => n, fun n => n⟩
theorem sortI : SlLaysN.n53 Tryz.prog sortI_ren := {
  mixed := by kernel_rfl,
  f53 := ⟨Tryz.f77.name, by decide, Tryz.func77.trans (congrArg some (by kernel_rfl))⟩,
  f59 := ⟨Tryz.f189.name, by decide, Tryz.func189.trans (congrArg some (by kernel_rfl))⟩,
  f63 := ⟨Tryz.f130.name, by decide, Tryz.func130.trans (congrArg some (by kernel_rfl))⟩,
  f64 := Tryz.func131.trans (congrArg some (by kernel_rfl)),
  f68 := ⟨Tryz.f202.name, by decide, Tryz.func202.trans (congrArg some (by kernel_rfl))⟩,
  f70 := ⟨Tryz.f183.name, by decide, Tryz.func183.trans (congrArg some (by kernel_rfl))⟩,
  f71 := ⟨Tryz.f184.name, by decide, Tryz.func184.trans (congrArg some (by kernel_rfl))⟩,
  f72 := ⟨Tryz.f185.name, by decide, Tryz.func185.trans (congrArg some (by kernel_rfl))⟩,
  f73 := ⟨Tryz.f186.name, by decide, Tryz.func186.trans (congrArg some (by kernel_rfl))⟩,
  f74 := ⟨Tryz.f187.name, by decide, Tryz.func187.trans (congrArg some (by kernel_rfl))⟩,
  f75 := ⟨Tryz.f188.name, by decide, Tryz.func188.trans (congrArg some (by kernel_rfl))⟩,
  f76 := ⟨Tryz.f190.name, by decide, Tryz.func190.trans (congrArg some (by kernel_rfl))⟩,
  f77 := ⟨Tryz.f191.name, by decide, Tryz.func191.trans (congrArg some (by kernel_rfl))⟩,
  f78 := Tryz.func192.trans (congrArg some (by kernel_rfl)),
  f79 := Tryz.func193.trans (congrArg some (by kernel_rfl)),
  f88 := ⟨Tryz.f217.name, by decide, Tryz.func217.trans (congrArg some (by kernel_rfl))⟩,
  f89 := Tryz.func218.trans (congrArg some (by kernel_rfl)),
  f90 := Tryz.func219.trans (congrArg some (by kernel_rfl)),
  f91 := ⟨Tryz.f220.name, by decide, Tryz.func220.trans (congrArg some (by kernel_rfl))⟩,
  f92 := ⟨Tryz.f221.name, by decide, Tryz.func221.trans (congrArg some (by kernel_rfl))⟩,
  f96 := ⟨Tryz.f251.name, by decide, Tryz.func251.trans (congrArg some (by kernel_rfl))⟩,
  t0 := Tryz.underlying0,
  a0 := Tryz.isAgg0,
  z0 := Tryz.sizeOf0,
  v0 := Tryz.zeroValue0,
  t3 := Tryz.underlying3,
  a3 := Tryz.isAgg3,
  z3 := Tryz.sizeOf3,
  v3 := Tryz.zeroValue3,
  t4 := Tryz.underlying4,
  a4 := Tryz.isAgg4,
  z4 := Tryz.sizeOf4,
  v4 := Tryz.zeroValue4,
  t5 := Tryz.underlying5,
  a5 := Tryz.isAgg5,
  z5 := Tryz.sizeOf5,
  v5 := Tryz.zeroValue5,
  t9 := Tryz.underlying9,
  a9 := Tryz.isAgg9,
  z9 := Tryz.sizeOf9,
  v9 := Tryz.zeroValue9,
  t22 := Tryz.underlying37,
  a22 := Tryz.isAgg37,
  z22 := Tryz.sizeOf37,
  v22 := Tryz.zeroValue37,
  t23 := Tryz.underlying3,
  a23 := Tryz.isAgg3,
  z23 := Tryz.sizeOf3,
  v23 := Tryz.zeroValue3,
  t44 := Tryz.underlying120,
  a44 := Tryz.isAgg120,
  z44 := Tryz.sizeOf120,
  v44 := Tryz.zeroValue120,
  t51 := Tryz.underlying244,
  a51 := Tryz.isAgg244,
  z51 := Tryz.sizeOf244,
  v51 := Tryz.zeroValue244,
  t60 := Tryz.underlying299,
  a60 := Tryz.isAgg299,
  z60 := Tryz.sizeOf299,
  v60 := Tryz.zeroValue299,
  t61 := Tryz.underlying300,
  a61 := Tryz.isAgg300,
  z61 := Tryz.sizeOf300,
  v61 := Tryz.zeroValue300,
  t67 := Tryz.underlying306,
  a67 := Tryz.isAgg306,
  z67 := Tryz.sizeOf306,
  v67 := Tryz.zeroValue306,
  t69 := Tryz.underlying308,
  a69 := Tryz.isAgg308,
  z69 := Tryz.sizeOf308,
  v69 := Tryz.zeroValue308,
  t75 := Tryz.underlying336,
  a75 := Tryz.isAgg336,
  z75 := Tryz.sizeOf336,
  v75 := Tryz.zeroValue336,
  t79 := Tryz.underlying340,
  a79 := Tryz.isAgg340,
  z79 := Tryz.sizeOf340,
  v79 := Tryz.zeroValue340,
  t83 := Tryz.underlying363,
  a83 := Tryz.isAgg363,
  z83 := Tryz.sizeOf363,
  v83 := Tryz.zeroValue363,
  t84 := Tryz.underlying188,
  a84 := Tryz.isAgg188,
  z84 := Tryz.sizeOf188,
  v84 := Tryz.zeroValue188 }
end Go.Proofs.YtmpfbkfemlhekaaGreatDoor
/- A configuration out of its parts. -/
namespace Go.Proofs.YtmpfbkfemlhekaaGreatDoor
open Go Go.RowKit Reg Mem

theorem cfg_any {vP vL vS : Value} {hs : List Value} {c : Cfg} {w : World} {F1 F2 F3 F4 : Nat → Prop} (h1 : (Sl true vcell 1 vP hs).at_ w F1) (h2 : (Sl true Place.cells 5 vL c.lps).at_ w F2) (h3 : (Sl true Start.cells 4 vS c.starts).at_ w F3) (h4 : (Sls true Instr.cells 5 hs c.programs).at_ w F4) :
    (CfgA true [vP, vL, vS, .int .i64 c.fin, .int .i64 c.fuel, .int .i64 c.fan] hs c).at_ w (fun b => b < w.heap.size) :=
  ⟨⟨⟨vP, vL, vS, rfl, h1.1.mono h1.2, h2.1.mono h2.2, h3.1.mono h3.2⟩, h4.1.mono h4.2⟩, fun _ h => h⟩
theorem sls_one {α : Type} {enc : α → List Value} {k : Nat} {v : Value} {xs : List α} {w : World} {F : Nat → Prop} (h : (Sl true enc k v xs).at_ w F) : (Sls true enc k [v] [xs]).at_ w F :=
  ⟨⟨rfl, fun i u ys hu hy => by
    cases i with
    | zero => simp at hu hy; subst hu; subst hy; exact h.1
    | succ i => simp at hu⟩, h.2⟩
end Go.Proofs.YtmpfbkfemlhekaaGreatDoor
/- The walks of keys.Of, keys.Check and the law's Events (as in K1, K8, L6), for a seat that has these alone. -/
namespace Go.Proofs.YtmpfbkfemlhekaaGreatDoor
open Go Go.RowKit Reg Mem

def chk (e : Event) : Int :=
  if e.key.src < -1 ∨ 32 ≤ e.key.src ∨ e.dst < 0 ∨ 32 ≤ e.dst ∨ e.key.no < 0 ∨ 1024 ≤ e.key.no ∨ e.key.at_ < 0 ∨ 1073741824 < e.key.at_ then 10
  else if e.key.sent < -1 ∨ e.key.at_ ≤ e.key.sent then 18 else 0
end Go.Proofs.YtmpfbkfemlhekaaGreatDoor
/- The walks of the law's Few and ModelEvents. -/
namespace Go.Proofs.YtmpfbkfemlhekaaGreatDoor
open Go Go.RowKit Reg Mem

def fewB (c : Cfg) : Bool := c.programs.all (fun p => decide (p.length ≤ 80)) && (decide (c.programs.length ≤ 40) && (decide (c.lps.length ≤ 40) && decide (c.starts.length ≤ 300)))
theorem few_iff {c : Cfg} : fewB c = true ↔ (∀ p ∈ c.programs, p.length ≤ 80) ∧ c.programs.length ≤ 40 ∧ c.lps.length ≤ 40 ∧ c.starts.length ≤ 300 := by
  simp [fewB]
def FewRel (bx : Nat) (cs : Array Value) (vP : Value) (hs : List Value) (ps : List (List Instr)) (w : World) (i : Value) (wr : World) : Prop :=
  ∃ j : Nat, j ≤ ps.length ∧ i = .int .i64 j ∧ Hid (∀ (q : Nat) y, q < j → ps[q]? = some y → y.length ≤ 80) ∧ St (fun _ => False) w wr [Blk false bx cs 26, Sls true Instr.cells 5 hs ps, Sl true vcell 1 vP hs]
set_option maxRecDepth 100000 in
set_option maxHeartbeats 4000000 in
theorem few_calls (vs hs : List Value) (c : Cfg) (w : World) (F : Nat → Prop) (h : (CfgA true vs hs c).at_ w F) (hw : Wide c) : Calls Tryz.prog 31 #[.agg vs.toArray] w fun r w' => r = .returned (.bool (fewB c)) ∧ Below w.heap.size w w' := by
  have S : St (fun _ => False) w w [CfgA true vs hs c] := (St.init _ w).share rfl rfl h
  obtain ⟨aP, cP, aL, cL, aS, cS, rfl, hlen, S⟩ := S.cfg 0 rfl
  replace S := S.pick [0, 1] rfl
  simp only [pick, nth] at S
  clear h
  have hp1 : c.programs.length ≤ 9223372036854775807 := Nat.le_trans hw.p (by decide)
  obtain ⟨ps, ls, ss, fin, fuel, fan⟩ := c
  clear hw
  simp only at *
  go_enter Tryz.func31, Tryz.ntmps31
  go_wp2_with first | go_skip | ((with_reducible refine wpList_skip ?hw ?_); (case hw => with_unfolding_all rfl); simp only [Act.put, List.setIfInBounds_toArray, List.set_cons_succ, List.set_cons_zero]) | ((with_reducible apply wps_boxa S); (case hx => rfl); clear S; intro bx wz S) | ((with_reducible refine tot_done ?ht ?_); (case ht => kernel_rfl)) | ((with_reducible apply wps_boxa S); (case hx => rfl); clear S; intro bz wz S) | ((with_reducible apply wps_box1 (v := .int _ _) S); (case hx | h1 => rfl); clear S; intro bz wz S) | ((with_reducible apply wps_box1 (v := .bool _) S); (case hx | h1 => rfl); clear S; intro bz wz S) | ((with_reducible apply wps_box1 (v := .slice _ _ _) S); (case hx | h1 => rfl); clear S; intro bz wz S) | ((with_reducible apply wps_box1 (v := .pointer _) S); (case hx | h1 => rfl); clear S; intro bz wz S) | ((with_reducible apply wps_box1 (v := .map _) S); (case hx | h1 => rfl); clear S; intro bz wz S) | ((with_reducible apply wps_box1 (v := .string _) S); (case hx | h1 => rfl); clear S; intro bz wz S) | ((with_reducible apply wps_box1 (v := .func _ _ _) S); (case hx | h1 => rfl); clear S; intro bz wz S) | ((with_reducible apply wps_load S 0); (case hx | hi | hu => rfl); (case hT => decide +kernel))
  go_loopw [3] (fun i wr => FewRel bx #[.slice aP ps.length cP, .slice aL ls.length cL, .slice aS ss.length cS, .int .i64 fin, .int .i64 fuel, .int .i64 fan] (.slice aP ps.length cP) hs ps w i wr) (fun i _ => ps.length - (intOf i).toNat)
  case atStart => exact ⟨0, Nat.zero_le _, rfl, fun q y h => by omega, S⟩
  case round =>
    clear S
    obtain ⟨j, hj, rfl, Hz, S⟩ := hrel
    by_cases hlt : j < ps.length
    · obtain ⟨p, hp⟩ : ∃ p, ps[j]? = some p := ⟨_, List.getElem?_eq_getElem hlt⟩
      obtain ⟨v, hv⟩ : ∃ v, hs[j]? = some v := ⟨_, List.getElem?_eq_getElem (by omega)⟩
      obtain ⟨R, o, rfl⟩ : ∃ R o, aP = some ⟨R, o, none⟩ := (S.sl 2 rfl).elim fun F h => h.head (by omega)
      have hlt2 : (j : Int) < ps.length := by omega
      obtain ⟨av, cv, rfl, _⟩ := (S.sls 1 rfl).elim fun F h => (h.2 j v p hv hp).form
      have Hp := Lib.hid hp
      have Hv := Lib.hid hv
      clear hp hv
      by_cases h8 : (80 : Int) < p.length
      · go_wp2_with first | go_skip | ((with_reducible refine wpList_skip ?hw ?_); (case hw => with_unfolding_all rfl); simp only [Act.put, List.setIfInBounds_toArray, List.set_cons_succ, List.set_cons_zero]) | ((with_reducible apply wps_load_el S 2 (hj := Hv.out) (q := 0) (u := (.slice av p.length cv))); (case hx | hi => rfl); (case hn => omega); (case hu => rfl); (case hT => decide +kernel)) | ((with_reducible refine tot_done ?ht ?_); (case ht => kernel_rfl)) | ((with_reducible apply wps_load S 0); (case hx | hi | hu => rfl); (case hT => decide +kernel))
        go_ret
        refine ⟨ret_bool ?_, S.below⟩
        symm
        rw [Bool.eq_false_iff]
        intro h
        have := (few_iff.1 h).1 p (List.mem_of_getElem? Hp.out)
        omega
      · go_wp2_with first | go_skip | ((with_reducible refine wpList_skip ?hw ?_); (case hw => with_unfolding_all rfl); simp only [Act.put, List.setIfInBounds_toArray, List.set_cons_succ, List.set_cons_zero]) | ((with_reducible apply wps_load_el S 2 (hj := Hv.out) (q := 0) (u := (.slice av p.length cv))); (case hx | hi => rfl); (case hn => omega); (case hu => rfl); (case hT => decide +kernel)) | ((with_reducible refine tot_done ?ht ?_); (case ht => kernel_rfl)) | ((with_reducible apply wps_load S 0); (case hx | hi | hu => rfl); (case hT => decide +kernel))
        go_roundw
        case rel => exact ⟨j + 1, by omega, by go_num, snoc_all Hz.out Hp.out (by omega), S⟩
        case measure => first | (simp [intOf]; done) | (simp [intOf]; omega)
    · obtain rfl : j = ps.length := by omega
      have HA : Hid ((ps.all fun p => decide (p.length ≤ 80)) = true) := by
        show _ = _
        rw [List.all_eq_true]; intro p hp; simpa using all_of Hz.out p hp
      by_cases k1 : (ps.length : Int) ≤ 40
      · by_cases k2 : (ls.length : Int) ≤ 40
        · go_wp2_with first | go_skip | ((with_reducible refine wpList_skip ?hw ?_); (case hw => with_unfolding_all rfl); simp only [Act.put, List.setIfInBounds_toArray, List.set_cons_succ, List.set_cons_zero]) | ((with_reducible refine tot_done ?ht ?_); (case ht => kernel_rfl)) | ((with_reducible apply wps_load S 0); (case hx | hi | hu => rfl); (case hT => decide +kernel))
          go_ret
          exact ⟨ret_bool (by simp only [fewB]; rw [HA.out, decide_eq_true (by omega : ps.length ≤ 40), decide_eq_true (by omega : ls.length ≤ 40)]; simp; try omega), S.below⟩
        · go_wp2_with first | go_skip | ((with_reducible refine wpList_skip ?hw ?_); (case hw => with_unfolding_all rfl); simp only [Act.put, List.setIfInBounds_toArray, List.set_cons_succ, List.set_cons_zero]) | ((with_reducible refine tot_done ?ht ?_); (case ht => kernel_rfl)) | ((with_reducible apply wps_load S 0); (case hx | hi | hu => rfl); (case hT => decide +kernel))
          go_ret
          exact ⟨ret_bool (by simp only [fewB]; rw [HA.out, decide_eq_false (by omega : ¬ ls.length ≤ 40)]; simp), S.below⟩
      · go_wp2_with first | go_skip | ((with_reducible refine wpList_skip ?hw ?_); (case hw => with_unfolding_all rfl); simp only [Act.put, List.setIfInBounds_toArray, List.set_cons_succ, List.set_cons_zero]) | ((with_reducible refine tot_done ?ht ?_); (case ht => kernel_rfl)) | ((with_reducible apply wps_load S 0); (case hx | hi | hu => rfl); (case hT => decide +kernel))
        go_ret
        exact ⟨ret_bool (by simp only [fewB]; rw [decide_eq_false (by omega : ¬ ps.length ≤ 40)]; simp), S.below⟩
end Go.Proofs.YtmpfbkfemlhekaaGreatDoor
/- Plain: the events that are there at first, in order. No program in sight. -/
namespace Go.Proofs.YtmpfbkfemlhekaaGreatDoor
open Go Go.RowKit Mem

def evsOf (c : Cfg) : List Event := sortE (startsFrom 0 c.starts)
theorem startsFrom_get (l : List Start) (i k : Nat) : (startsFrom i l)[k]? = (l[k]?).map (startEv (i + k)) := by
  induction l generalizing i k with
  | nil => simp [startsFrom]
  | cons x l ih =>
    cases k with
    | zero => simp [startsFrom]
    | succ k => simp only [startsFrom, List.getElem?_cons_succ, ih]; rw [show i + 1 + k = i + (k + 1) by omega]
structure CfgOk (c : Cfg) : Prop where
  sizes : sizesOk c
  starts : c.starts.length ≤ 256
  progs : ∀ p ∈ c.programs, codeE p = 0
  lps : ∀ p ∈ c.lps, 0 ≤ p.program ∧ p.program < c.programs.length
  dst : ∀ s ∈ c.starts, 0 ≤ s.dst ∧ s.dst < c.lps.length
  at_ : ∀ s ∈ c.starts, 0 ≤ s.at_ ∧ s.at_ ≤ c.fin
theorem cfg_ok {c : Cfg} : cfgE c = 0 ↔ CfgOk c := by
  unfold cfgE
  rw [firstE_zero]
  simp only [List.mem_cons, List.not_mem_nil, or_false, forall_eq_or_imp, forall_eq]
  constructor
  · rintro ⟨h1, h2, h3, h4, h5⟩
    unfold sizesE at h1; unfold startsE at h2; unfold programsE at h3; unfold endsE at h4; unfold timesE at h5
    split at h1
    · split at h2
      · cases h2
      · split at h4
        · split at h5
          · rename_i a1 a2 a3 a4
            exact ⟨a1, by omega, fun p hp => firstE_zero.1 h3 _ (List.mem_map_of_mem hp), a3.1, a3.2, a4⟩
          · cases h5
        · cases h4
    · cases h1
  · rintro ⟨h1, h2, h3, h4, h5, h6⟩
    exact ⟨if_pos h1, if_neg (by omega), firstE_zero.2 (fun x hx => by obtain ⟨p, hp, rfl⟩ := List.mem_map.1 hx; exact h3 p hp), if_pos ⟨h4, h5⟩, if_pos h6⟩
end Go.Proofs.YtmpfbkfemlhekaaGreatDoor
/- 's = append(s, e)' where the bytes are bounded. Over any program. -/
namespace Go.Proofs.YtmpfbkfemlhekaaGreatDoor.Mem
open Go Go.RowKit Reg
section
variable {P : Program} {ops : Array Oper} {rest : List Oper} {a : Act} {Q : Exit → Act → World → Prop} {d : Option Tmp} {tt : TypeId} {p : String} {af : Array Edge} {gd : Option (Nat × Bool)} {x y : Operand}
variable {G : Nat → Prop} {w0 w : World} {L : List Asn}
theorem wps_append1B {α : Type} {sh : Bool} {T E E' : TypeId} {enc : α → List Value} {k bytes b : Nat} {cs : Array Value} {v : Value} {xs : List α} (el : Elem P T E k bytes) (hk : ∀ x, (enc x).length = k) (hone : ∀ x, ∀ u ∈ enc x, u.oneCell' = true) (hb1 : 1 ≤ bytes)
    (S : St G w0 w L) (i : Nat) (hi : L[i]? = some (Own E enc k v xs)) (j : Nat) (hj : L[j]? = some (Blk sh b cs E')) (e : α) (hx : a.eval x = v) (hy : a.eval y = .slice (some ⟨b, 0, none⟩) 1 1) (he : enc e = cs.toList) (hl : (xs.length + 1) * bytes ≤ 140737488355328)
    (next : ∀ ad n c w', Hid (n = xs.length + 1) → St G w0 w' (L.set i (Own E enc k (.slice ad n c) (xs ++ [e]))) → wpList P ops Q rest (a.put d (.slice ad n c)) w') (hgd : gOk gd ops a = true := by with_unfolding_all rfl) :
    wpList P ops Q ({ dst := d, op := .call { callee := .builtin .append, args := #[x, y], argTypes := #[T, T] }, type := tt, pos := p, after := af, guard := gd } :: rest) a w := by
  have h2 : xs.length + 1 ≤ (xs.length + 1) * bytes := Nat.le_mul_of_pos_right _ hb1
  exact wps_append (hgd := hgd) el hk hone S i hi (blk_rd [e] 1 (S.blk j hj) (by simpa [flatE] using he) rfl) (by simp [maxLen]; omega) (by simp; omega) hx hy fun v' w' S' => by
    have hl' : i < L.length := (List.getElem?_eq_some_iff.1 hi).1
    obtain ⟨F, h⟩ := S'.get (i := i) (List.getElem?_set_self hl')
    obtain ⟨ad, c, rfl⟩ := h.1.form
    exact next _ _ _ _ (by simp [Hid]) S'
end
end Go.Proofs.YtmpfbkfemlhekaaGreatDoor.Mem
