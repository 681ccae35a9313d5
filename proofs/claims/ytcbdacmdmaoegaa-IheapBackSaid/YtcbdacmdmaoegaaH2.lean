import Derived.Test.YtcbdacmdmaoegaaH1
/- The walk of law03's does: a call with both heaps. -/
namespace Go.Proofs.Ytcbdacmdmaoegaa
open Go Go.RowKit Reg Mem

def fv (s : List Row) (k : Key) : Int × Int := match s.find? (fun x => x.key = k) with | some r => (r.v, 0) | none => (0, 14)
theorem found_fv (s : List Row) (k : Key) : foundVal s k = .tuple #[.int .i64 (fv s k).1, .int .i64 (fv s k).2] := by
  unfold foundVal fv
  cases s.find? (fun x => x.key = k) <;> rfl
theorem hpull_fv (B : Nat) (s : List Row) (k : Key) (w : World) (F : Nat → Prop) (h : (heapA B s).at_ w F) (hmax : s.length ≤ 4294967296) :
    Calls Try.prog 20 #[.pointer (some ⟨B, 0, none⟩), .agg #[.int .i64 k.at_, .int .i64 k.src, .int .i64 k.sent, .int .i64 k.no]] w fun e w' => e = .returned (.tuple #[.int .i64 (fv s k).1, .int .i64 (fv s k).2]) ∧ St F w w' [heapA B (pulled s k)] := by
  rw [← found_fv]; exact hpull_calls B s k w F h hmax
theorem hget_fv (B : Nat) (s : List Row) (k : Key) (w : World) (F : Nat → Prop) (h : (heapA B s).at_ w F) :
    Calls Try.prog 19 #[.pointer (some ⟨B, 0, none⟩), .agg #[.int .i64 k.at_, .int .i64 k.src, .int .i64 k.sent, .int .i64 k.no]] w fun e w' => e = .returned (.tuple #[.int .i64 (fv s k).1, .int .i64 (fv s k).2]) ∧ Below w.heap.size w w' := by
  rw [← found_fv]; exact hget_calls B s k w F h
theorem rpull_fv (B : Nat) (s : List Row) (k : Key) (w : World) (F : Nat → Prop) (h : (refH false B s).at_ w F) (hn : s.length ≤ 65536) (hs : HSorted s) :
    Calls Try.prog 42 #[.pointer (some ⟨B, 0, none⟩), .agg #[.int .i64 k.at_, .int .i64 k.src, .int .i64 k.sent, .int .i64 k.no]] w fun e w' => e = .returned (.tuple #[.int .i64 (fv s k).1, .int .i64 (fv s k).2]) ∧ St F w w' [refH false B (pulled s k)] := by
  rw [← found_fv]; exact rpull_calls B s _ _ _ _ w F h hn hs.nodup
theorem rpush_pu (B : Nat) (s : List Row) (k : Key) (v : Int) (w : World) (F : Nat → Prop) (h : (refH false B s).at_ w F) (hn : s.length ≤ 65536) (hs : HSorted s) :
    Calls Try.prog 30 #[.pointer (some ⟨B, 0, none⟩), .agg #[.int .i64 k.at_, .int .i64 k.src, .int .i64 k.sent, .int .i64 k.no], .int .i64 v] w fun e w' => e = .returned (.int .i64 (PushAns s ⟨k, v⟩)) ∧ St F w w' [refH false B (pushed s ⟨k, v⟩)] := by
  refine (rpush_calls B s _ _ _ _ v w F h hn).mono ?_
  rintro e w' ⟨rfl, S⟩
  rw [rpush_pushed hs] at S ⊢
  exact ⟨rfl, S⟩
def DoesPost (F : Nat → Prop) (B B2 : Nat) (s : List Row) (w : World) (e : Ending) (w' : World) : Prop := e = .returned (.bool true) ∧ St F w w' [heapA B s, refH false B2 s]
set_option maxRecDepth 100000 in
set_option maxHeartbeats 4000000 in
theorem does0_calls (B B2 : Nat) (s : List Row) (o : Op3) (w : World) (F : Nat → Prop) (S : St F w w [heapA B s, refH false B2 s]) (hs : HSorted s) (hn : s.length ≤ 65535) (ha : o.ask = 0) :
    Calls Try.prog 18 #[.pointer (some ⟨B, 0, none⟩), .pointer (some ⟨B2, 0, none⟩), .agg #[.int .i64 o.ask, .int .i64 o.k.at_, .int .i64 o.k.src, .int .i64 o.k.sent, .int .i64 o.k.no, .int .i64 o.v]] w (DoesPost F B B2 (stepE s o) w) := by
  have hq : (o.ask == 0) = true := by simp [ha]
  have HST : Hid (stepE s o = pushed s ⟨o.k, o.v⟩) := by unfold stepE; rw [if_pos ha]; rfl
  clear ha
  have hs1 := Nat.le_trans hn (show 65535 ≤ 4294967296 by decide)
  have Hs := Lib.hid hs
  clear hs
  go_enter Try.func18, Try.ntmps18
  go_wp2_with first
    | go_skip
    | ((with_reducible refine wpList_skip ?hw ?_); (case hw => with_unfolding_all rfl); simp only [Act.put, List.setIfInBounds_toArray, List.set_cons_succ, List.set_cons_zero])
    | (go_at_call 41; refine Calls.mono (at_calls _ _ _ _ _ _ _ _ (S.get (i := 2) rfl).choose_spec (by omega)) ?_; rintro e wz ⟨rfl, hE⟩; replace S := S.ext (Keep.of_below hE); clear hE)
    | ((with_reducible refine tot_done ?ht ?_); (case ht => kernel_rfl))
    | ((with_reducible apply wps_text S); (case hm => kernel_rfl); (case hB => decide +kernel); clear S; intro wz S)
    | ((with_reducible apply wps_boxa S); (case hx => rfl); clear S; intro bz wz S)
    | ((with_reducible apply wps_box1 (v := .int _ _) S); (case hx => rfl); (case h1 => rfl); clear S; intro bz wz S)
    | ((with_reducible apply wps_box1 (v := .bool _) S); (case hx => rfl); (case h1 => rfl); clear S; intro bz wz S)
    | ((with_reducible apply wps_box1 (v := .slice _ _ _) S); (case hx => rfl); (case h1 => rfl); clear S; intro bz wz S)
    | ((with_reducible apply wps_box1 (v := .pointer _) S); (case hx => rfl); (case h1 => rfl); clear S; intro bz wz S)
    | ((with_reducible apply wps_box1 (v := .map _) S); (case hx => rfl); (case h1 => rfl); clear S; intro bz wz S)
    | ((with_reducible apply wps_box1 (v := .string _) S); (case hx => rfl); (case h1 => rfl); clear S; intro bz wz S)
    | ((with_reducible apply wps_box1 (v := .func _ _ _) S); (case hx => rfl); (case h1 => rfl); clear S; intro bz wz S)
    | ((with_reducible apply wps_alloca (E := 28) S); (case hz => exact Try.zeroValue28); clear S; intro bz wz S)
    | ((with_reducible apply wps_alloca (E := 57) S); (case hz => exact Try.zeroValue57); clear S; intro bz wz S)
    | ((with_reducible apply wps_load S 0); (case hx => rfl); (case hi => rfl); (case hT => decide +kernel); (case hu => rfl))
    | ((with_reducible apply wps_loada (T := 28) (k := 4) S 0); (case hx => rfl); (case hi => rfl); (case hT => decide +kernel); (case hk => exact Nat.le_of_ble_eq_true rfl))
    | ((with_reducible apply wps_loada (T := 57) (k := 5) S 0); (case hx => rfl); (case hi => rfl); (case hT => decide +kernel); (case hk => exact Nat.le_of_ble_eq_true rfl))
    | ((with_reducible apply wps_load S 1); (case hx => rfl); (case hi => rfl); (case hT => decide +kernel); (case hu => rfl))
    | ((with_reducible apply wps_loada (T := 28) (k := 4) S 1); (case hx => rfl); (case hi => rfl); (case hT => decide +kernel); (case hk => exact Nat.le_of_ble_eq_true rfl))
    | ((with_reducible apply wps_loada (T := 57) (k := 5) S 1); (case hx => rfl); (case hi => rfl); (case hT => decide +kernel); (case hk => exact Nat.le_of_ble_eq_true rfl))
    | ((with_reducible apply wps_load S 2); (case hx => rfl); (case hi => rfl); (case hT => decide +kernel); (case hu => rfl))
    | ((with_reducible apply wps_loada (T := 28) (k := 4) S 2); (case hx => rfl); (case hi => rfl); (case hT => decide +kernel); (case hk => exact Nat.le_of_ble_eq_true rfl))
    | ((with_reducible apply wps_loada (T := 57) (k := 5) S 2); (case hx => rfl); (case hi => rfl); (case hT => decide +kernel); (case hk => exact Nat.le_of_ble_eq_true rfl))
    | ((with_reducible apply wps_load S 3); (case hx => rfl); (case hi => rfl); (case hT => decide +kernel); (case hu => rfl))
    | ((with_reducible apply wps_loada (T := 28) (k := 4) S 3); (case hx => rfl); (case hi => rfl); (case hT => decide +kernel); (case hk => exact Nat.le_of_ble_eq_true rfl))
    | ((with_reducible apply wps_loada (T := 57) (k := 5) S 3); (case hx => rfl); (case hi => rfl); (case hT => decide +kernel); (case hk => exact Nat.le_of_ble_eq_true rfl))
  (refine wp_region_wt (soft := [0, 1, 2, 3, 4, 6, 7, 8, 9, 10]) (L := [_]) (T := [_, _]) S ?hm ?hB ?_); (case hm => kernel_rfl); (case hB => decide +kernel); clear S
  iterate 10
    (with_reducible apply softs_cons)
    (case hw =>
      (with_reducible apply soft_of); (case hi => rfl)
      intro T wz S
      simp only [List.cons_append, List.nil_append] at S
      go_wp2_with first
        | go_skip
        | (go_at_call 21; obtain ⟨Fz, hF, hBk⟩ := S.lend1 1 rfl rfl; refine Calls.mono (hpush_calls _ _ o.k o.v _ _ hF (by omega)) ?_; rintro e wz ⟨rfl, T⟩; replace S := hBk _ _ rfl T; clear hBk hF T; simp only [List.set_cons_succ, List.set_cons_zero] at S)
        | (go_at_call 30; obtain ⟨Fz, hF, hBk⟩ := S.lend1 2 rfl rfl; refine Calls.mono (rpush_pu _ _ o.k o.v _ _ hF (by omega) Hs.out) ?_; rintro e wz ⟨rfl, T⟩; replace S := hBk _ _ rfl T; clear hBk hF T; simp only [List.set_cons_succ, List.set_cons_zero] at S)
        | ((with_reducible refine tot_done ?ht ?_); (case ht => kernel_rfl))
        | ((with_reducible apply wps_alloca (E := 28) S); (case hz => exact Try.zeroValue28); clear S; intro bz wz S)
        | ((with_reducible apply wps_alloca (E := 57) S); (case hz => exact Try.zeroValue57); clear S; intro bz wz S)
        | ((with_reducible apply wps_load S 0); (case hx => rfl); (case hi => rfl); (case hT => decide +kernel); (case hu => rfl))
        | ((with_reducible apply wps_loada (T := 28) (k := 4) S 0); (case hx => rfl); (case hi => rfl); (case hT => decide +kernel); (case hk => exact Nat.le_of_ble_eq_true rfl))
        | ((with_reducible apply wps_loada (T := 57) (k := 5) S 0); (case hx => rfl); (case hi => rfl); (case hT => decide +kernel); (case hk => exact Nat.le_of_ble_eq_true rfl))
        | ((with_reducible apply wps_load S 1); (case hx => rfl); (case hi => rfl); (case hT => decide +kernel); (case hu => rfl))
        | ((with_reducible apply wps_loada (T := 28) (k := 4) S 1); (case hx => rfl); (case hi => rfl); (case hT => decide +kernel); (case hk => exact Nat.le_of_ble_eq_true rfl))
        | ((with_reducible apply wps_loada (T := 57) (k := 5) S 1); (case hx => rfl); (case hi => rfl); (case hT => decide +kernel); (case hk => exact Nat.le_of_ble_eq_true rfl))
        | ((with_reducible apply wps_load S 2); (case hx => rfl); (case hi => rfl); (case hT => decide +kernel); (case hu => rfl))
        | ((with_reducible apply wps_loada (T := 28) (k := 4) S 2); (case hx => rfl); (case hi => rfl); (case hT => decide +kernel); (case hk => exact Nat.le_of_ble_eq_true rfl))
        | ((with_reducible apply wps_loada (T := 57) (k := 5) S 2); (case hx => rfl); (case hi => rfl); (case hT => decide +kernel); (case hk => exact Nat.le_of_ble_eq_true rfl))
        | ((with_reducible apply wps_load S 3); (case hx => rfl); (case hi => rfl); (case hT => decide +kernel); (case hu => rfl))
        | ((with_reducible apply wps_loada (T := 28) (k := 4) S 3); (case hx => rfl); (case hi => rfl); (case hT => decide +kernel); (case hk => exact Nat.le_of_ble_eq_true rfl))
        | ((with_reducible apply wps_loada (T := 57) (k := 5) S 3); (case hx => rfl); (case hi => rfl); (case hT => decide +kernel); (case hk => exact Nat.le_of_ble_eq_true rfl))
      exact ⟨rfl, S⟩)
    (case hs => exact ⟨_, rfl, by kernel_rfl⟩)
  refine softs_nil ?_
  (with_reducible apply W_hard1 (i := 5)); (case hn => rfl); (case hr => decide +kernel)
  intro wz S
  (with_reducible apply hard_of); (case hi => rfl)
  simp only [List.cons_append, List.nil_append] at S
  go_wp2_with first
    | go_skip
    | (go_at_call 21; obtain ⟨Fz, hF, hBk⟩ := S.lend1 1 rfl rfl; refine Calls.mono (hpush_calls _ _ o.k o.v _ _ hF (by omega)) ?_; rintro e wz ⟨rfl, T⟩; replace S := hBk _ _ rfl T; clear hBk hF T; simp only [List.set_cons_succ, List.set_cons_zero] at S)
    | (go_at_call 30; obtain ⟨Fz, hF, hBk⟩ := S.lend1 2 rfl rfl; refine Calls.mono (rpush_pu _ _ o.k o.v _ _ hF (by omega) Hs.out) ?_; rintro e wz ⟨rfl, T⟩; replace S := hBk _ _ rfl T; clear hBk hF T; simp only [List.set_cons_succ, List.set_cons_zero] at S)
    | ((with_reducible refine tot_done ?ht ?_); (case ht => kernel_rfl))
    | ((with_reducible apply wps_alloca (E := 28) S); (case hz => exact Try.zeroValue28); clear S; intro bz wz S)
    | ((with_reducible apply wps_alloca (E := 57) S); (case hz => exact Try.zeroValue57); clear S; intro bz wz S)
    | ((with_reducible apply wps_load S 0); (case hx => rfl); (case hi => rfl); (case hT => decide +kernel); (case hu => rfl))
    | ((with_reducible apply wps_loada (T := 28) (k := 4) S 0); (case hx => rfl); (case hi => rfl); (case hT => decide +kernel); (case hk => exact Nat.le_of_ble_eq_true rfl))
    | ((with_reducible apply wps_loada (T := 57) (k := 5) S 0); (case hx => rfl); (case hi => rfl); (case hT => decide +kernel); (case hk => exact Nat.le_of_ble_eq_true rfl))
    | ((with_reducible apply wps_load S 1); (case hx => rfl); (case hi => rfl); (case hT => decide +kernel); (case hu => rfl))
    | ((with_reducible apply wps_loada (T := 28) (k := 4) S 1); (case hx => rfl); (case hi => rfl); (case hT => decide +kernel); (case hk => exact Nat.le_of_ble_eq_true rfl))
    | ((with_reducible apply wps_loada (T := 57) (k := 5) S 1); (case hx => rfl); (case hi => rfl); (case hT => decide +kernel); (case hk => exact Nat.le_of_ble_eq_true rfl))
    | ((with_reducible apply wps_load S 2); (case hx => rfl); (case hi => rfl); (case hT => decide +kernel); (case hu => rfl))
    | ((with_reducible apply wps_loada (T := 28) (k := 4) S 2); (case hx => rfl); (case hi => rfl); (case hT => decide +kernel); (case hk => exact Nat.le_of_ble_eq_true rfl))
    | ((with_reducible apply wps_loada (T := 57) (k := 5) S 2); (case hx => rfl); (case hi => rfl); (case hT => decide +kernel); (case hk => exact Nat.le_of_ble_eq_true rfl))
    | ((with_reducible apply wps_load S 3); (case hx => rfl); (case hi => rfl); (case hT => decide +kernel); (case hu => rfl))
    | ((with_reducible apply wps_loada (T := 28) (k := 4) S 3); (case hx => rfl); (case hi => rfl); (case hT => decide +kernel); (case hk => exact Nat.le_of_ble_eq_true rfl))
    | ((with_reducible apply wps_loada (T := 57) (k := 5) S 3); (case hx => rfl); (case hi => rfl); (case hT => decide +kernel); (case hk => exact Nat.le_of_ble_eq_true rfl))
  refine ⟨_, S, ?_⟩
  clear S
  (with_reducible apply W_hard1 (i := 11)); (case hn => rfl); (case hr => decide +kernel)
  intro wz S
  (with_reducible apply hard_of); (case hi => rfl)
  simp only [List.cons_append, List.nil_append] at S
  go_wp2_with first
    | go_skip
    | (go_at_call 21; obtain ⟨Fz, hF, hBk⟩ := S.lend1 1 rfl rfl; refine Calls.mono (hpush_calls _ _ o.k o.v _ _ hF (by omega)) ?_; rintro e wz ⟨rfl, T⟩; replace S := hBk _ _ rfl T; clear hBk hF T; simp only [List.set_cons_succ, List.set_cons_zero] at S)
    | (go_at_call 30; obtain ⟨Fz, hF, hBk⟩ := S.lend1 2 rfl rfl; refine Calls.mono (rpush_pu _ _ o.k o.v _ _ hF (by omega) Hs.out) ?_; rintro e wz ⟨rfl, T⟩; replace S := hBk _ _ rfl T; clear hBk hF T; simp only [List.set_cons_succ, List.set_cons_zero] at S)
    | ((with_reducible refine tot_done ?ht ?_); (case ht => kernel_rfl))
    | ((with_reducible apply wps_alloca (E := 28) S); (case hz => exact Try.zeroValue28); clear S; intro bz wz S)
    | ((with_reducible apply wps_alloca (E := 57) S); (case hz => exact Try.zeroValue57); clear S; intro bz wz S)
    | ((with_reducible apply wps_load S 0); (case hx => rfl); (case hi => rfl); (case hT => decide +kernel); (case hu => rfl))
    | ((with_reducible apply wps_loada (T := 28) (k := 4) S 0); (case hx => rfl); (case hi => rfl); (case hT => decide +kernel); (case hk => exact Nat.le_of_ble_eq_true rfl))
    | ((with_reducible apply wps_loada (T := 57) (k := 5) S 0); (case hx => rfl); (case hi => rfl); (case hT => decide +kernel); (case hk => exact Nat.le_of_ble_eq_true rfl))
    | ((with_reducible apply wps_load S 1); (case hx => rfl); (case hi => rfl); (case hT => decide +kernel); (case hu => rfl))
    | ((with_reducible apply wps_loada (T := 28) (k := 4) S 1); (case hx => rfl); (case hi => rfl); (case hT => decide +kernel); (case hk => exact Nat.le_of_ble_eq_true rfl))
    | ((with_reducible apply wps_loada (T := 57) (k := 5) S 1); (case hx => rfl); (case hi => rfl); (case hT => decide +kernel); (case hk => exact Nat.le_of_ble_eq_true rfl))
    | ((with_reducible apply wps_load S 2); (case hx => rfl); (case hi => rfl); (case hT => decide +kernel); (case hu => rfl))
    | ((with_reducible apply wps_loada (T := 28) (k := 4) S 2); (case hx => rfl); (case hi => rfl); (case hT => decide +kernel); (case hk => exact Nat.le_of_ble_eq_true rfl))
    | ((with_reducible apply wps_loada (T := 57) (k := 5) S 2); (case hx => rfl); (case hi => rfl); (case hT => decide +kernel); (case hk => exact Nat.le_of_ble_eq_true rfl))
    | ((with_reducible apply wps_load S 3); (case hx => rfl); (case hi => rfl); (case hT => decide +kernel); (case hu => rfl))
    | ((with_reducible apply wps_loada (T := 28) (k := 4) S 3); (case hx => rfl); (case hi => rfl); (case hT => decide +kernel); (case hk => exact Nat.le_of_ble_eq_true rfl))
    | ((with_reducible apply wps_loada (T := 57) (k := 5) S 3); (case hx => rfl); (case hi => rfl); (case hT => decide +kernel); (case hk => exact Nat.le_of_ble_eq_true rfl))
  refine ⟨_, S, ?_⟩
  clear S
  (refine W_mid (f := 0) (soft := [12, 13]) rfl ?hB ?_); (case hB => decide +kernel)
  iterate 2
    (with_reducible apply softs_cons)
    (case hw =>
      (with_reducible apply soft_of); (case hi => rfl)
      intro T wz S
      simp only [List.cons_append, List.nil_append] at S
      go_wp2_with first
        | go_skip
        | (go_at_call 21; obtain ⟨Fz, hF, hBk⟩ := S.lend1 1 rfl rfl; refine Calls.mono (hpush_calls _ _ o.k o.v _ _ hF (by omega)) ?_; rintro e wz ⟨rfl, T⟩; replace S := hBk _ _ rfl T; clear hBk hF T; simp only [List.set_cons_succ, List.set_cons_zero] at S)
        | (go_at_call 30; obtain ⟨Fz, hF, hBk⟩ := S.lend1 2 rfl rfl; refine Calls.mono (rpush_pu _ _ o.k o.v _ _ hF (by omega) Hs.out) ?_; rintro e wz ⟨rfl, T⟩; replace S := hBk _ _ rfl T; clear hBk hF T; simp only [List.set_cons_succ, List.set_cons_zero] at S)
        | ((with_reducible refine tot_done ?ht ?_); (case ht => kernel_rfl))
        | ((with_reducible apply wps_alloca (E := 28) S); (case hz => exact Try.zeroValue28); clear S; intro bz wz S)
        | ((with_reducible apply wps_alloca (E := 57) S); (case hz => exact Try.zeroValue57); clear S; intro bz wz S)
        | ((with_reducible apply wps_load S 0); (case hx => rfl); (case hi => rfl); (case hT => decide +kernel); (case hu => rfl))
        | ((with_reducible apply wps_loada (T := 28) (k := 4) S 0); (case hx => rfl); (case hi => rfl); (case hT => decide +kernel); (case hk => exact Nat.le_of_ble_eq_true rfl))
        | ((with_reducible apply wps_loada (T := 57) (k := 5) S 0); (case hx => rfl); (case hi => rfl); (case hT => decide +kernel); (case hk => exact Nat.le_of_ble_eq_true rfl))
        | ((with_reducible apply wps_load S 1); (case hx => rfl); (case hi => rfl); (case hT => decide +kernel); (case hu => rfl))
        | ((with_reducible apply wps_loada (T := 28) (k := 4) S 1); (case hx => rfl); (case hi => rfl); (case hT => decide +kernel); (case hk => exact Nat.le_of_ble_eq_true rfl))
        | ((with_reducible apply wps_loada (T := 57) (k := 5) S 1); (case hx => rfl); (case hi => rfl); (case hT => decide +kernel); (case hk => exact Nat.le_of_ble_eq_true rfl))
        | ((with_reducible apply wps_load S 2); (case hx => rfl); (case hi => rfl); (case hT => decide +kernel); (case hu => rfl))
        | ((with_reducible apply wps_loada (T := 28) (k := 4) S 2); (case hx => rfl); (case hi => rfl); (case hT => decide +kernel); (case hk => exact Nat.le_of_ble_eq_true rfl))
        | ((with_reducible apply wps_loada (T := 57) (k := 5) S 2); (case hx => rfl); (case hi => rfl); (case hT => decide +kernel); (case hk => exact Nat.le_of_ble_eq_true rfl))
        | ((with_reducible apply wps_load S 3); (case hx => rfl); (case hi => rfl); (case hT => decide +kernel); (case hu => rfl))
        | ((with_reducible apply wps_loada (T := 28) (k := 4) S 3); (case hx => rfl); (case hi => rfl); (case hT => decide +kernel); (case hk => exact Nat.le_of_ble_eq_true rfl))
        | ((with_reducible apply wps_loada (T := 57) (k := 5) S 3); (case hx => rfl); (case hi => rfl); (case hT => decide +kernel); (case hk => exact Nat.le_of_ble_eq_true rfl))
      exact ⟨rfl, S⟩)
    (case hs => exact ⟨_, rfl, by kernel_rfl⟩)
  refine softs_nil ?_
  (with_reducible apply W_done); (case hn => rfl); (case hr => decide +kernel)
  intro wz S
  repeat (first | simp only at S | simp only [pick] at S | simp only [nth] at S | simp only [List.set_cons_succ] at S | simp only [List.set_cons_zero] at S | simp only [List.setIfInBounds_toArray] at S | simp only [setAll] at S | simp only [List.cons_append] at S | simp only [List.nil_append] at S | simp only [List.append_nil] at S)
  all_goals
    go_wp2_with first
      | go_skip
      | ((with_reducible refine wpList_skip ?hw ?_); (case hw => with_unfolding_all rfl); simp only [Act.put, List.setIfInBounds_toArray, List.set_cons_succ, List.set_cons_zero])
      | ((with_reducible refine tot_done ?ht ?_); (case ht => kernel_rfl))
      | ((with_reducible apply wps_text S); (case hm => kernel_rfl); (case hB => decide +kernel); clear S; intro wz S)
      | ((with_reducible apply wps_alloca (E := 28) S); (case hz => exact Try.zeroValue28); clear S; intro bz wz S)
      | ((with_reducible apply wps_alloca (E := 57) S); (case hz => exact Try.zeroValue57); clear S; intro bz wz S)
      | ((with_reducible apply wps_load S 0); (case hx => rfl); (case hi => rfl); (case hT => decide +kernel); (case hu => rfl))
      | ((with_reducible apply wps_loada (T := 28) (k := 4) S 0); (case hx => rfl); (case hi => rfl); (case hT => decide +kernel); (case hk => exact Nat.le_of_ble_eq_true rfl))
      | ((with_reducible apply wps_loada (T := 57) (k := 5) S 0); (case hx => rfl); (case hi => rfl); (case hT => decide +kernel); (case hk => exact Nat.le_of_ble_eq_true rfl))
      | ((with_reducible apply wps_load S 1); (case hx => rfl); (case hi => rfl); (case hT => decide +kernel); (case hu => rfl))
      | ((with_reducible apply wps_loada (T := 28) (k := 4) S 1); (case hx => rfl); (case hi => rfl); (case hT => decide +kernel); (case hk => exact Nat.le_of_ble_eq_true rfl))
      | ((with_reducible apply wps_loada (T := 57) (k := 5) S 1); (case hx => rfl); (case hi => rfl); (case hT => decide +kernel); (case hk => exact Nat.le_of_ble_eq_true rfl))
      | ((with_reducible apply wps_load S 2); (case hx => rfl); (case hi => rfl); (case hT => decide +kernel); (case hu => rfl))
      | ((with_reducible apply wps_loada (T := 28) (k := 4) S 2); (case hx => rfl); (case hi => rfl); (case hT => decide +kernel); (case hk => exact Nat.le_of_ble_eq_true rfl))
      | ((with_reducible apply wps_loada (T := 57) (k := 5) S 2); (case hx => rfl); (case hi => rfl); (case hT => decide +kernel); (case hk => exact Nat.le_of_ble_eq_true rfl))
      | ((with_reducible apply wps_load S 3); (case hx => rfl); (case hi => rfl); (case hT => decide +kernel); (case hu => rfl))
      | ((with_reducible apply wps_loada (T := 28) (k := 4) S 3); (case hx => rfl); (case hi => rfl); (case hT => decide +kernel); (case hk => exact Nat.le_of_ble_eq_true rfl))
      | ((with_reducible apply wps_loada (T := 57) (k := 5) S 3); (case hx => rfl); (case hi => rfl); (case hT => decide +kernel); (case hk => exact Nat.le_of_ble_eq_true rfl))
    go_ret
    refine ⟨ret_bool (by simp), ?_⟩
    rw [HST.out]
    exact S.pick [1, 2] rfl
set_option maxRecDepth 100000 in
set_option maxHeartbeats 4000000 in
theorem does1_calls (B B2 : Nat) (s : List Row) (o : Op3) (w : World) (F : Nat → Prop) (S : St F w w [heapA B s, refH false B2 s]) (hs : HSorted s) (hn : s.length ≤ 65535) (ha : o.ask = 1) :
    Calls Try.prog 18 #[.pointer (some ⟨B, 0, none⟩), .pointer (some ⟨B2, 0, none⟩), .agg #[.int .i64 o.ask, .int .i64 o.k.at_, .int .i64 o.k.src, .int .i64 o.k.sent, .int .i64 o.k.no, .int .i64 o.v]] w (DoesPost F B B2 (stepE s o) w) := by
  have hq : (o.ask == 0) = false := by simp [ha]
  have hq1 : (o.ask == 1) = true := by simp [ha]
  have HST : Hid (stepE s o = pulled s o.k) := by unfold stepE; rw [if_neg (by omega), if_pos ha]; rfl
  have e1 : ((fv s o.k).1 == (fv s o.k).1) = true := by simp
  have e2 : ((fv s o.k).2 == (fv s o.k).2) = true := by simp
  clear ha
  have hs1 := Nat.le_trans hn (show 65535 ≤ 4294967296 by decide)
  have Hs := Lib.hid hs
  clear hs
  go_enter Try.func18, Try.ntmps18
  go_wp2_with first
    | go_skip
    | ((with_reducible refine wpList_skip ?hw ?_); (case hw => with_unfolding_all rfl); simp only [Act.put, List.setIfInBounds_toArray, List.set_cons_succ, List.set_cons_zero])
    | (go_at_call 41; refine Calls.mono (at_calls _ _ _ _ _ _ _ _ (S.get (i := 2) rfl).choose_spec (by omega)) ?_; rintro e wz ⟨rfl, hE⟩; replace S := S.ext (Keep.of_below hE); clear hE)
    | ((with_reducible refine tot_done ?ht ?_); (case ht => kernel_rfl))
    | ((with_reducible apply wps_text S); (case hm => kernel_rfl); (case hB => decide +kernel); clear S; intro wz S)
    | ((with_reducible apply wps_boxa S); (case hx => rfl); clear S; intro bz wz S)
    | ((with_reducible apply wps_box1 (v := .int _ _) S); (case hx => rfl); (case h1 => rfl); clear S; intro bz wz S)
    | ((with_reducible apply wps_box1 (v := .bool _) S); (case hx => rfl); (case h1 => rfl); clear S; intro bz wz S)
    | ((with_reducible apply wps_box1 (v := .slice _ _ _) S); (case hx => rfl); (case h1 => rfl); clear S; intro bz wz S)
    | ((with_reducible apply wps_box1 (v := .pointer _) S); (case hx => rfl); (case h1 => rfl); clear S; intro bz wz S)
    | ((with_reducible apply wps_box1 (v := .map _) S); (case hx => rfl); (case h1 => rfl); clear S; intro bz wz S)
    | ((with_reducible apply wps_box1 (v := .string _) S); (case hx => rfl); (case h1 => rfl); clear S; intro bz wz S)
    | ((with_reducible apply wps_box1 (v := .func _ _ _) S); (case hx => rfl); (case h1 => rfl); clear S; intro bz wz S)
    | ((with_reducible apply wps_alloca (E := 28) S); (case hz => exact Try.zeroValue28); clear S; intro bz wz S)
    | ((with_reducible apply wps_alloca (E := 57) S); (case hz => exact Try.zeroValue57); clear S; intro bz wz S)
    | ((with_reducible apply wps_load S 0); (case hx => rfl); (case hi => rfl); (case hT => decide +kernel); (case hu => rfl))
    | ((with_reducible apply wps_loada (T := 28) (k := 4) S 0); (case hx => rfl); (case hi => rfl); (case hT => decide +kernel); (case hk => exact Nat.le_of_ble_eq_true rfl))
    | ((with_reducible apply wps_loada (T := 57) (k := 5) S 0); (case hx => rfl); (case hi => rfl); (case hT => decide +kernel); (case hk => exact Nat.le_of_ble_eq_true rfl))
    | ((with_reducible apply wps_load S 1); (case hx => rfl); (case hi => rfl); (case hT => decide +kernel); (case hu => rfl))
    | ((with_reducible apply wps_loada (T := 28) (k := 4) S 1); (case hx => rfl); (case hi => rfl); (case hT => decide +kernel); (case hk => exact Nat.le_of_ble_eq_true rfl))
    | ((with_reducible apply wps_loada (T := 57) (k := 5) S 1); (case hx => rfl); (case hi => rfl); (case hT => decide +kernel); (case hk => exact Nat.le_of_ble_eq_true rfl))
    | ((with_reducible apply wps_load S 2); (case hx => rfl); (case hi => rfl); (case hT => decide +kernel); (case hu => rfl))
    | ((with_reducible apply wps_loada (T := 28) (k := 4) S 2); (case hx => rfl); (case hi => rfl); (case hT => decide +kernel); (case hk => exact Nat.le_of_ble_eq_true rfl))
    | ((with_reducible apply wps_loada (T := 57) (k := 5) S 2); (case hx => rfl); (case hi => rfl); (case hT => decide +kernel); (case hk => exact Nat.le_of_ble_eq_true rfl))
    | ((with_reducible apply wps_load S 3); (case hx => rfl); (case hi => rfl); (case hT => decide +kernel); (case hu => rfl))
    | ((with_reducible apply wps_loada (T := 28) (k := 4) S 3); (case hx => rfl); (case hi => rfl); (case hT => decide +kernel); (case hk => exact Nat.le_of_ble_eq_true rfl))
    | ((with_reducible apply wps_loada (T := 57) (k := 5) S 3); (case hx => rfl); (case hi => rfl); (case hT => decide +kernel); (case hk => exact Nat.le_of_ble_eq_true rfl))
  go_wp2_with first
    | go_skip
    | ((with_reducible refine wpList_skip ?hw ?_); (case hw => with_unfolding_all rfl); simp only [Act.put, List.setIfInBounds_toArray, List.set_cons_succ, List.set_cons_zero])
    | (go_at_call 20; obtain ⟨Fz, hF, hBk⟩ := S.lend1 1 rfl rfl; refine Calls.mono (hpull_fv _ _ o.k _ _ hF hs1) ?_; rintro e wz ⟨rfl, T⟩; replace S := hBk _ _ rfl T; clear hBk hF T; simp only [List.set_cons_succ, List.set_cons_zero] at S)
    | (go_at_call 42; obtain ⟨Fz, hF, hBk⟩ := S.lend1 2 rfl rfl; refine Calls.mono (rpull_fv _ _ o.k _ _ hF (by omega) Hs.out) ?_; rintro e wz ⟨rfl, T⟩; replace S := hBk _ _ rfl T; clear hBk hF T; simp only [List.set_cons_succ, List.set_cons_zero] at S)
    | ((with_reducible refine tot_done ?ht ?_); (case ht => kernel_rfl))
    | ((with_reducible apply wps_text S); (case hm => kernel_rfl); (case hB => decide +kernel); clear S; intro wz S)
    | ((with_reducible apply wps_alloca (E := 28) S); (case hz => exact Try.zeroValue28); clear S; intro bz wz S)
    | ((with_reducible apply wps_alloca (E := 57) S); (case hz => exact Try.zeroValue57); clear S; intro bz wz S)
    | ((with_reducible apply wps_load S 0); (case hx => rfl); (case hi => rfl); (case hT => decide +kernel); (case hu => rfl))
    | ((with_reducible apply wps_loada (T := 28) (k := 4) S 0); (case hx => rfl); (case hi => rfl); (case hT => decide +kernel); (case hk => exact Nat.le_of_ble_eq_true rfl))
    | ((with_reducible apply wps_loada (T := 57) (k := 5) S 0); (case hx => rfl); (case hi => rfl); (case hT => decide +kernel); (case hk => exact Nat.le_of_ble_eq_true rfl))
    | ((with_reducible apply wps_load S 1); (case hx => rfl); (case hi => rfl); (case hT => decide +kernel); (case hu => rfl))
    | ((with_reducible apply wps_loada (T := 28) (k := 4) S 1); (case hx => rfl); (case hi => rfl); (case hT => decide +kernel); (case hk => exact Nat.le_of_ble_eq_true rfl))
    | ((with_reducible apply wps_loada (T := 57) (k := 5) S 1); (case hx => rfl); (case hi => rfl); (case hT => decide +kernel); (case hk => exact Nat.le_of_ble_eq_true rfl))
    | ((with_reducible apply wps_load S 2); (case hx => rfl); (case hi => rfl); (case hT => decide +kernel); (case hu => rfl))
    | ((with_reducible apply wps_loada (T := 28) (k := 4) S 2); (case hx => rfl); (case hi => rfl); (case hT => decide +kernel); (case hk => exact Nat.le_of_ble_eq_true rfl))
    | ((with_reducible apply wps_loada (T := 57) (k := 5) S 2); (case hx => rfl); (case hi => rfl); (case hT => decide +kernel); (case hk => exact Nat.le_of_ble_eq_true rfl))
    | ((with_reducible apply wps_load S 3); (case hx => rfl); (case hi => rfl); (case hT => decide +kernel); (case hu => rfl))
    | ((with_reducible apply wps_loada (T := 28) (k := 4) S 3); (case hx => rfl); (case hi => rfl); (case hT => decide +kernel); (case hk => exact Nat.le_of_ble_eq_true rfl))
    | ((with_reducible apply wps_loada (T := 57) (k := 5) S 3); (case hx => rfl); (case hi => rfl); (case hT => decide +kernel); (case hk => exact Nat.le_of_ble_eq_true rfl))
  go_ret
  refine ⟨rfl, ?_⟩
  rw [HST.out]
  exact S.pick [1, 2] rfl
theorem fv_none {s : List Row} {k : Key} (h : k ∉ s.map (·.key)) : fv s k = (0, 14) := by unfold fv; rw [find_none h]
theorem fv_some {s : List Row} (hs : HSorted s) {r : Row} (h : r ∈ s) : fv s r.key = (r.v, 0) := by unfold fv; rw [find_key h hs.nodup]
set_option maxRecDepth 100000 in
set_option maxHeartbeats 4000000 in
theorem does2_calls (B B2 : Nat) (s : List Row) (o : Op3) (w : World) (F : Nat → Prop) (S : St F w w [heapA B s, refH false B2 s]) (hs : HSorted s) (hn : s.length ≤ 65535) (ha : o.ask = 2) :
    Calls Try.prog 18 #[.pointer (some ⟨B, 0, none⟩), .pointer (some ⟨B2, 0, none⟩), .agg #[.int .i64 o.ask, .int .i64 o.k.at_, .int .i64 o.k.src, .int .i64 o.k.sent, .int .i64 o.k.no, .int .i64 o.v]] w (DoesPost F B B2 (stepE s o) w) := by
  have hq : (o.ask == 0) = false := by simp [ha]
  have hq1 : (o.ask == 1) = false := by simp [ha]
  have hq2 : (o.ask == 2) = true := by simp [ha]
  have HST : Hid (stepE s o = s) := by unfold stepE; rw [if_neg (by omega), if_neg (by omega), if_pos ha]; rfl
  rw [HST.out]
  by_cases hk : o.k ∈ s.map (·.key)
  · obtain ⟨r, hr, hrk⟩ := List.mem_map.1 hk
    obtain ⟨j, hj, he⟩ := List.mem_iff_getElem.1 hr
    have hx : s[j]? = some r := by rw [List.getElem?_eq_getElem hj, he]
    have hfv := fv_some hs hr
    rw [hrk] at hfv
    have e1 : ((fv s o.k).1 == r.v) = true := by rw [hfv]; simp
    have e2 : ((fv s o.k).2 == 0) = true := by rw [hfv]; rfl
    have hat : rAt s o.k = j := rAt_at hx hrk (fun q y hq hy e => by
      have h1 := hs.nodup
      have hql := (List.getElem?_eq_some_iff.1 hy).1
      have hyq : s[q] = y := (List.getElem?_eq_some_iff.1 hy).2
      have h2 : (s.map (·.key))[q]'(by simpa using hql) = (s.map (·.key))[j]'(by simpa using hj) := by simp [hyq, he, e, hrk]
      exact List.pairwise_iff_getElem.1 h1 q j (by simpa using hql) (by simpa using hj) hq h2)
    have HAT := Lib.hid (show rAt s ⟨o.k.at_, o.k.src, o.k.sent, o.k.no⟩ = j from hat)
    have hj2 : (j : Int) < s.length := by omega
    have Hx := Lib.hid hx
    clear hx
    clear hfv hat hr hrk he hk ha HST
    have hs1 : s.length ≤ 4294967296 := by omega
    have Hs := Lib.hid hs
    clear hs
    go_enter Try.func18, Try.ntmps18
    go_upto_region 13 with first
      | go_skip
      | ((with_reducible refine wpList_skip ?hw ?_); (case hw => with_unfolding_all rfl); simp only [Act.put, List.setIfInBounds_toArray, List.set_cons_succ, List.set_cons_zero])
      | (go_at_call 41; refine Calls.mono (at_calls _ _ _ _ _ _ _ _ (S.get (i := 2) rfl).choose_spec (by omega)) ?_; rintro e wz ⟨rfl, hE⟩; rw [HAT.out]; replace S := S.ext (Keep.of_below hE); clear hE)
      | (go_at_call 19; refine Calls.mono (hget_fv _ _ o.k _ _ (S.get (i := 1) rfl).choose_spec) ?_; rintro e wz ⟨rfl, hE⟩; replace S := S.ext (Keep.of_below hE); clear hE)
      | ((with_reducible refine tot_done ?ht ?_); (case ht => kernel_rfl))
      | ((with_reducible apply wps_text S); (case hm => kernel_rfl); (case hB => decide +kernel); clear S; intro wz S)
      | ((with_reducible apply wps_boxa S); (case hx => rfl); clear S; intro bz wz S)
      | ((with_reducible apply wps_box1 (v := .int _ _) S); (case hx => rfl); (case h1 => rfl); clear S; intro bz wz S)
      | ((with_reducible apply wps_box1 (v := .bool _) S); (case hx => rfl); (case h1 => rfl); clear S; intro bz wz S)
      | ((with_reducible apply wps_box1 (v := .slice _ _ _) S); (case hx => rfl); (case h1 => rfl); clear S; intro bz wz S)
      | ((with_reducible apply wps_box1 (v := .pointer _) S); (case hx => rfl); (case h1 => rfl); clear S; intro bz wz S)
      | ((with_reducible apply wps_box1 (v := .map _) S); (case hx => rfl); (case h1 => rfl); clear S; intro bz wz S)
      | ((with_reducible apply wps_box1 (v := .string _) S); (case hx => rfl); (case h1 => rfl); clear S; intro bz wz S)
      | ((with_reducible apply wps_box1 (v := .func _ _ _) S); (case hx => rfl); (case h1 => rfl); clear S; intro bz wz S)
      | ((with_reducible apply wps_alloca (E := 28) S); (case hz => exact Try.zeroValue28); clear S; intro bz wz S)
      | ((with_reducible apply wps_alloca (E := 57) S); (case hz => exact Try.zeroValue57); clear S; intro bz wz S)
      | ((with_reducible apply wps_load S 0); (case hx => rfl); (case hi => rfl); (case hT => decide +kernel); (case hu => rfl))
      | ((with_reducible apply wps_loada (T := 28) (k := 4) S 0); (case hx => rfl); (case hi => rfl); (case hT => decide +kernel); (case hk => exact Nat.le_of_ble_eq_true rfl))
      | ((with_reducible apply wps_loada (T := 57) (k := 5) S 0); (case hx => rfl); (case hi => rfl); (case hT => decide +kernel); (case hk => exact Nat.le_of_ble_eq_true rfl))
      | ((with_reducible apply wps_load S 1); (case hx => rfl); (case hi => rfl); (case hT => decide +kernel); (case hu => rfl))
      | ((with_reducible apply wps_loada (T := 28) (k := 4) S 1); (case hx => rfl); (case hi => rfl); (case hT => decide +kernel); (case hk => exact Nat.le_of_ble_eq_true rfl))
      | ((with_reducible apply wps_loada (T := 57) (k := 5) S 1); (case hx => rfl); (case hi => rfl); (case hT => decide +kernel); (case hk => exact Nat.le_of_ble_eq_true rfl))
      | ((with_reducible apply wps_load S 2); (case hx => rfl); (case hi => rfl); (case hT => decide +kernel); (case hu => rfl))
      | ((with_reducible apply wps_loada (T := 28) (k := 4) S 2); (case hx => rfl); (case hi => rfl); (case hT => decide +kernel); (case hk => exact Nat.le_of_ble_eq_true rfl))
      | ((with_reducible apply wps_loada (T := 57) (k := 5) S 2); (case hx => rfl); (case hi => rfl); (case hT => decide +kernel); (case hk => exact Nat.le_of_ble_eq_true rfl))
      | ((with_reducible apply wps_load S 3); (case hx => rfl); (case hi => rfl); (case hT => decide +kernel); (case hu => rfl))
      | ((with_reducible apply wps_loada (T := 28) (k := 4) S 3); (case hx => rfl); (case hi => rfl); (case hT => decide +kernel); (case hk => exact Nat.le_of_ble_eq_true rfl))
      | ((with_reducible apply wps_loada (T := 57) (k := 5) S 3); (case hx => rfl); (case hi => rfl); (case hT => decide +kernel); (case hk => exact Nat.le_of_ble_eq_true rfl))
    replace S := S.pick [2, 0, 1] rfl
    simp only [pick, nth] at S
    obtain ⟨v0, S⟩ := S.open_exs (fun _ => rfl)
    replace S := S.open_sep rfl rfl
    obtain ⟨ad, cp, rfl, _⟩ := (S.sl 1 rfl).elim fun _ h => h.form
    obtain ⟨R, oo, rfl⟩ : ∃ R o, ad = some ⟨R, o, none⟩ := (S.sl 1 rfl).elim fun F h => h.head (by omega)
    go_wp2_with first
      | go_skip
      | ((with_reducible refine wpList_skip ?hw ?_); (case hw => with_unfolding_all rfl); simp only [Act.put, List.setIfInBounds_toArray, List.set_cons_succ, List.set_cons_zero])
      | ((with_reducible apply wps_loada_el S 1 (hj := Hx.out) (q := 0) (vs := [.int .i64 r.key.at_, .int .i64 r.key.src, .int .i64 r.key.sent, .int .i64 r.key.no, .int .i64 r.v]) (m := 5)); (case hx => rfl); (case hT => decide +kernel); (case hi => rfl); (case hn => omega); (case hm => rfl); (case hv => rfl))
      | ((with_reducible apply wps_loada_el S 1 (hj := Hx.out) (q := 0) (vs := [.int .i64 r.key.at_, .int .i64 r.key.src, .int .i64 r.key.sent, .int .i64 r.key.no]) (m := 4)); (case hx => rfl); (case hT => decide +kernel); (case hi => rfl); (case hn => omega); (case hm => rfl); (case hv => rfl))
      | ((with_reducible apply wps_load_el S 1 (hj := Hx.out) (q := 4) (u := .int .i64 r.v)); (case hx => rfl); (case hi => rfl); (case hn => omega); (case hT => decide +kernel); (case hu => rfl))
      | ((with_reducible refine tot_done ?ht ?_); (case ht => kernel_rfl))
      | ((with_reducible apply wps_text S); (case hm => kernel_rfl); (case hB => decide +kernel); clear S; intro wz S)
      | ((with_reducible apply wps_alloca (E := 28) S); (case hz => exact Try.zeroValue28); clear S; intro bz wz S)
      | ((with_reducible apply wps_alloca (E := 57) S); (case hz => exact Try.zeroValue57); clear S; intro bz wz S)
      | ((with_reducible apply wps_load S 0); (case hx => rfl); (case hi => rfl); (case hT => decide +kernel); (case hu => rfl))
      | ((with_reducible apply wps_loada (T := 28) (k := 4) S 0); (case hx => rfl); (case hi => rfl); (case hT => decide +kernel); (case hk => exact Nat.le_of_ble_eq_true rfl))
      | ((with_reducible apply wps_loada (T := 57) (k := 5) S 0); (case hx => rfl); (case hi => rfl); (case hT => decide +kernel); (case hk => exact Nat.le_of_ble_eq_true rfl))
      | ((with_reducible apply wps_load S 1); (case hx => rfl); (case hi => rfl); (case hT => decide +kernel); (case hu => rfl))
      | ((with_reducible apply wps_loada (T := 28) (k := 4) S 1); (case hx => rfl); (case hi => rfl); (case hT => decide +kernel); (case hk => exact Nat.le_of_ble_eq_true rfl))
      | ((with_reducible apply wps_loada (T := 57) (k := 5) S 1); (case hx => rfl); (case hi => rfl); (case hT => decide +kernel); (case hk => exact Nat.le_of_ble_eq_true rfl))
      | ((with_reducible apply wps_load S 2); (case hx => rfl); (case hi => rfl); (case hT => decide +kernel); (case hu => rfl))
      | ((with_reducible apply wps_loada (T := 28) (k := 4) S 2); (case hx => rfl); (case hi => rfl); (case hT => decide +kernel); (case hk => exact Nat.le_of_ble_eq_true rfl))
      | ((with_reducible apply wps_loada (T := 57) (k := 5) S 2); (case hx => rfl); (case hi => rfl); (case hT => decide +kernel); (case hk => exact Nat.le_of_ble_eq_true rfl))
      | ((with_reducible apply wps_load S 3); (case hx => rfl); (case hi => rfl); (case hT => decide +kernel); (case hu => rfl))
      | ((with_reducible apply wps_loada (T := 28) (k := 4) S 3); (case hx => rfl); (case hi => rfl); (case hT => decide +kernel); (case hk => exact Nat.le_of_ble_eq_true rfl))
      | ((with_reducible apply wps_loada (T := 57) (k := 5) S 3); (case hx => rfl); (case hi => rfl); (case hT => decide +kernel); (case hk => exact Nat.le_of_ble_eq_true rfl))
    go_ret
    refine ⟨rfl, ?_⟩
    exact ((S.close_sep rfl rfl).close_exs (A := fun v => sep false (Blk false B2 #[v] 42) (Sl false Row.cells 5 v s)) _ rfl).pick [2, 0] rfl
  · have hfv := fv_none hk
    have hat := rAt_neg hk
    have e1 : ((fv s o.k).1 == 0) = true := by rw [hfv]; rfl
    have e2 : ((fv s o.k).2 == 14) = true := by rw [hfv]; rfl
    have HAT := Lib.hid (show rAt s ⟨o.k.at_, o.k.src, o.k.sent, o.k.no⟩ = -1 from hat)
    clear hfv hat hk ha HST
    have hs1 : s.length ≤ 4294967296 := by omega
    have Hs := Lib.hid hs
    clear hs
    go_enter Try.func18, Try.ntmps18
    go_wp2_with first
      | go_skip
      | ((with_reducible refine wpList_skip ?hw ?_); (case hw => with_unfolding_all rfl); simp only [Act.put, List.setIfInBounds_toArray, List.set_cons_succ, List.set_cons_zero])
      | (go_at_call 41; refine Calls.mono (at_calls _ _ _ _ _ _ _ _ (S.get (i := 2) rfl).choose_spec (by omega)) ?_; rintro e wz ⟨rfl, hE⟩; rw [HAT.out]; replace S := S.ext (Keep.of_below hE); clear hE)
      | (go_at_call 19; refine Calls.mono (hget_fv _ _ o.k _ _ (S.get (i := 1) rfl).choose_spec) ?_; rintro e wz ⟨rfl, hE⟩; replace S := S.ext (Keep.of_below hE); clear hE)
      | ((with_reducible refine tot_done ?ht ?_); (case ht => kernel_rfl))
      | ((with_reducible apply wps_text S); (case hm => kernel_rfl); (case hB => decide +kernel); clear S; intro wz S)
      | ((with_reducible apply wps_boxa S); (case hx => rfl); clear S; intro bz wz S)
      | ((with_reducible apply wps_box1 (v := .int _ _) S); (case hx => rfl); (case h1 => rfl); clear S; intro bz wz S)
      | ((with_reducible apply wps_box1 (v := .bool _) S); (case hx => rfl); (case h1 => rfl); clear S; intro bz wz S)
      | ((with_reducible apply wps_box1 (v := .slice _ _ _) S); (case hx => rfl); (case h1 => rfl); clear S; intro bz wz S)
      | ((with_reducible apply wps_box1 (v := .pointer _) S); (case hx => rfl); (case h1 => rfl); clear S; intro bz wz S)
      | ((with_reducible apply wps_box1 (v := .map _) S); (case hx => rfl); (case h1 => rfl); clear S; intro bz wz S)
      | ((with_reducible apply wps_box1 (v := .string _) S); (case hx => rfl); (case h1 => rfl); clear S; intro bz wz S)
      | ((with_reducible apply wps_box1 (v := .func _ _ _) S); (case hx => rfl); (case h1 => rfl); clear S; intro bz wz S)
      | ((with_reducible apply wps_alloca (E := 28) S); (case hz => exact Try.zeroValue28); clear S; intro bz wz S)
      | ((with_reducible apply wps_alloca (E := 57) S); (case hz => exact Try.zeroValue57); clear S; intro bz wz S)
      | ((with_reducible apply wps_load S 0); (case hx => rfl); (case hi => rfl); (case hT => decide +kernel); (case hu => rfl))
      | ((with_reducible apply wps_loada (T := 28) (k := 4) S 0); (case hx => rfl); (case hi => rfl); (case hT => decide +kernel); (case hk => exact Nat.le_of_ble_eq_true rfl))
      | ((with_reducible apply wps_loada (T := 57) (k := 5) S 0); (case hx => rfl); (case hi => rfl); (case hT => decide +kernel); (case hk => exact Nat.le_of_ble_eq_true rfl))
      | ((with_reducible apply wps_load S 1); (case hx => rfl); (case hi => rfl); (case hT => decide +kernel); (case hu => rfl))
      | ((with_reducible apply wps_loada (T := 28) (k := 4) S 1); (case hx => rfl); (case hi => rfl); (case hT => decide +kernel); (case hk => exact Nat.le_of_ble_eq_true rfl))
      | ((with_reducible apply wps_loada (T := 57) (k := 5) S 1); (case hx => rfl); (case hi => rfl); (case hT => decide +kernel); (case hk => exact Nat.le_of_ble_eq_true rfl))
      | ((with_reducible apply wps_load S 2); (case hx => rfl); (case hi => rfl); (case hT => decide +kernel); (case hu => rfl))
      | ((with_reducible apply wps_loada (T := 28) (k := 4) S 2); (case hx => rfl); (case hi => rfl); (case hT => decide +kernel); (case hk => exact Nat.le_of_ble_eq_true rfl))
      | ((with_reducible apply wps_loada (T := 57) (k := 5) S 2); (case hx => rfl); (case hi => rfl); (case hT => decide +kernel); (case hk => exact Nat.le_of_ble_eq_true rfl))
      | ((with_reducible apply wps_load S 3); (case hx => rfl); (case hi => rfl); (case hT => decide +kernel); (case hu => rfl))
      | ((with_reducible apply wps_loada (T := 28) (k := 4) S 3); (case hx => rfl); (case hi => rfl); (case hT => decide +kernel); (case hk => exact Nat.le_of_ble_eq_true rfl))
      | ((with_reducible apply wps_loada (T := 57) (k := 5) S 3); (case hx => rfl); (case hi => rfl); (case hT => decide +kernel); (case hk => exact Nat.le_of_ble_eq_true rfl))
    go_ret
    exact ⟨rfl, S.pick [1, 2] rfl⟩
theorem ints_same (v1 v2 : Value) (xs : List Int) (w : World) (F1 F2 : Nat → Prop) (h1 : (Sl true tE 1 v1 xs).at_ w F1) (h2 : (Sl true tE 1 v2 xs).at_ w F2) (hn : xs.length ≤ 65536) :
    Calls Try.prog 40 #[v1, v2] w fun r w' => r = .returned (.bool true) ∧ Below w.heap.size w w' := by
  refine (ints_calls v1 v2 xs xs w F1 F2 h1 h2 hn hn).mono fun e w' h => ⟨h.1.trans (by simp), h.2⟩
theorem hbatch_two (B : Nat) (r : Row) (l : List Row) (w : World) (F : Nat → Prop) (h : (heapA B (r :: l)).at_ w F) (hs : HSorted (r :: l)) (hmax : (r :: l).length ≤ 4294967296) :
    Calls Try.prog 28 #[.pointer (some ⟨B, 0, none⟩)] w fun e w' => ∃ v, e = .returned (.tuple #[.int .i64 r.key.at_, v, .int .i64 0]) ∧ St F w w' [heapA B ((r :: l).dropWhile (same_at r.key.at_)), Mem.Own 3 tE 1 v (((r :: l).takeWhile (same_at r.key.at_)).map (·.v))] := hbatch_some B r l w F h hs hmax
theorem rbatch_two (B : Nat) (r : Row) (l : List Row) (w : World) (F : Nat → Prop) (h : (refH false B (r :: l)).at_ w F) (hn : (r :: l).length ≤ 65536) :
    Calls Try.prog 43 #[.pointer (some ⟨B, 0, none⟩)] w fun e w' => ∃ v, e = .returned (.tuple #[.int .i64 r.key.at_, v, .int .i64 0]) ∧ St F w w' [Mem.Own 3 tE 1 v (((r :: l).takeWhile (same_at r.key.at_)).map (·.v)), refH false B ((r :: l).dropWhile (same_at r.key.at_))] := rbatch_some B r l w F h hn
set_option maxRecDepth 100000 in
set_option maxHeartbeats 4000000 in
theorem does4_calls (B B2 : Nat) (s : List Row) (o : Op3) (w : World) (F : Nat → Prop) (S : St F w w [heapA B s, refH false B2 s]) (hs : HSorted s) (hn : s.length ≤ 65535) (ha : o.ask = 4) :
    Calls Try.prog 18 #[.pointer (some ⟨B, 0, none⟩), .pointer (some ⟨B2, 0, none⟩), .agg #[.int .i64 o.ask, .int .i64 o.k.at_, .int .i64 o.k.src, .int .i64 o.k.sent, .int .i64 o.k.no, .int .i64 o.v]] w (DoesPost F B B2 (stepE s o) w) := by
  have hq : (o.ask == 0) = false := by simp [ha]
  have hq1 : (o.ask == 1) = false := by simp [ha]
  have hq2 : (o.ask == 2) = false := by simp [ha]
  have hq4 : (o.ask == 4) = true := by simp [ha]
  have hst : ∀ s : List Row, stepE s o = (match s with | [] => [] | r :: l => (r :: l).dropWhile (same_at r.key.at_)) := fun s => by unfold stepE; rw [if_neg (by omega), if_neg (by omega), if_neg (by omega), if_pos ha]; cases s <;> rfl
  cases s with
  | nil =>
    rw [show stepE [] o = [] from hst _]
    clear hst
    replace S := (S.nil 3 tE 1).pick [1, 2, 0] rfl
    simp only [pick, nth] at S
    clear ha
    have hs1 := Nat.le_trans hn (show 65535 ≤ 4294967296 by decide)
    have Hs := Lib.hid hs
    clear hs
    go_enter Try.func18, Try.ntmps18
    go_wp2_with first
      | go_skip
      | ((with_reducible refine wpList_skip ?hw ?_); (case hw => with_unfolding_all rfl); simp only [Act.put, List.setIfInBounds_toArray, List.set_cons_succ, List.set_cons_zero])
      | (go_at_call 41; refine Calls.mono (at_calls _ _ _ _ _ _ _ _ (S.get (i := 2) rfl).choose_spec (by omega)) ?_; rintro e wz ⟨rfl, hE⟩; replace S := S.ext (Keep.of_below hE); clear hE)
      | ((with_reducible refine tot_done ?ht ?_); (case ht => kernel_rfl))
      | ((with_reducible apply wps_text S); (case hm => kernel_rfl); (case hB => decide +kernel); clear S; intro wz S)
      | ((with_reducible apply wps_boxa S); (case hx => rfl); clear S; intro bz wz S)
      | ((with_reducible apply wps_box1 (v := .int _ _) S); (case hx => rfl); (case h1 => rfl); clear S; intro bz wz S)
      | ((with_reducible apply wps_box1 (v := .bool _) S); (case hx => rfl); (case h1 => rfl); clear S; intro bz wz S)
      | ((with_reducible apply wps_box1 (v := .slice _ _ _) S); (case hx => rfl); (case h1 => rfl); clear S; intro bz wz S)
      | ((with_reducible apply wps_box1 (v := .pointer _) S); (case hx => rfl); (case h1 => rfl); clear S; intro bz wz S)
      | ((with_reducible apply wps_box1 (v := .map _) S); (case hx => rfl); (case h1 => rfl); clear S; intro bz wz S)
      | ((with_reducible apply wps_box1 (v := .string _) S); (case hx => rfl); (case h1 => rfl); clear S; intro bz wz S)
      | ((with_reducible apply wps_box1 (v := .func _ _ _) S); (case hx => rfl); (case h1 => rfl); clear S; intro bz wz S)
      | ((with_reducible apply wps_alloca (E := 28) S); (case hz => exact Try.zeroValue28); clear S; intro bz wz S)
      | ((with_reducible apply wps_alloca (E := 57) S); (case hz => exact Try.zeroValue57); clear S; intro bz wz S)
      | ((with_reducible apply wps_load S 0); (case hx => rfl); (case hi => rfl); (case hT => decide +kernel); (case hu => rfl))
      | ((with_reducible apply wps_loada (T := 28) (k := 4) S 0); (case hx => rfl); (case hi => rfl); (case hT => decide +kernel); (case hk => exact Nat.le_of_ble_eq_true rfl))
      | ((with_reducible apply wps_loada (T := 57) (k := 5) S 0); (case hx => rfl); (case hi => rfl); (case hT => decide +kernel); (case hk => exact Nat.le_of_ble_eq_true rfl))
      | ((with_reducible apply wps_load S 1); (case hx => rfl); (case hi => rfl); (case hT => decide +kernel); (case hu => rfl))
      | ((with_reducible apply wps_loada (T := 28) (k := 4) S 1); (case hx => rfl); (case hi => rfl); (case hT => decide +kernel); (case hk => exact Nat.le_of_ble_eq_true rfl))
      | ((with_reducible apply wps_loada (T := 57) (k := 5) S 1); (case hx => rfl); (case hi => rfl); (case hT => decide +kernel); (case hk => exact Nat.le_of_ble_eq_true rfl))
      | ((with_reducible apply wps_load S 2); (case hx => rfl); (case hi => rfl); (case hT => decide +kernel); (case hu => rfl))
      | ((with_reducible apply wps_loada (T := 28) (k := 4) S 2); (case hx => rfl); (case hi => rfl); (case hT => decide +kernel); (case hk => exact Nat.le_of_ble_eq_true rfl))
      | ((with_reducible apply wps_loada (T := 57) (k := 5) S 2); (case hx => rfl); (case hi => rfl); (case hT => decide +kernel); (case hk => exact Nat.le_of_ble_eq_true rfl))
      | ((with_reducible apply wps_load S 3); (case hx => rfl); (case hi => rfl); (case hT => decide +kernel); (case hu => rfl))
      | ((with_reducible apply wps_loada (T := 28) (k := 4) S 3); (case hx => rfl); (case hi => rfl); (case hT => decide +kernel); (case hk => exact Nat.le_of_ble_eq_true rfl))
      | ((with_reducible apply wps_loada (T := 57) (k := 5) S 3); (case hx => rfl); (case hi => rfl); (case hT => decide +kernel); (case hk => exact Nat.le_of_ble_eq_true rfl))
    go_wp2_with first
      | go_skip
      | ((with_reducible refine wpList_skip ?hw ?_); (case hw => with_unfolding_all rfl); simp only [Act.put, List.setIfInBounds_toArray, List.set_cons_succ, List.set_cons_zero])
      | (go_at_call 28; obtain ⟨Fz, hF, hBk⟩ := S.lend1 1 rfl rfl; refine Calls.mono (hbatch_none _ _ _ hF) ?_; rintro e wz ⟨rfl, T⟩; replace S := hBk _ _ rfl T; clear hBk hF T; simp only [List.set_cons_succ, List.set_cons_zero] at S)
      | (go_at_call 43; refine Calls.mono (rbatch_none _ _ _ (S.get (i := 2) rfl).choose_spec) ?_; rintro e wz ⟨rfl, hE⟩; replace S := S.ext (Keep.of_below hE); clear hE)
      | (go_at_call 40; refine Calls.mono (ints_same _ _ [] _ _ _ (own_sl (sh := true) tElen (S.get (i := 3) rfl).choose_spec) (own_sl (sh := true) tElen (S.get (i := 3) rfl).choose_spec) (Nat.zero_le _)) ?_; rintro e wz ⟨rfl, hE⟩; replace S := S.ext (Keep.of_below hE); clear hE)
      | ((with_reducible refine tot_done ?ht ?_); (case ht => kernel_rfl))
      | ((with_reducible apply wps_text S); (case hm => kernel_rfl); (case hB => decide +kernel); clear S; intro wz S)
      | ((with_reducible apply wps_alloca (E := 28) S); (case hz => exact Try.zeroValue28); clear S; intro bz wz S)
      | ((with_reducible apply wps_alloca (E := 57) S); (case hz => exact Try.zeroValue57); clear S; intro bz wz S)
      | ((with_reducible apply wps_load S 0); (case hx => rfl); (case hi => rfl); (case hT => decide +kernel); (case hu => rfl))
      | ((with_reducible apply wps_loada (T := 28) (k := 4) S 0); (case hx => rfl); (case hi => rfl); (case hT => decide +kernel); (case hk => exact Nat.le_of_ble_eq_true rfl))
      | ((with_reducible apply wps_loada (T := 57) (k := 5) S 0); (case hx => rfl); (case hi => rfl); (case hT => decide +kernel); (case hk => exact Nat.le_of_ble_eq_true rfl))
      | ((with_reducible apply wps_load S 1); (case hx => rfl); (case hi => rfl); (case hT => decide +kernel); (case hu => rfl))
      | ((with_reducible apply wps_loada (T := 28) (k := 4) S 1); (case hx => rfl); (case hi => rfl); (case hT => decide +kernel); (case hk => exact Nat.le_of_ble_eq_true rfl))
      | ((with_reducible apply wps_loada (T := 57) (k := 5) S 1); (case hx => rfl); (case hi => rfl); (case hT => decide +kernel); (case hk => exact Nat.le_of_ble_eq_true rfl))
      | ((with_reducible apply wps_load S 2); (case hx => rfl); (case hi => rfl); (case hT => decide +kernel); (case hu => rfl))
      | ((with_reducible apply wps_loada (T := 28) (k := 4) S 2); (case hx => rfl); (case hi => rfl); (case hT => decide +kernel); (case hk => exact Nat.le_of_ble_eq_true rfl))
      | ((with_reducible apply wps_loada (T := 57) (k := 5) S 2); (case hx => rfl); (case hi => rfl); (case hT => decide +kernel); (case hk => exact Nat.le_of_ble_eq_true rfl))
      | ((with_reducible apply wps_load S 3); (case hx => rfl); (case hi => rfl); (case hT => decide +kernel); (case hu => rfl))
      | ((with_reducible apply wps_loada (T := 28) (k := 4) S 3); (case hx => rfl); (case hi => rfl); (case hT => decide +kernel); (case hk => exact Nat.le_of_ble_eq_true rfl))
      | ((with_reducible apply wps_loada (T := 57) (k := 5) S 3); (case hx => rfl); (case hi => rfl); (case hT => decide +kernel); (case hk => exact Nat.le_of_ble_eq_true rfl))
    go_ret
    exact ⟨rfl, S.pick [1, 2] rfl⟩
  | cons r l =>
    rw [show stepE (r :: l) o = (r :: l).dropWhile (same_at r.key.at_) from hst _]
    clear hst
    have e1 : (r.key.at_ == r.key.at_) = true := by simp
    have hlt : (((r :: l).takeWhile (same_at r.key.at_)).map (·.v)).length ≤ 65536 := by
      have := (List.takeWhile_sublist (same_at r.key.at_) (l := r :: l)).length_le
      rw [List.length_map]; omega
    have hsl : (r :: l).length ≤ 65536 := by omega
    have HLT := Lib.hid hlt
    have HSL := Lib.hid hsl
    clear hlt hsl
    clear ha
    have hs1 := Nat.le_trans hn (show 65535 ≤ 4294967296 by decide)
    have Hs := Lib.hid hs
    clear hs
    go_enter Try.func18, Try.ntmps18
    go_wp2_with first
      | go_skip
      | ((with_reducible refine wpList_skip ?hw ?_); (case hw => with_unfolding_all rfl); simp only [Act.put, List.setIfInBounds_toArray, List.set_cons_succ, List.set_cons_zero])
      | (go_at_call 41; refine Calls.mono (at_calls _ _ _ _ _ _ _ _ (S.get (i := 2) rfl).choose_spec (by omega)) ?_; rintro e wz ⟨rfl, hE⟩; replace S := S.ext (Keep.of_below hE); clear hE)
      | ((with_reducible refine tot_done ?ht ?_); (case ht => kernel_rfl))
      | ((with_reducible apply wps_text S); (case hm => kernel_rfl); (case hB => decide +kernel); clear S; intro wz S)
      | ((with_reducible apply wps_boxa S); (case hx => rfl); clear S; intro bz wz S)
      | ((with_reducible apply wps_box1 (v := .int _ _) S); (case hx => rfl); (case h1 => rfl); clear S; intro bz wz S)
      | ((with_reducible apply wps_box1 (v := .bool _) S); (case hx => rfl); (case h1 => rfl); clear S; intro bz wz S)
      | ((with_reducible apply wps_box1 (v := .slice _ _ _) S); (case hx => rfl); (case h1 => rfl); clear S; intro bz wz S)
      | ((with_reducible apply wps_box1 (v := .pointer _) S); (case hx => rfl); (case h1 => rfl); clear S; intro bz wz S)
      | ((with_reducible apply wps_box1 (v := .map _) S); (case hx => rfl); (case h1 => rfl); clear S; intro bz wz S)
      | ((with_reducible apply wps_box1 (v := .string _) S); (case hx => rfl); (case h1 => rfl); clear S; intro bz wz S)
      | ((with_reducible apply wps_box1 (v := .func _ _ _) S); (case hx => rfl); (case h1 => rfl); clear S; intro bz wz S)
      | ((with_reducible apply wps_alloca (E := 28) S); (case hz => exact Try.zeroValue28); clear S; intro bz wz S)
      | ((with_reducible apply wps_alloca (E := 57) S); (case hz => exact Try.zeroValue57); clear S; intro bz wz S)
      | ((with_reducible apply wps_load S 0); (case hx => rfl); (case hi => rfl); (case hT => decide +kernel); (case hu => rfl))
      | ((with_reducible apply wps_loada (T := 28) (k := 4) S 0); (case hx => rfl); (case hi => rfl); (case hT => decide +kernel); (case hk => exact Nat.le_of_ble_eq_true rfl))
      | ((with_reducible apply wps_loada (T := 57) (k := 5) S 0); (case hx => rfl); (case hi => rfl); (case hT => decide +kernel); (case hk => exact Nat.le_of_ble_eq_true rfl))
      | ((with_reducible apply wps_load S 1); (case hx => rfl); (case hi => rfl); (case hT => decide +kernel); (case hu => rfl))
      | ((with_reducible apply wps_loada (T := 28) (k := 4) S 1); (case hx => rfl); (case hi => rfl); (case hT => decide +kernel); (case hk => exact Nat.le_of_ble_eq_true rfl))
      | ((with_reducible apply wps_loada (T := 57) (k := 5) S 1); (case hx => rfl); (case hi => rfl); (case hT => decide +kernel); (case hk => exact Nat.le_of_ble_eq_true rfl))
      | ((with_reducible apply wps_load S 2); (case hx => rfl); (case hi => rfl); (case hT => decide +kernel); (case hu => rfl))
      | ((with_reducible apply wps_loada (T := 28) (k := 4) S 2); (case hx => rfl); (case hi => rfl); (case hT => decide +kernel); (case hk => exact Nat.le_of_ble_eq_true rfl))
      | ((with_reducible apply wps_loada (T := 57) (k := 5) S 2); (case hx => rfl); (case hi => rfl); (case hT => decide +kernel); (case hk => exact Nat.le_of_ble_eq_true rfl))
      | ((with_reducible apply wps_load S 3); (case hx => rfl); (case hi => rfl); (case hT => decide +kernel); (case hu => rfl))
      | ((with_reducible apply wps_loada (T := 28) (k := 4) S 3); (case hx => rfl); (case hi => rfl); (case hT => decide +kernel); (case hk => exact Nat.le_of_ble_eq_true rfl))
      | ((with_reducible apply wps_loada (T := 57) (k := 5) S 3); (case hx => rfl); (case hi => rfl); (case hT => decide +kernel); (case hk => exact Nat.le_of_ble_eq_true rfl))
    go_wp2_with first
      | go_skip
      | ((with_reducible refine wpList_skip ?hw ?_); (case hw => with_unfolding_all rfl); simp only [Act.put, List.setIfInBounds_toArray, List.set_cons_succ, List.set_cons_zero])
      | (go_at_call 28; replace S := S.pick [1, 0, 2] rfl; simp only [pick, nth] at S; obtain ⟨Fz, hF, hBk⟩ := S.lend1 0 rfl rfl; refine Calls.mono (hbatch_two _ _ _ _ _ hF Hs.out hs1) ?_; rintro e wz ⟨v1, rfl, T⟩; replace S := hBk _ _ rfl (T.close_sep rfl rfl); clear hBk hF T; simp only [List.set_cons_zero] at S; replace S := S.open_sep rfl rfl)
      | (go_at_call 43; replace S := S.pick [3, 0, 1, 2] rfl; simp only [pick, nth] at S; obtain ⟨Fz, hF, hBk⟩ := S.lend1 0 rfl rfl; refine Calls.mono (rbatch_two _ _ _ _ _ hF HSL.out) ?_; rintro e wz ⟨v2, rfl, T⟩; replace S := hBk _ _ rfl (T.close_sep rfl rfl); clear hBk hF T; simp only [List.set_cons_zero] at S; replace S := S.open_sep rfl rfl)
      | (go_at_call 40; refine Calls.mono (ints_same _ _ _ _ _ _ (own_sl (sh := true) tElen (S.get (i := 3) rfl).choose_spec) (own_sl (sh := true) tElen (S.get (i := 0) rfl).choose_spec) HLT.out) ?_; rintro e wz ⟨rfl, hE⟩; replace S := S.ext (Keep.of_below hE); clear hE)
      | ((with_reducible refine tot_done ?ht ?_); (case ht => kernel_rfl))
      | ((with_reducible apply wps_text S); (case hm => kernel_rfl); (case hB => decide +kernel); clear S; intro wz S)
      | ((with_reducible apply wps_alloca (E := 28) S); (case hz => exact Try.zeroValue28); clear S; intro bz wz S)
      | ((with_reducible apply wps_alloca (E := 57) S); (case hz => exact Try.zeroValue57); clear S; intro bz wz S)
      | ((with_reducible apply wps_load S 0); (case hx => rfl); (case hi => rfl); (case hT => decide +kernel); (case hu => rfl))
      | ((with_reducible apply wps_loada (T := 28) (k := 4) S 0); (case hx => rfl); (case hi => rfl); (case hT => decide +kernel); (case hk => exact Nat.le_of_ble_eq_true rfl))
      | ((with_reducible apply wps_loada (T := 57) (k := 5) S 0); (case hx => rfl); (case hi => rfl); (case hT => decide +kernel); (case hk => exact Nat.le_of_ble_eq_true rfl))
      | ((with_reducible apply wps_load S 1); (case hx => rfl); (case hi => rfl); (case hT => decide +kernel); (case hu => rfl))
      | ((with_reducible apply wps_loada (T := 28) (k := 4) S 1); (case hx => rfl); (case hi => rfl); (case hT => decide +kernel); (case hk => exact Nat.le_of_ble_eq_true rfl))
      | ((with_reducible apply wps_loada (T := 57) (k := 5) S 1); (case hx => rfl); (case hi => rfl); (case hT => decide +kernel); (case hk => exact Nat.le_of_ble_eq_true rfl))
      | ((with_reducible apply wps_load S 2); (case hx => rfl); (case hi => rfl); (case hT => decide +kernel); (case hu => rfl))
      | ((with_reducible apply wps_loada (T := 28) (k := 4) S 2); (case hx => rfl); (case hi => rfl); (case hT => decide +kernel); (case hk => exact Nat.le_of_ble_eq_true rfl))
      | ((with_reducible apply wps_loada (T := 57) (k := 5) S 2); (case hx => rfl); (case hi => rfl); (case hT => decide +kernel); (case hk => exact Nat.le_of_ble_eq_true rfl))
      | ((with_reducible apply wps_load S 3); (case hx => rfl); (case hi => rfl); (case hT => decide +kernel); (case hu => rfl))
      | ((with_reducible apply wps_loada (T := 28) (k := 4) S 3); (case hx => rfl); (case hi => rfl); (case hT => decide +kernel); (case hk => exact Nat.le_of_ble_eq_true rfl))
      | ((with_reducible apply wps_loada (T := 57) (k := 5) S 3); (case hx => rfl); (case hi => rfl); (case hT => decide +kernel); (case hk => exact Nat.le_of_ble_eq_true rfl))
    go_ret
    exact ⟨rfl, S.pick [2, 1] rfl⟩
end Go.Proofs.Ytcbdacmdmaoegaa
