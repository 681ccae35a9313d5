import Derived.Test.YtcbdacmdmaoegaaH6
/- The walk of the law IheapTimes. -/
namespace Go.Proofs.Ytcbdacmdmaoegaa
open Go Go.RowKit Reg Mem

/-- The keys, pushed with their numbers. -/
def afterK (l : List Key) : Nat → List Row
  | 0 => []
  | j + 1 => match l[j]? with
    | some k => pushed (afterK l j) ⟨k, (j : Int)⟩
    | none => afterK l j
theorem afterK_step {l : List Key} {j : Nat} {k : Key} (h : l[j]? = some k) : afterK l (j + 1) = pushed (afterK l j) ⟨k, (j : Int)⟩ := by simp [afterK, h]
theorem afterK_sorted (l : List Key) : ∀ j, HSorted (afterK l j)
  | 0 => List.Pairwise.nil
  | j + 1 => by
    unfold afterK
    cases l[j]? with
    | none => exact afterK_sorted l j
    | some k => exact pushed_sorted (afterK_sorted l j) _
theorem afterK_len (l : List Key) : ∀ j, (afterK l j).length ≤ j
  | 0 => Nat.le_refl _
  | j + 1 => by
    have ih := afterK_len l j
    unfold afterK
    cases l[j]? with
    | none => exact Nat.le_succ_of_le ih
    | some k => exact Nat.le_trans (pushed_length _ _) (by omega)
theorem pushed_mem {s : List Row} {r x : Row} (h : x ∈ pushed s r) : x = r ∨ x ∈ s := by
  unfold pushed at h
  split at h
  · exact .inr h
  · exact List.mem_cons.1 ((ins_perm r s).mem_iff.1 h)
theorem afterK_mem (l : List Key) : ∀ j, ∀ r ∈ afterK l j, ∃ i : Nat, r.v = i ∧ l[i]? = some r.key
  | 0, r, h => by simp [afterK] at h
  | j + 1, r, h => by
    unfold afterK at h
    cases hk : l[j]? with
    | none => rw [hk] at h; exact afterK_mem l j r h
    | some k =>
      rw [hk] at h
      rcases pushed_mem h with rfl | h
      · exact ⟨j, rfl, hk⟩
      · exact afterK_mem l j r h
theorem pushed_ne (s : List Row) (r : Row) : pushed s r ≠ [] := fun h => by
  unfold pushed at h
  split at h
  · rename_i hk; rw [h] at hk; simp at hk
  · have := ins_length r s; rw [h] at this; simp at this
theorem afterK_ne {l : List Key} (h : 0 < l.length) : afterK l l.length ≠ [] := by
  obtain ⟨n, hn⟩ : ∃ n, l.length = n + 1 := ⟨l.length - 1, by omega⟩
  rw [hn, afterK_step (k := l[n]) (List.getElem?_eq_getElem (by omega))]
  exact pushed_ne _ _
theorem push_head {r : Row} {t : List Row} (h : HSorted (r :: t)) : pushed t r = r :: t := by
  have h1 := List.pairwise_cons.1 h
  have hk : r.key ∉ t.map (·.key) := fun hm => by
    obtain ⟨x, hx, hxk⟩ := List.mem_map.1 hm
    exact Row.lt_ne (h1.1 x hx) hxk.symm
  rw [pushed, if_neg hk]
  cases t with
  | nil => rfl
  | cons a t => unfold ins; rw [if_pos (show r.key.lt a.key = true from h1.1 a (by simp))]
theorem tw_all {α : Type} (p : α → Bool) : ∀ (l : List α), ∀ x ∈ l.takeWhile p, p x = true
  | [], x, h => by simp at h
  | a :: l, x, h => by
    by_cases e : p a = true
    · rw [List.takeWhile_cons, if_pos e] at h
      rcases List.mem_cons.1 h with rfl | h
      · exact e
      · exact tw_all p l x h
    · rw [List.takeWhile_cons, if_neg e] at h; simp at h
theorem rest_later {r : Row} {s : List Row} (h : HSorted (r :: s)) : ∀ x ∈ (r :: s).dropWhile (same_at r.key.at_), r.key.at_ < x.key.at_ := by
  have key : ∀ (l : List Row), HSorted l → (∀ x ∈ l, r.key.at_ ≤ x.key.at_) → ∀ x ∈ l.dropWhile (same_at r.key.at_), r.key.at_ < x.key.at_ := by
    intro l
    induction l with
    | nil => intro _ _ x hx; simp at hx
    | cons a l ih =>
      intro hs hle x hx
      have h1 := List.pairwise_cons.1 hs
      by_cases e : same_at r.key.at_ a = true
      · rw [List.dropWhile_cons, if_pos e] at hx
        exact ih h1.2 (fun y hy => hle y (List.mem_cons_of_mem _ hy)) x hx
      · rw [List.dropWhile_cons, if_neg e] at hx
        have ha : r.key.at_ < a.key.at_ := by
          have := hle a (by simp)
          simp only [same_at, beq_iff_eq] at e
          omega
        rcases List.mem_cons.1 hx with rfl | hx
        · exact ha
        · have := h1.1 x hx
          unfold Row.lt at this
          rw [Key.lt_iff] at this
          omega
  refine key _ h fun x hx => ?_
  rcases List.mem_cons.1 hx with rfl | hx
  · exact Int.le_refl _
  · have := (List.pairwise_cons.1 h).1 x hx
    unfold Row.lt at this
    rw [Key.lt_iff] at this
    omega
theorem rpush_is (B : Nat) (s : List Row) (k : Key) (v : Int) (w : World) (F : Nat → Prop) (h : (refH false B s).at_ w F) (hn : s.length ≤ 65536) (hs : HSorted s) :
    Calls Try.prog 30 #[.pointer (some ⟨B, 0, none⟩), .agg #[.int .i64 k.at_, .int .i64 k.src, .int .i64 k.sent, .int .i64 k.no], .int .i64 v] w fun e w' => e = .returned (.int .i64 (PushAns s ⟨k, v⟩)) ∧ St F w w' [refH false B (pushed s ⟨k, v⟩)] := rpush_pu B s k v w F h hn hs
theorem hpush_head (B : Nat) (s : List Row) (r : Row) (w : World) (F : Nat → Prop) (h : (heapA B s).at_ w F) (hs : HSorted (r :: s)) (hmax : s.length < 4294967296) :
    Calls Try.prog 21 #[.pointer (some ⟨B, 0, none⟩), .agg #[.int .i64 r.key.at_, .int .i64 r.key.src, .int .i64 r.key.sent, .int .i64 r.key.no], .int .i64 r.v] w fun e w' => e = .returned (.int .i64 0) ∧ St F w w' [heapA B (r :: s)] := by
  have hk : r.key ∉ s.map (·.key) := fun hm => by
    obtain ⟨x, hx, hxk⟩ := List.mem_map.1 hm
    exact Row.lt_ne ((List.pairwise_cons.1 hs).1 x hx) hxk.symm
  have := hpush_calls B s r.key r.v w F h hmax
  rw [PushAns, if_neg hk, push_head hs] at this
  exact this
theorem hpush_num (B : Nat) (s : List Row) (r : Row) (k : Key) (n : Int) (w : World) (F : Nat → Prop) (h : (heapA B s).at_ w F) (hr : r = ⟨k, n⟩) (hs : HSorted (r :: s)) (hmax : s.length < 4294967296) :
    Calls Try.prog 21 #[.pointer (some ⟨B, 0, none⟩), .agg #[.int .i64 k.at_, .int .i64 k.src, .int .i64 k.sent, .int .i64 k.no], .int .i64 n] w fun e w' => e = .returned (.int .i64 0) ∧ St F w w' [heapA B (r :: s)] := by
  subst hr; exact hpush_head B s _ w F h hs hmax
def TmRel2 (D B B2 b2 b6 : Nat) (vt v : Value) (l : List Key) (tw rs : List Row) (t0 : Int) (w : World) (i : Value) (wr : World) : Prop :=
  ∃ j : Nat, j ≤ tw.length ∧ i = .int .i64 ((j : Int) - 1) ∧ St (fun _ => False) w wr [DefA D, heapA B (tw.drop j ++ rs), refH false B2 (tw ++ rs), Mem.Own 3 tE 1 vt (tw.map (·.v)), Sl true Key.cells 4 v l, Blk false b6 #[.int .i64 t0] 3, Blk false b2 #[.bool false] 4]
def TmRel (B B2 b2 : Nat) (v : Value) (l : List Key) (w : World) (i : Value) (wr : World) : Prop :=
  ∃ j : Nat, j ≤ l.length ∧ i = .int .i64 j ∧ St (fun _ => False) w wr [heapA B (afterK l j), refH false B2 (afterK l j), Sl true Key.cells 4 v l, Blk false b2 #[.bool false] 4]
theorem key_len : ∀ x : Key, x.cells.length = 4 := fun _ => rfl
set_option maxRecDepth 100000 in
set_option maxHeartbeats 16000000 in
theorem iheapTimes_calls (v : Value) (l : List Key) (w : World) (F : Nat → Prop) (h : (Sl true Key.cells 4 v l).at_ w F) : Calls Try.prog 9 #[v] w fun r w' => r = .returned (.bool true) ∧ Below w.heap.size w w' := by
  have S : St (fun _ => False) w w [Sl true Key.cells 4 v l] := (St.init _ w).share rfl rfl h
  obtain ⟨ad, cp, rfl, _⟩ := (S.sl 0 rfl).elim fun _ h => h.form
  clear h
  refine calls_marks Try.func9 rfl ?_
  simp only [Try.ntmps9, List.size_toArray, List.length_cons, List.length_nil, Nat.reduceAdd, Nat.reduceSub, Array.replicate_succ, Array.replicate_zero, List.push_toArray, List.append_toArray, List.nil_append, List.cons_append]
  try simp only [List.append_eq]
  try simp only [List.cons_append]
  try simp only [List.nil_append]
  by_cases hl : (40 : Int) < l.length
  · go_wp2_with first
      | go_skip
      | ((with_reducible refine wpList_skip ?hw ?_); (case hw => with_unfolding_all rfl); simp only [Act.put, List.setIfInBounds_toArray, List.set_cons_succ, List.set_cons_zero])
      | ((with_reducible apply wps_alloc1 (E := 4) S); (case hz => exact Try.zeroValue4); (case h1 => rfl); clear S; intro b2 wz S)
      | (go_at_call 15; refine Calls.mono (hnew_calls _) ?_; rintro e wz ⟨B, rfl, T⟩; replace S := S.join T rfl; clear T; simp only [List.cons_append, List.nil_append] at S)
      | (go_at_call 17; refine Calls.mono (awake3_calls _) ?_; rintro e wz ⟨rfl, hE⟩; replace S := S.ext (Keep.of_below hE); clear hE)
      | ((with_reducible apply wps_store (u := .bool true) S 1); (case hx => rfl); (case hy => rfl); (case hi => rfl); (case hT => decide +kernel); (case h1 => rfl); (case hn => exact Nat.le_of_ble_eq_true rfl); clear S; intro wz S; simp only [List.set_cons_succ, List.set_cons_zero, List.setIfInBounds_toArray] at S)
      | ((with_reducible refine tot_done ?ht ?_); (case ht => kernel_rfl))
      | ((with_reducible apply wps_text S); (case hm => kernel_rfl); (case hB => decide +kernel); clear S; intro wz S)
      | ((with_reducible apply wps_load S 0); (case hx => rfl); (case hi => rfl); (case hT => decide +kernel); (case hu => rfl))
      | ((with_reducible apply wps_loada (T := 28) (k := 4) S 0); (case hx => rfl); (case hi => rfl); (case hT => decide +kernel); (case hk => exact Nat.le_of_ble_eq_true rfl))
    exact leaves_ret rfl (results1 rfl (S.res1 1 rfl rfl (by kernel_rfl))) ⟨rfl, S.below⟩
  have hl40 : l.length ≤ 40 := by omega
  have hq : ∀ (w : World) (b : Nat), (binOp .eql 53 (.func (.func 50) #[] #[.pointer (some ⟨b, 0, none⟩)]) .nilFunc).run Try.prog w = .ok (.bool false) w := fun w b => run_eql_func_nil w _ _ _ Try.underlying53
  go_wp2_with first
    | go_skip
    | ((with_reducible refine wpList_skip ?hw ?_); (case hw => with_unfolding_all rfl); simp only [Act.put, List.setIfInBounds_toArray, List.set_cons_succ, List.set_cons_zero])
    | ((with_reducible apply wps_alloc1 (E := 4) S); (case hz => exact Try.zeroValue4); (case h1 => rfl); clear S; intro b2 wz S)
    | (go_at_call 15; refine Calls.mono (hnew_calls _) ?_; rintro e wz ⟨B, rfl, T⟩; replace S := S.join T rfl; clear T; simp only [List.cons_append, List.nil_append] at S)
    | ((with_reducible apply wps_boxa (E := 42) S); (case hx => rfl); clear S; intro B2 wz S)
    | ((with_reducible refine tot_done ?ht ?_); (case ht => kernel_rfl))
    | ((with_reducible apply wps_text S); (case hm => kernel_rfl); (case hB => decide +kernel); clear S; intro wz S)
    | ((with_reducible apply wps_load S 0); (case hx => rfl); (case hi => rfl); (case hT => decide +kernel); (case hu => rfl))
    | ((with_reducible apply wps_loada (T := 28) (k := 4) S 0); (case hx => rfl); (case hi => rfl); (case hT => decide +kernel); (case hk => exact Nat.le_of_ble_eq_true rfl))
  replace S := ref_new S
  replace S := S.pick [1, 0, 3, 2] rfl
  simp only [pick, nth] at S
  go_loopw [5] (fun i wr => TmRel B B2 b2 (.slice ad l.length cp) l w i wr) (fun i _ => l.length - (intOf i).toNat)
  case atStart => exact ⟨0, Nat.zero_le _, rfl, S⟩
  case round =>
    clear S
    obtain ⟨j, hj, rfl, S⟩ := hrel
    have Hs := Lib.hid (afterK_sorted l j)
    have hns := afterK_len l j
    by_cases hlt : j < l.length
    · obtain ⟨x, hx⟩ : ∃ x, l[j]? = some x := ⟨_, List.getElem?_eq_getElem hlt⟩
      obtain ⟨R, o, rfl⟩ : ∃ R o, ad = some ⟨R, o, none⟩ := (S.sl 2 rfl).elim fun F h => h.head (by omega)
      have hlt2 : (j : Int) < l.length := by omega
      have Hst := Lib.hid (afterK_step hx)
      have h65 : (afterK l j).length ≤ 65536 := by omega
      have h42 : (afterK l j).length < 4294967296 := by omega
      have Hx := Lib.hid hx
      clear hx
      generalize hsj : afterK l j = s at *
      replace S := S.pick [2, 3, 0, 1] rfl
      simp only [pick, nth] at S
      go_wp2_with first
        | go_skip
        | ((with_reducible refine wpList_skip ?hw ?_); (case hw => with_unfolding_all rfl); simp only [Act.put, List.setIfInBounds_toArray, List.set_cons_succ, List.set_cons_zero])
      (refine wp_region_wt (soft := [0, 1, 2, 3, 4, 5, 7, 8, 9, 10, 11, 12]) (L := [_, _]) (T := [_, _]) S ?hm ?hB ?_); (case hm => kernel_rfl); (case hB => decide +kernel); clear S
      iterate 12
        (with_reducible apply softs_cons)
        (case hw =>
          (with_reducible apply soft_of); (case hi => rfl)
          intro T wz S
          simp only [List.cons_append, List.nil_append] at S
          go_wp2_with first
            | go_skip
            | ((with_reducible apply wps_loada_el S 0 (hj := Hx.out) (q := 0) (vs := [.int .i64 x.at_, .int .i64 x.src, .int .i64 x.sent, .int .i64 x.no]) (m := 4)); (case hx => rfl); (case hT => decide +kernel); (case hi => rfl); (case hn => omega); (case hm => rfl); (case hv => rfl))
            | ((with_reducible apply wps_load_el S 0 (hj := Hx.out) (q := 0) (u := .int .i64 x.at_)); (case hx => rfl); (case hi => rfl); (case hn => omega); (case hT => decide +kernel); (case hu => rfl))
            | (go_at_call 21; obtain ⟨Fz, hF, hBk⟩ := S.lend1 2 rfl rfl; refine Calls.mono (hpush_calls _ _ x (j : Int) _ _ hF h42) ?_; rintro e wz ⟨rfl, T⟩; replace S := hBk _ _ rfl T; clear hBk hF T; simp only [List.set_cons_succ, List.set_cons_zero] at S)
            | (go_at_call 30; obtain ⟨Fz, hF, hBk⟩ := S.lend1 3 rfl rfl; refine Calls.mono (rpush_is _ _ x (j : Int) _ _ hF h65 Hs.out) ?_; rintro e wz ⟨rfl, T⟩; replace S := hBk _ _ rfl T; clear hBk hF T; simp only [List.set_cons_succ, List.set_cons_zero] at S)
            | ((with_reducible refine tot_done ?ht ?_); (case ht => kernel_rfl))
            | ((with_reducible apply wps_boxa S); (case hx => rfl); clear S; intro bz wz S)
            | ((with_reducible apply wps_box1 (v := .int _ _) S); (case hx => rfl); (case h1 => rfl); clear S; intro bz wz S)
            | ((with_reducible apply wps_box1 (v := .bool _) S); (case hx => rfl); (case h1 => rfl); clear S; intro bz wz S)
            | ((with_reducible apply wps_box1 (v := .slice _ _ _) S); (case hx => rfl); (case h1 => rfl); clear S; intro bz wz S)
            | ((with_reducible apply wps_box1 (v := .pointer _) S); (case hx => rfl); (case h1 => rfl); clear S; intro bz wz S)
            | ((with_reducible apply wps_box1 (v := .map _) S); (case hx => rfl); (case h1 => rfl); clear S; intro bz wz S)
            | ((with_reducible apply wps_box1 (v := .string _) S); (case hx => rfl); (case h1 => rfl); clear S; intro bz wz S)
            | ((with_reducible apply wps_box1 (v := .func _ _ _) S); (case hx => rfl); (case h1 => rfl); clear S; intro bz wz S)
            | ((with_reducible apply wps_alloc1 (E := 3) S); (case hz => exact Try.zeroValue3); (case h1 => rfl); clear S; intro bz wz S)
            | ((with_reducible apply wps_alloc1 (E := 4) S); (case hz => exact Try.zeroValue4); (case h1 => rfl); clear S; intro bz wz S)
            | ((with_reducible apply wps_alloca (E := 28) S); (case hz => exact Try.zeroValue28); clear S; intro bz wz S)
            | ((with_reducible apply wps_load S 0); (case hx => rfl); (case hi => rfl); (case hT => decide +kernel); (case hu => rfl))
            | ((with_reducible apply wps_loada (T := 28) (k := 4) S 0); (case hx => rfl); (case hi => rfl); (case hT => decide +kernel); (case hk => exact Nat.le_of_ble_eq_true rfl))
          exact ⟨rfl, S⟩)
        (case hs => exact ⟨_, rfl, by kernel_rfl⟩)
      refine softs_nil ?_
      (with_reducible apply W_hard1 (i := 6)); (case hn => rfl); (case hr => decide +kernel)
      intro wz S
      (with_reducible apply hard_of); (case hi => rfl)
      simp only [List.cons_append, List.nil_append] at S
      go_wp2_with first
        | go_skip
        | ((with_reducible apply wps_loada_el S 0 (hj := Hx.out) (q := 0) (vs := [.int .i64 x.at_, .int .i64 x.src, .int .i64 x.sent, .int .i64 x.no]) (m := 4)); (case hx => rfl); (case hT => decide +kernel); (case hi => rfl); (case hn => omega); (case hm => rfl); (case hv => rfl))
        | ((with_reducible apply wps_load_el S 0 (hj := Hx.out) (q := 0) (u := .int .i64 x.at_)); (case hx => rfl); (case hi => rfl); (case hn => omega); (case hT => decide +kernel); (case hu => rfl))
        | (go_at_call 21; obtain ⟨Fz, hF, hBk⟩ := S.lend1 2 rfl rfl; refine Calls.mono (hpush_calls _ _ x (j : Int) _ _ hF h42) ?_; rintro e wz ⟨rfl, T⟩; replace S := hBk _ _ rfl T; clear hBk hF T; simp only [List.set_cons_succ, List.set_cons_zero] at S)
        | (go_at_call 30; obtain ⟨Fz, hF, hBk⟩ := S.lend1 3 rfl rfl; refine Calls.mono (rpush_is _ _ x (j : Int) _ _ hF h65 Hs.out) ?_; rintro e wz ⟨rfl, T⟩; replace S := hBk _ _ rfl T; clear hBk hF T; simp only [List.set_cons_succ, List.set_cons_zero] at S)
        | ((with_reducible refine tot_done ?ht ?_); (case ht => kernel_rfl))
        | ((with_reducible apply wps_boxa S); (case hx => rfl); clear S; intro bz wz S)
        | ((with_reducible apply wps_box1 (v := .int _ _) S); (case hx => rfl); (case h1 => rfl); clear S; intro bz wz S)
        | ((with_reducible apply wps_box1 (v := .bool _) S); (case hx => rfl); (case h1 => rfl); clear S; intro bz wz S)
        | ((with_reducible apply wps_box1 (v := .slice _ _ _) S); (case hx => rfl); (case h1 => rfl); clear S; intro bz wz S)
        | ((with_reducible apply wps_box1 (v := .pointer _) S); (case hx => rfl); (case h1 => rfl); clear S; intro bz wz S)
        | ((with_reducible apply wps_box1 (v := .map _) S); (case hx => rfl); (case h1 => rfl); clear S; intro bz wz S)
        | ((with_reducible apply wps_box1 (v := .string _) S); (case hx => rfl); (case h1 => rfl); clear S; intro bz wz S)
        | ((with_reducible apply wps_box1 (v := .func _ _ _) S); (case hx => rfl); (case h1 => rfl); clear S; intro bz wz S)
        | ((with_reducible apply wps_alloc1 (E := 3) S); (case hz => exact Try.zeroValue3); (case h1 => rfl); clear S; intro bz wz S)
        | ((with_reducible apply wps_alloc1 (E := 4) S); (case hz => exact Try.zeroValue4); (case h1 => rfl); clear S; intro bz wz S)
        | ((with_reducible apply wps_alloca (E := 28) S); (case hz => exact Try.zeroValue28); clear S; intro bz wz S)
        | ((with_reducible apply wps_load S 0); (case hx => rfl); (case hi => rfl); (case hT => decide +kernel); (case hu => rfl))
        | ((with_reducible apply wps_loada (T := 28) (k := 4) S 0); (case hx => rfl); (case hi => rfl); (case hT => decide +kernel); (case hk => exact Nat.le_of_ble_eq_true rfl))
      refine ⟨_, S, ?_⟩
      clear S
      (with_reducible apply W_hard1 (i := 13)); (case hn => rfl); (case hr => decide +kernel)
      intro wz S
      (with_reducible apply hard_of); (case hi => rfl)
      simp only [List.cons_append, List.nil_append] at S
      go_wp2_with first
        | go_skip
        | ((with_reducible apply wps_loada_el S 0 (hj := Hx.out) (q := 0) (vs := [.int .i64 x.at_, .int .i64 x.src, .int .i64 x.sent, .int .i64 x.no]) (m := 4)); (case hx => rfl); (case hT => decide +kernel); (case hi => rfl); (case hn => omega); (case hm => rfl); (case hv => rfl))
        | ((with_reducible apply wps_load_el S 0 (hj := Hx.out) (q := 0) (u := .int .i64 x.at_)); (case hx => rfl); (case hi => rfl); (case hn => omega); (case hT => decide +kernel); (case hu => rfl))
        | (go_at_call 21; obtain ⟨Fz, hF, hBk⟩ := S.lend1 2 rfl rfl; refine Calls.mono (hpush_calls _ _ x (j : Int) _ _ hF h42) ?_; rintro e wz ⟨rfl, T⟩; replace S := hBk _ _ rfl T; clear hBk hF T; simp only [List.set_cons_succ, List.set_cons_zero] at S)
        | (go_at_call 30; obtain ⟨Fz, hF, hBk⟩ := S.lend1 3 rfl rfl; refine Calls.mono (rpush_is _ _ x (j : Int) _ _ hF h65 Hs.out) ?_; rintro e wz ⟨rfl, T⟩; replace S := hBk _ _ rfl T; clear hBk hF T; simp only [List.set_cons_succ, List.set_cons_zero] at S)
        | ((with_reducible refine tot_done ?ht ?_); (case ht => kernel_rfl))
        | ((with_reducible apply wps_boxa S); (case hx => rfl); clear S; intro bz wz S)
        | ((with_reducible apply wps_box1 (v := .int _ _) S); (case hx => rfl); (case h1 => rfl); clear S; intro bz wz S)
        | ((with_reducible apply wps_box1 (v := .bool _) S); (case hx => rfl); (case h1 => rfl); clear S; intro bz wz S)
        | ((with_reducible apply wps_box1 (v := .slice _ _ _) S); (case hx => rfl); (case h1 => rfl); clear S; intro bz wz S)
        | ((with_reducible apply wps_box1 (v := .pointer _) S); (case hx => rfl); (case h1 => rfl); clear S; intro bz wz S)
        | ((with_reducible apply wps_box1 (v := .map _) S); (case hx => rfl); (case h1 => rfl); clear S; intro bz wz S)
        | ((with_reducible apply wps_box1 (v := .string _) S); (case hx => rfl); (case h1 => rfl); clear S; intro bz wz S)
        | ((with_reducible apply wps_box1 (v := .func _ _ _) S); (case hx => rfl); (case h1 => rfl); clear S; intro bz wz S)
        | ((with_reducible apply wps_alloc1 (E := 3) S); (case hz => exact Try.zeroValue3); (case h1 => rfl); clear S; intro bz wz S)
        | ((with_reducible apply wps_alloc1 (E := 4) S); (case hz => exact Try.zeroValue4); (case h1 => rfl); clear S; intro bz wz S)
        | ((with_reducible apply wps_alloca (E := 28) S); (case hz => exact Try.zeroValue28); clear S; intro bz wz S)
        | ((with_reducible apply wps_load S 0); (case hx => rfl); (case hi => rfl); (case hT => decide +kernel); (case hu => rfl))
        | ((with_reducible apply wps_loada (T := 28) (k := 4) S 0); (case hx => rfl); (case hi => rfl); (case hT => decide +kernel); (case hk => exact Nat.le_of_ble_eq_true rfl))
      refine ⟨_, S, ?_⟩
      clear S
      (refine W_mid (f := 0) (soft := [14]) rfl ?hB ?_); (case hB => decide +kernel)
      iterate 1
        (with_reducible apply softs_cons)
        (case hw =>
          (with_reducible apply soft_of); (case hi => rfl)
          intro T wz S
          simp only [List.cons_append, List.nil_append] at S
          go_wp2_with first
            | go_skip
            | ((with_reducible apply wps_loada_el S 0 (hj := Hx.out) (q := 0) (vs := [.int .i64 x.at_, .int .i64 x.src, .int .i64 x.sent, .int .i64 x.no]) (m := 4)); (case hx => rfl); (case hT => decide +kernel); (case hi => rfl); (case hn => omega); (case hm => rfl); (case hv => rfl))
            | ((with_reducible apply wps_load_el S 0 (hj := Hx.out) (q := 0) (u := .int .i64 x.at_)); (case hx => rfl); (case hi => rfl); (case hn => omega); (case hT => decide +kernel); (case hu => rfl))
            | (go_at_call 21; obtain ⟨Fz, hF, hBk⟩ := S.lend1 2 rfl rfl; refine Calls.mono (hpush_calls _ _ x (j : Int) _ _ hF h42) ?_; rintro e wz ⟨rfl, T⟩; replace S := hBk _ _ rfl T; clear hBk hF T; simp only [List.set_cons_succ, List.set_cons_zero] at S)
            | (go_at_call 30; obtain ⟨Fz, hF, hBk⟩ := S.lend1 3 rfl rfl; refine Calls.mono (rpush_is _ _ x (j : Int) _ _ hF h65 Hs.out) ?_; rintro e wz ⟨rfl, T⟩; replace S := hBk _ _ rfl T; clear hBk hF T; simp only [List.set_cons_succ, List.set_cons_zero] at S)
            | ((with_reducible refine tot_done ?ht ?_); (case ht => kernel_rfl))
            | ((with_reducible apply wps_boxa S); (case hx => rfl); clear S; intro bz wz S)
            | ((with_reducible apply wps_box1 (v := .int _ _) S); (case hx => rfl); (case h1 => rfl); clear S; intro bz wz S)
            | ((with_reducible apply wps_box1 (v := .bool _) S); (case hx => rfl); (case h1 => rfl); clear S; intro bz wz S)
            | ((with_reducible apply wps_box1 (v := .slice _ _ _) S); (case hx => rfl); (case h1 => rfl); clear S; intro bz wz S)
            | ((with_reducible apply wps_box1 (v := .pointer _) S); (case hx => rfl); (case h1 => rfl); clear S; intro bz wz S)
            | ((with_reducible apply wps_box1 (v := .map _) S); (case hx => rfl); (case h1 => rfl); clear S; intro bz wz S)
            | ((with_reducible apply wps_box1 (v := .string _) S); (case hx => rfl); (case h1 => rfl); clear S; intro bz wz S)
            | ((with_reducible apply wps_box1 (v := .func _ _ _) S); (case hx => rfl); (case h1 => rfl); clear S; intro bz wz S)
            | ((with_reducible apply wps_alloc1 (E := 3) S); (case hz => exact Try.zeroValue3); (case h1 => rfl); clear S; intro bz wz S)
            | ((with_reducible apply wps_alloc1 (E := 4) S); (case hz => exact Try.zeroValue4); (case h1 => rfl); clear S; intro bz wz S)
            | ((with_reducible apply wps_alloca (E := 28) S); (case hz => exact Try.zeroValue28); clear S; intro bz wz S)
            | ((with_reducible apply wps_load S 0); (case hx => rfl); (case hi => rfl); (case hT => decide +kernel); (case hu => rfl))
            | ((with_reducible apply wps_loada (T := 28) (k := 4) S 0); (case hx => rfl); (case hi => rfl); (case hT => decide +kernel); (case hk => exact Nat.le_of_ble_eq_true rfl))
          exact ⟨rfl, S⟩)
        (case hs => exact ⟨_, rfl, by kernel_rfl⟩)
      refine softs_nil ?_
      (with_reducible apply W_done); (case hn => rfl); (case hr => decide +kernel)
      intro wz S
      repeat (first | simp only at S | simp only [pick] at S | simp only [nth] at S | simp only [List.set_cons_succ] at S | simp only [List.set_cons_zero] at S | simp only [List.setIfInBounds_toArray] at S | simp only [setAll] at S | simp only [List.cons_append] at S | simp only [List.nil_append] at S | simp only [List.append_nil] at S)
      all_goals
        have hpp : (PushAns s ⟨x, (j : Int)⟩ != PushAns s ⟨x, (j : Int)⟩) = false := by simp
        go_wp2_with first
          | go_skip
          | ((with_reducible refine wpList_skip ?hw ?_); (case hw => with_unfolding_all rfl); simp only [Act.put, List.setIfInBounds_toArray, List.set_cons_succ, List.set_cons_zero])
          | ((with_reducible refine tot_done ?ht ?_); (case ht => kernel_rfl))
          | ((with_reducible apply wps_text S); (case hm => kernel_rfl); (case hB => decide +kernel); clear S; intro wz S)
          | ((with_reducible apply wps_boxa S); (case hx => rfl); clear S; intro bz wz S)
          | ((with_reducible apply wps_box1 (v := .int _ _) S); (case hx => rfl); (case h1 => rfl); clear S; intro bz wz S)
          | ((with_reducible apply wps_box1 (v := .bool _) S); (case hx => rfl); (case h1 => rfl); clear S; intro bz wz S)
          | ((with_reducible apply wps_box1 (v := .slice _ _ _) S); (case hx => rfl); (case h1 => rfl); clear S; intro bz wz S)
          | ((with_reducible apply wps_box1 (v := .pointer _) S); (case hx => rfl); (case h1 => rfl); clear S; intro bz wz S)
          | ((with_reducible apply wps_box1 (v := .map _) S); (case hx => rfl); (case h1 => rfl); clear S; intro bz wz S)
          | ((with_reducible apply wps_box1 (v := .string _) S); (case hx => rfl); (case h1 => rfl); clear S; intro bz wz S)
          | ((with_reducible apply wps_box1 (v := .func _ _ _) S); (case hx => rfl); (case h1 => rfl); clear S; intro bz wz S)
          | ((with_reducible apply wps_alloc1 (E := 3) S); (case hz => exact Try.zeroValue3); (case h1 => rfl); clear S; intro bz wz S)
          | ((with_reducible apply wps_alloc1 (E := 4) S); (case hz => exact Try.zeroValue4); (case h1 => rfl); clear S; intro bz wz S)
          | ((with_reducible apply wps_alloca (E := 28) S); (case hz => exact Try.zeroValue28); clear S; intro bz wz S)
          | ((with_reducible apply wps_load S 0); (case hx => rfl); (case hi => rfl); (case hT => decide +kernel); (case hu => rfl))
          | ((with_reducible apply wps_loada (T := 28) (k := 4) S 0); (case hx => rfl); (case hi => rfl); (case hT => decide +kernel); (case hk => exact Nat.le_of_ble_eq_true rfl))
        go_roundw
        case rel => exact ⟨j + 1, by omega, by go_num, by rw [Hst.out]; exact S.pick [2, 3, 0, 1] rfl⟩
        case measure => first | (simp [intOf]; done) | (simp [intOf]; omega)
    · obtain rfl : j = l.length := by omega
      have h65 : (afterK l l.length).length ≤ 65536 := by omega
      have h42 : (afterK l l.length).length ≤ 4294967296 := by omega
      have Hne := Lib.hid (afterK_ne (l := l))
      have Hmem := Lib.hid (afterK_mem l l.length)
      have hs40 : (afterK l l.length).length ≤ 40 := by omega
      generalize hsj : afterK l l.length = s at *
      clear hns hj hlt
      cases s with
      | nil =>
        have hl0 : l.length = 0 := Nat.eq_zero_of_not_pos fun h => Hne.out h rfl
        have hl1 : ((l.length : Int) == 0) = true := by rw [hl0]; rfl
        go_wp2_with first
          | go_skip
          | ((with_reducible refine wpList_skip ?hw ?_); (case hw => with_unfolding_all rfl); simp only [Act.put, List.setIfInBounds_toArray, List.set_cons_succ, List.set_cons_zero])
          | ((with_reducible apply wps_alloc1 (E := 3) S); (case hz => exact Try.zeroValue3); (case h1 => rfl); clear S; intro b6 wz S)
          | ((with_reducible apply wps_store (u := .int .i64 0) S 0); (case hx => rfl); (case hy => rfl); (case hi => rfl); (case hT => decide +kernel); (case h1 => rfl); (case hn => exact Nat.le_of_ble_eq_true rfl); clear S; intro wz S; simp only [List.set_cons_zero, List.setIfInBounds_toArray] at S)
          | (go_at_call 28; obtain ⟨Fz, hF, hBk⟩ := S.lend1 0 rfl rfl; refine Calls.mono (hbatch_none _ _ _ hF) ?_; rintro e wz ⟨rfl, T⟩; replace S := hBk _ _ rfl T; clear hBk hF T; simp only [List.set_cons_zero] at S)
          | (go_at_call 17; refine Calls.mono (awake3_calls _) ?_; rintro e wz ⟨rfl, hE⟩; replace S := S.ext (Keep.of_below hE); clear hE)
          | ((with_reducible apply wps_store (u := .bool true) S 4); (case hx => rfl); (case hy => rfl); (case hi => rfl); (case hT => decide +kernel); (case h1 => rfl); (case hn => exact Nat.le_of_ble_eq_true rfl); clear S; intro wz S; simp only [List.set_cons_succ, List.set_cons_zero, List.setIfInBounds_toArray] at S)
          | ((with_reducible refine tot_done ?ht ?_); (case ht => kernel_rfl))
          | ((with_reducible apply wps_text S); (case hm => kernel_rfl); (case hB => decide +kernel); clear S; intro wz S)
          | ((with_reducible apply wps_load S 0); (case hx => rfl); (case hi => rfl); (case hT => decide +kernel); (case hu => rfl))
          | ((with_reducible apply wps_loada (T := 28) (k := 4) S 0); (case hx => rfl); (case hi => rfl); (case hT => decide +kernel); (case hk => exact Nat.le_of_ble_eq_true rfl))
        exact leaves_ret rfl (results1 rfl (S.res1 4 rfl rfl (by kernel_rfl))) ⟨rfl, S.below⟩
      | cons r s =>
        clear Hne
        go_wp2_with first
          | go_skip
          | ((with_reducible refine wpList_skip ?hw ?_); (case hw => with_unfolding_all rfl); simp only [Act.put, List.setIfInBounds_toArray, List.set_cons_succ, List.set_cons_zero])
          | ((with_reducible apply wps_alloc1 (E := 3) S); (case hz => exact Try.zeroValue3); (case h1 => rfl); clear S; intro b6 wz S)
          | ((with_reducible apply wps_store (u := .int .i64 r.key.at_) S 0); (case hx => rfl); (case hy => rfl); (case hi => rfl); (case hT => decide +kernel); (case h1 => rfl); (case hn => exact Nat.le_of_ble_eq_true rfl); clear S; intro wz S; simp only [List.set_cons_zero, List.setIfInBounds_toArray] at S)
          | (go_at_call 28; replace S := S.pick [0, 1, 2, 3] rfl; simp only [pick, nth] at S; obtain ⟨Fz, hF, hBk⟩ := S.lend1 0 rfl rfl; refine Calls.mono (hbatch_two _ _ _ _ _ hF Hs.out h42) ?_; rintro e wz ⟨vt, rfl, T⟩; replace S := hBk _ _ rfl (T.close_sep rfl rfl); clear hBk hF T; simp only [List.set_cons_zero] at S; replace S := S.open_sep rfl rfl)
          | (go_at_call 24; refine Calls.mono (hall_calls _ _ _ _ (S.get (i := 1) rfl).choose_spec (Nat.le_trans (List.dropWhile_sublist _).length_le h42)) ?_; rintro e wz ⟨br, ad5, c5, rfl, T⟩; replace S := S.join T rfl; clear T; simp only [List.cons_append, List.nil_append] at S)
          | ((with_reducible refine tot_done ?ht ?_); (case ht => kernel_rfl))
          | ((with_reducible apply wps_text S); (case hm => kernel_rfl); (case hB => decide +kernel); clear S; intro wz S)
          | ((with_reducible apply wps_load S 0); (case hx => rfl); (case hi => rfl); (case hT => decide +kernel); (case hu => rfl))
          | ((with_reducible apply wps_loada (T := 28) (k := 4) S 0); (case hx => rfl); (case hi => rfl); (case hT => decide +kernel); (case hk => exact Nat.le_of_ble_eq_true rfl))
        clear hq
        have hsp : (r :: s).takeWhile (same_at r.key.at_) ++ (r :: s).dropWhile (same_at r.key.at_) = r :: s := List.takeWhile_append_dropWhile
        have hlater := rest_later Hs.out
        have hat := tw_all (same_at r.key.at_) (r :: s)
        generalize hat0 : r.key.at_ = t0 at *
        generalize htw : (r :: s).takeWhile (same_at t0) = tw at *
        generalize hdw : (r :: s).dropWhile (same_at t0) = rs at *
        clear htw hdw hsj
        have hs40' := hs40
        rw [← hsp] at S Hs Hmem hs40
        have htl : tw.length ≤ 40 := by rw [List.length_append] at hs40; omega
        have hrl : rs.length ≤ 65536 := by rw [List.length_append] at hs40; omega
        have h65' : (tw ++ rs).length ≤ 65536 := by omega
        have Hlater := Lib.hid hlater
        have Hat := Lib.hid hat
        clear hsp hlater hat hs40 hs40' h65 h42 hat0
        obtain ⟨av, cv, rfl, _⟩ := (S.ownsl tElen 4 rfl).elim fun _ h => h.form
        replace S := (S.freeze true 1 hcells rfl).weak (i := 0) (A' := Blk true br #[.slice ad5 rs.length c5] 83) rfl (fun e => by cases e) (fun F h => ⟨F, fun _ hb => hb, h⟩)
        simp only [List.set_cons_zero, List.set_cons_succ] at S
        refine wps_range (all2_iter br ad5 c5 rs hrl) S rfl (calls_enter Try.func50 (by kernel_rfl) rfl) (fun _ L => L = [Blk false b6 #[.int .i64 t0] 3, heapA B rs, Mem.Own 3 tE 1 (.slice av (tw.map (·.v)).length cv) (tw.map (·.v)), refH false B2 (tw ++ rs), Sl true Key.cells 4 (.slice ad l.length cp) l, Blk false b2 #[.bool false] 4]) (fun _ _ _ => False) rfl (fun x args N h => by obtain ⟨rfl, _⟩ := h; rfl) ?round ?done ?stop
        case stop => intro _ _ _ _ _ _ h; exact h.elim
        case round =>
          rintro lp Dr r' k x args N L W hx ⟨rfl, rfl⟩ rfl S
          simp only [zip_two, List.setIfInBounds_toArray, List.set_cons_succ, List.set_cons_zero, List.cons_append, List.nil_append] at S ⊢
          have hx2 := Hlater.out x (List.mem_of_getElem? hx)
          have hle : decide (x.key.at_ ≤ t0) = false := decide_eq_false (by omega)
          gi_wp2_with first
            | (refine wpi_at (.inr ⟨_, rfl⟩) rfl fun K hK => ?_
               go_wp2_with first
                 | go_skip
                 | ((with_reducible refine wpList_skip ?hw ?_); (case hw => with_unfolding_all rfl); simp only [Act.put, List.setIfInBounds_toArray, List.set_cons_succ, List.set_cons_zero])
                 | ((with_reducible refine tot_done ?ht ?_); (case ht => kernel_rfl))
                 | ((with_reducible apply wps_alloca (E := 28) S); (case hz => exact Try.zeroValue28); clear S; intro b7 wz S)
                 | ((with_reducible apply wps_storea (T := 28) S 0 (vs := [.int .i64 x.key.at_, .int .i64 x.key.src, .int .i64 x.key.sent, .int .i64 x.key.no]) (m := 4)); (case hx => rfl); (case hy => rfl); (case hi => rfl); (case hT => decide +kernel); (case hm => rfl); (case h1 => rfl); (case hn => exact Nat.le_of_ble_eq_true rfl); clear S; intro wz S; simp only [List.set_cons_zero, List.set_cons_succ, setAll, List.setIfInBounds_toArray] at S)
               refine hK _ _ ?_
               (try simp only [Act.put]); (try simp only [List.setIfInBounds_toArray]); (try simp only [List.set_cons_succ]); (try simp only [List.set_cons_zero])
               clear hK K)
          refine ⟨_, S.lastSplit rfl, fun r' W2 S => ?_⟩
          simp only [List.dropLast, List.cons_append, List.nil_append] at S
          gi_wp2_with first
            | (refine wpi_at (.inr ⟨_, rfl⟩) rfl fun K hK => ?_
               go_wp2_with first
                 | go_skip
                 | ((with_reducible refine wpList_skip ?hw ?_); (case hw => with_unfolding_all rfl); simp only [Act.put, List.setIfInBounds_toArray, List.set_cons_succ, List.set_cons_zero])
                 | ((with_reducible refine tot_done ?ht ?_); (case ht => kernel_rfl))
                 | ((with_reducible apply wps_load S 0); (case hx => rfl); (case hi => rfl); (case hT => decide +kernel); (case hu => rfl))
                 | ((with_reducible apply wps_load S 3); (case hx => rfl); (case hi => rfl); (case hT => decide +kernel); (case hu => rfl))
               refine hK _ _ ?_
               (try simp only [Act.put]); (try simp only [List.setIfInBounds_toArray]); (try simp only [List.set_cons_succ]); (try simp only [List.set_cons_zero])
               clear hK K)
          exact ⟨_, rfl, S.pick [1, 2, 3, 4, 5, 6, 7, 8, 9] rfl⟩
        case done =>
          rintro Dr W L rfl S
          simp only [List.cons_append, List.nil_append] at S
          clear hrl
          go_wp2_with first
            | go_skip
            | ((with_reducible refine wpList_skip ?hw ?_); (case hw => with_unfolding_all rfl); simp only [Act.put, List.setIfInBounds_toArray, List.set_cons_succ, List.set_cons_zero])
          replace S := S.pick [0, 4, 6, 5, 7, 3, 8] rfl
          simp only [pick, nth] at S
          go_loopw [11] (fun i wr => TmRel2 Dr B B2 b2 b6 (.slice av (tw.map (·.v)).length cv) (.slice ad l.length cp) l tw rs t0 w i wr) (fun i _ => (intOf i + 1).toNat)
          case atStart => exact ⟨tw.length, Nat.le_refl _, by simp, by rw [List.drop_length, List.nil_append]; exact S⟩
          case round =>
            clear S
            obtain ⟨j, hj, rfl, S⟩ := hrel
            cases j with
            | zero =>
              rw [show (((0 : Nat) : Int) - 1) = -1 from rfl]
              simp only [List.drop_zero] at S
              go_wp2_with first
                | go_skip
                | ((with_reducible refine wpList_skip ?hw ?_); (case hw => with_unfolding_all rfl); simp only [Act.put, List.setIfInBounds_toArray, List.set_cons_succ, List.set_cons_zero])
                | (go_at_call 22; refine Calls.mono (same_calls _ _ _ _ _ _ (S.get (i := 1) rfl).choose_spec (S.get (i := 2) rfl).choose_spec h65') ?_; rintro e wz ⟨rfl, hE⟩; replace S := S.ext (Keep.of_below hE); clear hE)
                | (go_at_call 17; refine Calls.mono (awake3_calls _) ?_; rintro e wz ⟨rfl, hE⟩; replace S := S.ext (Keep.of_below hE); clear hE)
                | ((with_reducible apply wps_store (u := .bool true) S 6); (case hx => rfl); (case hy => rfl); (case hi => rfl); (case hT => decide +kernel); (case h1 => rfl); (case hn => exact Nat.le_of_ble_eq_true rfl); clear S; intro wz S; simp only [List.set_cons_succ, List.set_cons_zero, List.setIfInBounds_toArray] at S)
                | ((with_reducible refine tot_done ?ht ?_); (case ht => kernel_rfl))
                | ((with_reducible apply wps_text S); (case hm => kernel_rfl); (case hB => decide +kernel); clear S; intro wz S)
                | ((with_reducible apply wps_boxa S); (case hx => rfl); clear S; intro bz wz S)
                | ((with_reducible apply wps_box1 (v := .int _ _) S); (case hx => rfl); (case h1 => rfl); clear S; intro bz wz S)
                | ((with_reducible apply wps_box1 (v := .bool _) S); (case hx => rfl); (case h1 => rfl); clear S; intro bz wz S)
                | ((with_reducible apply wps_box1 (v := .slice _ _ _) S); (case hx => rfl); (case h1 => rfl); clear S; intro bz wz S)
                | ((with_reducible apply wps_box1 (v := .pointer _) S); (case hx => rfl); (case h1 => rfl); clear S; intro bz wz S)
                | ((with_reducible apply wps_box1 (v := .map _) S); (case hx => rfl); (case h1 => rfl); clear S; intro bz wz S)
                | ((with_reducible apply wps_box1 (v := .string _) S); (case hx => rfl); (case h1 => rfl); clear S; intro bz wz S)
                | ((with_reducible apply wps_box1 (v := .func _ _ _) S); (case hx => rfl); (case h1 => rfl); clear S; intro bz wz S)
                | ((with_reducible apply wps_alloc1 (E := 3) S); (case hz => exact Try.zeroValue3); (case h1 => rfl); clear S; intro bz wz S)
                | ((with_reducible apply wps_alloc1 (E := 4) S); (case hz => exact Try.zeroValue4); (case h1 => rfl); clear S; intro bz wz S)
                | ((with_reducible apply wps_alloca (E := 28) S); (case hz => exact Try.zeroValue28); clear S; intro bz wz S)
                | ((with_reducible apply wps_load S 0); (case hx => rfl); (case hi => rfl); (case hT => decide +kernel); (case hu => rfl))
                | ((with_reducible apply wps_loada (T := 28) (k := 4) S 0); (case hx => rfl); (case hi => rfl); (case hT => decide +kernel); (case hk => exact Nat.le_of_ble_eq_true rfl))
              exact leaves_ret1 S rfl fun w' S => ⟨_, results1 rfl (S.res1 5 rfl rfl (by kernel_rfl)), ⟨rfl, S.below⟩⟩
            | succ q =>
              rw [show (((q + 1 : Nat) : Int) - 1) = (q : Int) by omega]
              obtain ⟨x, hx⟩ : ∃ x, tw[q]? = some x := ⟨_, List.getElem?_eq_getElem (by omega)⟩
              have hxm := List.mem_of_getElem? hx
              obtain ⟨n, hn, hln⟩ := Hmem.out x (List.mem_append_left _ hxm)
              have hnl := (List.getElem?_eq_some_iff.1 hln).1
              have hdr : tw.drop q = x :: tw.drop (q + 1) := by
                rw [List.drop_eq_getElem_cons (by omega)]; congr 1
                exact (List.getElem?_eq_some_iff.1 hx).2
              have hsx : HSorted (x :: (tw.drop (q + 1) ++ rs)) := by
                have := List.Pairwise.sublist ((List.drop_sublist q tw).append_right rs) Hs.out
                rw [hdr, List.cons_append] at this
                exact this
              have hxe : x = ⟨x.key, (n : Int)⟩ := by rw [← hn]
              have HJ : Hid ((tw.map (·.v))[q]? = some (n : Int)) := by show _ = _; rw [List.getElem?_map, hx]; simp [hn]
              have hat1 : (x.key.at_ != t0) = false := by have := Hat.out x hxm; simp only [same_at, beq_iff_eq] at this; simp [this]
              have hrl2 : (tw.drop (q + 1) ++ rs).length < 4294967296 := by
                have : (tw ++ rs).length = tw.length + rs.length := List.length_append
                rw [List.length_append, List.length_drop]; omega
              obtain ⟨R, o, rfl⟩ : ∃ R o, ad = some ⟨R, o, none⟩ := (S.sl 4 rfl).elim fun F h => h.head (by omega)
              obtain ⟨R2, rfl⟩ : ∃ R, av = some ⟨R, 0, none⟩ := by
                obtain ⟨F1, h1, _⟩ := S.get (i := 3) rfl
                obtain ⟨R, _, _, e, _⟩ := h1.some (by rw [List.length_map]; omega)
                simp only [Value.slice.injEq] at e
                exact ⟨R, e.1⟩
              have HL := Lib.hid hln
              have HSX := Lib.hid hsx
              have hq1 : (q : Int) < (tw.map (·.v)).length := by rw [List.length_map]; omega
              have hn1 : (n : Int) < l.length := by omega
              have hn2 : decide ((l.length : Int) ≤ n) = false := decide_eq_false (by omega)
              have hn3 : decide (l.length ≤ n) = false := decide_eq_false (by omega)
              have HDR := Lib.hid hdr
              have HXE := Lib.hid hxe
              have hq9 : q ≤ tw.length := by omega
              have htl2 : (tw.map (·.v)).length ≤ 40 := by rw [List.length_map]; exact htl
              clear hx hxm hn hln hdr hsx hxe hl40 htl hj
              generalize hvl : (tw.map (·.v)).length = nv at *
              go_wp2_with first
                | go_skip
                | ((with_reducible refine wpList_skip ?hw ?_); (case hw => with_unfolding_all rfl); simp only [Act.put, List.setIfInBounds_toArray, List.set_cons_succ, List.set_cons_zero])
                | ((with_reducible apply wps_load_own tElen S 3 (hj := HJ.out) (q := 0) (u := .int .i64 n)); (case hx => rfl); (case hi => rfl); (case hn => omega); (case hT => decide +kernel); (case hu => rfl))
                | ((with_reducible apply wps_loada_el S 4 (hj := HL.out) (q := 0) (vs := [.int .i64 x.key.at_, .int .i64 x.key.src, .int .i64 x.key.sent, .int .i64 x.key.no]) (m := 4)); (case hx => rfl); (case hT => decide +kernel); (case hi => rfl); (case hn => omega); (case hm => rfl); (case hv => rfl))
                | ((with_reducible apply wps_load_el S 4 (hj := HL.out) (q := 0) (u := .int .i64 x.key.at_)); (case hx => rfl); (case hi => rfl); (case hn => omega); (case hT => decide +kernel); (case hu => rfl))
                | ((with_reducible apply wps_load S 5); (case hx => rfl); (case hi => rfl); (case hT => decide +kernel); (case hu => rfl))
                | (go_at_call 21; obtain ⟨Fz, hF, hBk⟩ := S.lend1 1 rfl rfl; refine Calls.mono (hpush_num _ _ _ _ _ _ _ hF HXE.out HSX.out hrl2) ?_; rintro e wz ⟨rfl, T⟩; replace S := hBk _ _ rfl T; clear hBk hF T; simp only [List.set_cons_succ, List.set_cons_zero] at S)
                | ((with_reducible refine tot_done ?ht ?_); (case ht => kernel_rfl))
                | ((with_reducible apply wps_text S); (case hm => kernel_rfl); (case hB => decide +kernel); clear S; intro wz S)
                | ((with_reducible apply wps_boxa S); (case hx => rfl); clear S; intro bz wz S)
                | ((with_reducible apply wps_box1 (v := .int _ _) S); (case hx => rfl); (case h1 => rfl); clear S; intro bz wz S)
                | ((with_reducible apply wps_box1 (v := .bool _) S); (case hx => rfl); (case h1 => rfl); clear S; intro bz wz S)
                | ((with_reducible apply wps_box1 (v := .slice _ _ _) S); (case hx => rfl); (case h1 => rfl); clear S; intro bz wz S)
                | ((with_reducible apply wps_box1 (v := .pointer _) S); (case hx => rfl); (case h1 => rfl); clear S; intro bz wz S)
                | ((with_reducible apply wps_box1 (v := .map _) S); (case hx => rfl); (case h1 => rfl); clear S; intro bz wz S)
                | ((with_reducible apply wps_box1 (v := .string _) S); (case hx => rfl); (case h1 => rfl); clear S; intro bz wz S)
                | ((with_reducible apply wps_box1 (v := .func _ _ _) S); (case hx => rfl); (case h1 => rfl); clear S; intro bz wz S)
                | ((with_reducible apply wps_alloc1 (E := 3) S); (case hz => exact Try.zeroValue3); (case h1 => rfl); clear S; intro bz wz S)
                | ((with_reducible apply wps_alloc1 (E := 4) S); (case hz => exact Try.zeroValue4); (case h1 => rfl); clear S; intro bz wz S)
                | ((with_reducible apply wps_alloca (E := 28) S); (case hz => exact Try.zeroValue28); clear S; intro bz wz S)
                | ((with_reducible apply wps_load S 0); (case hx => rfl); (case hi => rfl); (case hT => decide +kernel); (case hu => rfl))
                | ((with_reducible apply wps_loada (T := 28) (k := 4) S 0); (case hx => rfl); (case hi => rfl); (case hT => decide +kernel); (case hk => exact Nat.le_of_ble_eq_true rfl))
              go_roundw
              case rel => exact ⟨q, by omega, by go_num, by rw [HDR.out, List.cons_append]; exact S⟩
              case measure => first | (simp [intOf]; done) | (simp [intOf]; omega)
end Go.Proofs.Ytcbdacmdmaoegaa
