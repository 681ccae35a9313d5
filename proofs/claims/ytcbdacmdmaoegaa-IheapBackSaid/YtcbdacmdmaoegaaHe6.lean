import Derived.Test.YtcbdacmdmaoegaaHe5
/- The walks of a heap's Pop and Batch. -/
namespace Go.Proofs.Ytcbdacmdmaoegaa
open Go.RowKit Reg Mem

theorem hfirst_nil (B : Nat) (w : World) (F : Nat → Prop) (h : (heapA B []).at_ w F) :
    Calls Try.prog 26 #[.pointer (some ⟨B, 0, none⟩)] w fun e w' => e = .returned (.tuple #[.agg #[.int .i64 0, .int .i64 0, .int .i64 0, .int .i64 0], .int .i64 0, .int .i64 14]) ∧ Below w.heap.size w w' := hfirst_calls B [] w F h
theorem hfirst_cons (B : Nat) (r : Row) (s : List Row) (w : World) (F : Nat → Prop) (h : (heapA B (r :: s)).at_ w F) :
    Calls Try.prog 26 #[.pointer (some ⟨B, 0, none⟩)] w fun e w' => e = .returned (.tuple #[.agg #[.int .i64 r.key.at_, .int .i64 r.key.src, .int .i64 r.key.sent, .int .i64 r.key.no], .int .i64 r.v, .int .i64 0]) ∧ Below w.heap.size w w' := hfirst_calls B (r :: s) w F h
set_option maxHeartbeats 1000000 in
set_option maxRecDepth 100000 in
theorem hpop_calls (B : Nat) (s : List Row) (w : World) (F : Nat → Prop) (h : (heapA B s).at_ w F) (hs : HSorted s) (hmax : s.length ≤ 4294967296) :
    Calls Try.prog 27 #[.pointer (some ⟨B, 0, none⟩)] w fun e w' => e = .returned (firstVal s) ∧ St F w w' [heapA B s.tail] := by
  have S := St.one w h
  clear h
  cases s with
  | nil =>
    go_enter Try.func27, Try.ntmps27
    go_wp2_with first
      | (go_at_call 26; refine Calls.mono (hfirst_nil _ _ _ (S.get (i := 1) rfl).choose_spec) ?_; rintro e wz ⟨rfl, hE⟩; replace S := S.ext (Keep.of_below hE); clear hE)
      | ((with_reducible apply wps_storea (T := 28) S 0 (vs := [.int .i64 0, .int .i64 0, .int .i64 0, .int .i64 0]) (m := 4)); (case hx => rfl); (case hy => rfl); (case hi => rfl); (case hT => decide +kernel); (case hm => rfl); (case h1 => rfl); (case hn => exact Nat.le_of_ble_eq_true rfl); clear S; intro wz S; simp only [List.set_cons_zero, List.set_cons_succ, setAll, List.setIfInBounds_toArray] at S)
      | ((with_reducible refine tot_done ?ht ?_); (case ht => kernel_rfl))
      | ((with_reducible apply wps_alloca (E := 28) S); (case hz => exact Try.zeroValue28); clear S; intro bz wz S)
      | ((with_reducible apply wps_loada (T := 28) (k := 4) S 0); (case hx => rfl); (case hi => rfl); (case hT => decide +kernel); (case hk => exact Nat.le_of_ble_eq_true rfl))
      | ((with_reducible apply wps_loada (T := 28) (k := 4) S 1); (case hx => rfl); (case hi => rfl); (case hT => decide +kernel); (case hk => exact Nat.le_of_ble_eq_true rfl))
      | ((with_reducible apply wps_loada (T := 28) (k := 4) S 2); (case hx => rfl); (case hi => rfl); (case hT => decide +kernel); (case hk => exact Nat.le_of_ble_eq_true rfl))
      | ((with_reducible apply wps_loada (T := 28) (k := 4) S 3); (case hx => rfl); (case hi => rfl); (case hT => decide +kernel); (case hk => exact Nat.le_of_ble_eq_true rfl))
    (try simp only [Exit.inBlock, Exit.then]); refine bodyPost_ret (results3 rfl (S.resA 0 rfl rfl (by kernel_rfl)) (res_tmp rfl) (res_tmp rfl)) rfl ?_
    exact ⟨rfl, S.pick [1] rfl⟩
  | cons r s =>
    have HPH := Lib.hid (pulled_head hs)
    go_enter Try.func27, Try.ntmps27
    go_wp2_with first
      | (go_at_call 26; refine Calls.mono (hfirst_cons _ _ _ _ _ (S.get (i := 1) rfl).choose_spec) ?_; rintro e wz ⟨rfl, hE⟩; replace S := S.ext (Keep.of_below hE); clear hE)
      | ((with_reducible apply wps_storea (T := 28) S 0 (vs := [.int .i64 r.key.at_, .int .i64 r.key.src, .int .i64 r.key.sent, .int .i64 r.key.no]) (m := 4)); (case hx => rfl); (case hy => rfl); (case hi => rfl); (case hT => decide +kernel); (case hm => rfl); (case h1 => rfl); (case hn => exact Nat.le_of_ble_eq_true rfl); clear S; intro wz S; simp only [List.set_cons_zero, List.set_cons_succ, setAll, List.setIfInBounds_toArray] at S)
      | (go_at_call 20; obtain ⟨Fz, hF, hBk⟩ := S.lend1 1 rfl rfl; refine Calls.mono (hpull_calls _ _ r.key _ _ hF hmax) ?_; rintro e wz ⟨rfl, T⟩; rw [HPH.out] at T; replace S := hBk _ _ rfl T; clear hBk hF T; simp only [List.set_cons_succ, List.set_cons_zero] at S)
      | ((with_reducible refine tot_done ?ht ?_); (case ht => kernel_rfl))
      | ((with_reducible apply wps_alloca (E := 28) S); (case hz => exact Try.zeroValue28); clear S; intro bz wz S)
      | ((with_reducible apply wps_loada (T := 28) (k := 4) S 0); (case hx => rfl); (case hi => rfl); (case hT => decide +kernel); (case hk => exact Nat.le_of_ble_eq_true rfl))
      | ((with_reducible apply wps_loada (T := 28) (k := 4) S 1); (case hx => rfl); (case hi => rfl); (case hT => decide +kernel); (case hk => exact Nat.le_of_ble_eq_true rfl))
      | ((with_reducible apply wps_loada (T := 28) (k := 4) S 2); (case hx => rfl); (case hi => rfl); (case hT => decide +kernel); (case hk => exact Nat.le_of_ble_eq_true rfl))
      | ((with_reducible apply wps_loada (T := 28) (k := 4) S 3); (case hx => rfl); (case hi => rfl); (case hT => decide +kernel); (case hk => exact Nat.le_of_ble_eq_true rfl))
    (try simp only [Exit.inBlock, Exit.then]); refine bodyPost_ret (results3 rfl (S.resA 0 rfl rfl (by kernel_rfl)) (res_tmp rfl) (res_tmp rfl)) rfl ?_
    exact ⟨rfl, S.pick [1] rfl⟩
theorem hpop_cons (B : Nat) (r : Row) (s : List Row) (w : World) (F : Nat → Prop) (h : (heapA B (r :: s)).at_ w F) (hs : HSorted (r :: s)) (hmax : (r :: s).length ≤ 4294967296) :
    Calls Try.prog 27 #[.pointer (some ⟨B, 0, none⟩)] w fun e w' => e = .returned (.tuple #[.agg #[.int .i64 r.key.at_, .int .i64 r.key.src, .int .i64 r.key.sent, .int .i64 r.key.no], .int .i64 r.v, .int .i64 0]) ∧ St F w w' [heapA B s] := hpop_calls B (r :: s) w F h hs hmax
def tE (x : Thing) : List Value := [.int .i64 x]
theorem tElen : ∀ x, (tE x).length = 1 := fun _ => rfl
theorem tEone : ∀ x, ∀ u ∈ tE x, u.oneCell' = true := fun x u hu => by simp only [tE, List.mem_cons, List.not_mem_nil, or_false] at hu; rcases hu with rfl <;> rfl
set_option maxRecDepth 100000 in
theorem elem_Tg : Elem Try.prog 61 3 1 8 := ⟨_, .int .i64 0, Try.underlying61, rfl, by kernel_rfl, by kernel_rfl, by kernel_rfl, by kernel_rfl, by omega⟩
def same_at (t : Int) (r : Row) : Bool := r.key.at_ == t
def slen : Value → Nat
  | .slice _ n _ => n
  | _ => 0
theorem hbatch_none (B : Nat) (w : World) (F : Nat → Prop) (h : (heapA B []).at_ w F) :
    Calls Try.prog 28 #[.pointer (some ⟨B, 0, none⟩)] w fun e w' => e = .returned (.tuple #[.int .i64 0, .slice none 0 0, .int .i64 14]) ∧ St F w w' [heapA B []] := by
  have S := St.one w h
  clear h
  go_enter Try.func28, Try.ntmps28
  go_wp2_with first
    | go_skip
    | ((with_reducible refine wpList_skip ?hw ?_); (case hw => with_unfolding_all rfl); simp only [Act.put, List.setIfInBounds_toArray, List.set_cons_succ, List.set_cons_zero])
    | (go_at_call 26; refine Calls.mono (hfirst_nil _ _ _ (S.get (i := 0) rfl).choose_spec) ?_; rintro e wz ⟨rfl, hE⟩; replace S := S.ext (Keep.of_below hE); clear hE)
    | ((with_reducible apply wps_storea (T := 28) S 0 (vs := [.int .i64 0, .int .i64 0, .int .i64 0, .int .i64 0]) (m := 4)); (case hx => rfl); (case hy => rfl); (case hi => rfl); (case hT => decide +kernel); (case hm => rfl); (case h1 => rfl); (case hn => exact Nat.le_of_ble_eq_true rfl); clear S; intro wz S; simp only [List.set_cons_zero, List.set_cons_succ, setAll, List.setIfInBounds_toArray] at S)
    | ((with_reducible refine tot_done ?ht ?_); (case ht => kernel_rfl))
    | ((with_reducible apply wps_text S); (case hm => kernel_rfl); (case hB => decide +kernel); clear S; intro wz S)
    | ((with_reducible apply wps_alloca (E := 28) S); (case hz => exact Try.zeroValue28); clear S; intro bz wz S)
    | ((with_reducible apply wps_load S 0); (case hx => rfl); (case hi => rfl); (case hT => decide +kernel); (case hu => rfl))
    | ((with_reducible apply wps_load S 1); (case hx => rfl); (case hi => rfl); (case hT => decide +kernel); (case hu => rfl))
    | ((with_reducible apply wps_load S 2); (case hx => rfl); (case hi => rfl); (case hT => decide +kernel); (case hu => rfl))
    | ((with_reducible apply wps_load S 3); (case hx => rfl); (case hi => rfl); (case hT => decide +kernel); (case hu => rfl))
  (try simp only [Exit.inBlock, Exit.then]); refine bodyPost_ret (results3 rfl (res_tmp rfl) (res_tmp rfl) (res_tmp rfl)) rfl ?_
  exact ⟨rfl, S.pick [1] rfl⟩
def BatchRel (F : Nat → Prop) (B b5 : Nat) (kc : Array Value) (t : Int) (s : List Row) (w : World) (m : Value) (wr : World) : Prop :=
  ∃ rs rest, Hid (s.takeWhile (same_at t) = rs ++ rest.takeWhile (same_at t)) ∧ Hid (s.dropWhile (same_at t) = rest.dropWhile (same_at t)) ∧ rs.length + rest.length = s.length ∧ Hid (HSorted rest) ∧
    St F w wr [heapA B rest, Own 3 tE 1 m (rs.map (·.v)), Blk false b5 kc 28]
def BatchPost (F : Nat → Prop) (B : Nat) (t : Int) (s : List Row) (w : World) (e : Ending) (w' : World) : Prop :=
  ∃ v, e = .returned (.tuple #[.int .i64 t, v, .int .i64 0]) ∧ St F w w' [heapA B (s.dropWhile (same_at t)), Own 3 tE 1 v ((s.takeWhile (same_at t)).map (·.v))]
set_option maxHeartbeats 1000000 in
set_option maxRecDepth 100000 in
theorem hbatch_some (B : Nat) (r : Row) (s : List Row) (w : World) (F : Nat → Prop) (h : (heapA B (r :: s)).at_ w F) (hs : HSorted (r :: s)) (hmax : (r :: s).length ≤ 4294967296) :
    Calls Try.prog 28 #[.pointer (some ⟨B, 0, none⟩)] w (BatchPost F B r.key.at_ (r :: s) w) := by
  have S := St.one w h
  clear h
  have Hs := Lib.hid hs
  clear hs
  go_enter Try.func28, Try.ntmps28
  go_wp2_with first
    | go_skip
    | ((with_reducible refine wpList_skip ?hw ?_); (case hw => with_unfolding_all rfl); simp only [Act.put, List.setIfInBounds_toArray, List.set_cons_succ, List.set_cons_zero])
    | (go_at_call 26; refine Calls.mono (hfirst_cons _ _ _ _ _ (S.get (i := 0) rfl).choose_spec) ?_; rintro e wz ⟨rfl, hE⟩; replace S := S.ext (Keep.of_below hE); clear hE)
    | ((with_reducible apply wps_storea (T := 28) S 0 (vs := [.int .i64 r.key.at_, .int .i64 r.key.src, .int .i64 r.key.sent, .int .i64 r.key.no]) (m := 4)); (case hx => rfl); (case hy => rfl); (case hi => rfl); (case hT => decide +kernel); (case hm => rfl); (case h1 => rfl); (case hn => exact Nat.le_of_ble_eq_true rfl); clear S; intro wz S; simp only [List.set_cons_zero, List.set_cons_succ, setAll, List.setIfInBounds_toArray] at S)
    | ((with_reducible refine tot_done ?ht ?_); (case ht => kernel_rfl))
    | ((with_reducible apply wps_text S); (case hm => kernel_rfl); (case hB => decide +kernel); clear S; intro wz S)
    | ((with_reducible apply wps_alloca (E := 28) S); (case hz => exact Try.zeroValue28); clear S; intro bz wz S)
    | ((with_reducible apply wps_load S 0); (case hx => rfl); (case hi => rfl); (case hT => decide +kernel); (case hu => rfl))
    | ((with_reducible apply wps_load S 1); (case hx => rfl); (case hi => rfl); (case hT => decide +kernel); (case hu => rfl))
    | ((with_reducible apply wps_load S 2); (case hx => rfl); (case hi => rfl); (case hT => decide +kernel); (case hu => rfl))
    | ((with_reducible apply wps_load S 3); (case hx => rfl); (case hi => rfl); (case hT => decide +kernel); (case hu => rfl))
  generalize hl0 : r :: s = l at *
  go_loopw [3] (fun m wr => BatchRel F B bz #[.int .i64 r.key.at_, .int .i64 r.key.src, .int .i64 r.key.sent, .int .i64 r.key.no] r.key.at_ l w m wr) (fun m _ => l.length - slen m)
  case atStart => exact ⟨[], l, rfl, rfl, by simp, Hs, ((S.nil 3 tE 1).pick [2, 0, 1] rfl)⟩
  case round =>
    clear S
    obtain ⟨rs, rest, Htw, Hdw, hlen, Hsr, S⟩ := hrel
    obtain ⟨M, v, rows, ho, hp, hsr, S2⟩ := heap_open S
    clear S
    have S := S2
    clear S2
    obtain ⟨ad, cp, rfl, _⟩ := (S.ownsl hcells 1 rfl).elim fun _ h => h.form
    obtain ⟨am, cm, rfl, _⟩ := (S.ownsl tElen 3 rfl).elim fun _ h => h.form
    have hpl := hp.length_eq
    simp only [List.length_map] at S ⊢
    cases rest with
    | nil =>
      obtain rfl : rows = [] := hp.eq_nil
      have h00 : decide ((0 : Int) < ([] : List Row).length) = false := by simp
      go_wp2_with first
        | go_skip
        | ((with_reducible refine wpList_skip ?hw ?_); (case hw => with_unfolding_all rfl); simp only [Act.put, List.setIfInBounds_toArray, List.set_cons_succ, List.set_cons_zero])
        | ((with_reducible refine tot_done ?ht ?_); (case ht => kernel_rfl))
        | ((with_reducible apply wps_text S); (case hm => kernel_rfl); (case hB => decide +kernel); clear S; intro wz S)
        | ((with_reducible apply wps_alloca (E := 28) S); (case hz => exact Try.zeroValue28); clear S; intro bz wz S)
        | ((with_reducible apply wps_load S 0); (case hx => rfl); (case hi => rfl); (case hT => decide +kernel); (case hu => rfl))
        | ((with_reducible apply wps_load S 1); (case hx => rfl); (case hi => rfl); (case hT => decide +kernel); (case hu => rfl))
        | ((with_reducible apply wps_load S 2); (case hx => rfl); (case hi => rfl); (case hT => decide +kernel); (case hu => rfl))
        | ((with_reducible apply wps_load S 3); (case hx => rfl); (case hi => rfl); (case hT => decide +kernel); (case hu => rfl))
        | ((with_reducible apply wps_load S 4); (case hx => rfl); (case hi => rfl); (case hT => decide +kernel); (case hu => rfl))
      (try simp only [Exit.inBlock, Exit.then]); refine bodyPost_ret (results3 rfl (res_tmp rfl) (res_tmp rfl) (res_tmp rfl)) rfl ?_
      refine ⟨_, rfl, ?_⟩
      rw [Hdw.out, Htw.out]
      simp only [List.takeWhile_nil, List.dropWhile_nil, List.append_nil]
      exact (heap_close S ho hp hsr).pick [0, 1] rfl
    | cons r' rest =>
      have hh : rows[0]? = some r' := by
        obtain ⟨m, hm⟩ : ∃ m, rows[0]? = some m := ⟨_, List.getElem?_eq_getElem (by rw [hpl]; simp)⟩
        have := head_of ho hp hsr hm
        rw [hm]; exact this.symm
      have hpos : (0 : Int) < rows.length := by rw [hpl]; simp
      have hpos2 : 0 < rows.length := by rw [hpl]; simp
      obtain ⟨R, cp2, e, _⟩ := own_head 1 S rfl hpos2
      simp only [Value.slice.injEq] at e
      obtain ⟨rfl, _, rfl⟩ := e
      have Hh := Lib.hid hh
      clear hh
      cases hat : (r'.key.at_ == r.key.at_) with
      | false =>
        go_wp2_with first
          | go_skip
          | ((with_reducible refine wpList_skip ?hw ?_); (case hw => with_unfolding_all rfl); simp only [Act.put, List.setIfInBounds_toArray, List.set_cons_succ, List.set_cons_zero])
          | ((with_reducible apply wps_load_own hcells S 1 (hj := Hh.out) (q := 0) (u := .int .i64 r'.key.at_)); (case hx => rfl); (case hi => rfl); (case hn => omega); (case hT => decide +kernel); (case hu => rfl))
          | ((with_reducible refine tot_done ?ht ?_); (case ht => kernel_rfl))
          | ((with_reducible apply wps_text S); (case hm => kernel_rfl); (case hB => decide +kernel); clear S; intro wz S)
          | ((with_reducible apply wps_alloca (E := 28) S); (case hz => exact Try.zeroValue28); clear S; intro bz wz S)
          | ((with_reducible apply wps_load S 0); (case hx => rfl); (case hi => rfl); (case hT => decide +kernel); (case hu => rfl))
          | ((with_reducible apply wps_load S 1); (case hx => rfl); (case hi => rfl); (case hT => decide +kernel); (case hu => rfl))
          | ((with_reducible apply wps_load S 2); (case hx => rfl); (case hi => rfl); (case hT => decide +kernel); (case hu => rfl))
          | ((with_reducible apply wps_load S 3); (case hx => rfl); (case hi => rfl); (case hT => decide +kernel); (case hu => rfl))
          | ((with_reducible apply wps_load S 4); (case hx => rfl); (case hi => rfl); (case hT => decide +kernel); (case hu => rfl))
        (try simp only [Exit.inBlock, Exit.then]); refine bodyPost_ret (results3 rfl (res_tmp rfl) (res_tmp rfl) (res_tmp rfl)) rfl ?_
        refine ⟨_, rfl, ?_⟩
        rw [Hdw.out, Htw.out]
        have e1 : (r' :: rest).takeWhile (same_at r.key.at_) = [] := by rw [List.takeWhile_cons, if_neg (by simp [same_at, hat])]
        have e2 : (r' :: rest).dropWhile (same_at r.key.at_) = r' :: rest := by rw [List.dropWhile_cons, if_neg (by simp [same_at, hat])]
        rw [e1, e2, List.append_nil]
        exact (heap_close S ho hp hsr).pick [0, 1] rfl
      | true =>
        have Ho := Lib.hid ho
        have Hp := Lib.hid hp
        have Hsr := Lib.hid hsr
        have Hpl := Lib.hid hpl
        clear ho hp hsr hpl
        go_upto_region 5 with first
          | go_skip
          | ((with_reducible refine wpList_skip ?hw ?_); (case hw => with_unfolding_all rfl); simp only [Act.put, List.setIfInBounds_toArray, List.set_cons_succ, List.set_cons_zero])
          | ((with_reducible apply wps_text S); (case hm => kernel_rfl); (case hB => decide +kernel); clear S; intro wz S)
          | ((with_reducible refine tot_done ?ht ?_); (case ht => kernel_rfl))
          | ((with_reducible apply wps_load_own hcells S 1 (hj := Hh.out) (q := 0) (u := .int .i64 r'.key.at_)); (case hx => rfl); (case hi => rfl); (case hn => omega); (case hT => decide +kernel); (case hu => rfl))
          | ((with_reducible apply wps_load S 2); (case hx => rfl); (case hi => rfl); (case hT => decide +kernel); (case hu => rfl))
          | ((with_reducible apply wps_load S 4); (case hx => rfl); (case hi => rfl); (case hT => decide +kernel); (case hu => rfl))
        replace S := heap_close S Ho.out Hp.out Hsr.out
        have hsr2 : HSorted rest := (List.pairwise_cons.1 Hsr.out).2
        have hle : (r' :: rest).length ≤ 4294967296 := by omega
        have hlr : (rs.map (·.v)).length < 4294967296 := by simp at hlen ⊢; omega
        go_wp2_with first
          | go_skip
          | ((with_reducible refine wpList_skip ?hw ?_); (case hw => with_unfolding_all rfl); simp only [Act.put, List.setIfInBounds_toArray, List.set_cons_succ, List.set_cons_zero])
          | (go_at_call 27; obtain ⟨Fz, hF, hBk⟩ := S.lend1 0 rfl rfl; refine Calls.mono (hpop_cons _ _ _ _ _ hF Hsr.out hle) ?_; rintro e wz ⟨rfl, T⟩; replace S := hBk _ _ rfl T; clear hBk hF T; simp only [List.set_cons_zero] at S)
          | ((with_reducible apply wps_storea (T := 28) S 0 (vs := [.int .i64 r'.key.at_, .int .i64 r'.key.src, .int .i64 r'.key.sent, .int .i64 r'.key.no]) (m := 4)); (case hx => rfl); (case hy => rfl); (case hi => rfl); (case hT => decide +kernel); (case hm => rfl); (case h1 => rfl); (case hn => exact Nat.le_of_ble_eq_true rfl); clear S; intro wz S; simp only [List.set_cons_zero, List.set_cons_succ, setAll, List.setIfInBounds_toArray] at S)
          | ((with_reducible apply wps_build11 (T := 61) (E := 3) S); (case hx => rfl); (case hr => intro w; kernel_rfl); clear S; intro bz wz S)
          | ((with_reducible apply wps_append1 elem_Tg tElen tEone (by decide) S 3 (j := 0) (e := r'.v)); (case hx => rfl); (case hy => rfl); (case hi => rfl); (case hj => rfl); (case he => rfl); (case hl => first | omega | (simp; omega)); clear S; intro az nz cz wz hnz S; simp only [List.set_cons_succ, List.set_cons_zero] at S)
          | ((with_reducible refine tot_done ?ht ?_); (case ht => kernel_rfl))
          | ((with_reducible apply wps_text S); (case hm => kernel_rfl); (case hB => decide +kernel); clear S; intro wz S)
          | ((with_reducible apply wps_alloca (E := 28) S); (case hz => exact Try.zeroValue28); clear S; intro bz wz S)
          | ((with_reducible apply wps_load S 0); (case hx => rfl); (case hi => rfl); (case hT => decide +kernel); (case hu => rfl))
          | ((with_reducible apply wps_load S 1); (case hx => rfl); (case hi => rfl); (case hT => decide +kernel); (case hu => rfl))
          | ((with_reducible apply wps_load S 2); (case hx => rfl); (case hi => rfl); (case hT => decide +kernel); (case hu => rfl))
          | ((with_reducible apply wps_load S 3); (case hx => rfl); (case hi => rfl); (case hT => decide +kernel); (case hu => rfl))
        go_roundw
        case rel =>
          refine ⟨rs ++ [r'], rest, ?_, ?_, by simp at hlen ⊢; omega, hsr2, ?_⟩
          · rw [Htw.out, List.takeWhile_cons, if_pos (by simpa [same_at] using hat)]; simp [Hid]
          · rw [Hdw.out, List.dropWhile_cons, if_pos (by simpa [same_at] using hat)]; rfl
          · rw [List.map_append]; exact S.pick [2, 3, 4] rfl
        case measure => have h1 := hnz.out; rw [List.length_map] at h1; have h2 : (r' :: rest).length = rest.length + 1 := rfl; simp only [slen]; omega
end Go.Proofs.Ytcbdacmdmaoegaa
