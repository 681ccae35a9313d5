import Derived.Test.YtcnfionnnpnplaaGreatDoorR29
/- The walks of a simulation's of, become, Next, States. -/
namespace Go.Proofs.YtcnfionnnpnplaaGreatDoor
open Go Go.RowKit Reg Mem

/-- A simulation that is only read. -/
theorem simR_st {X R : Nat} {s : SimE} {w : World} {F : Nat → Prop} (h : (simA X R s).at_ w F) :
    ∃ v1 v2 Bs, Bs.length = s.ws.length ∧ St (fun _ => False) w w [rd (stars (List.zipWith heapA Bs s.ws)), Sl true hpE 1 v2 Bs, Sl true State.cells 4 v1 s.ss, Blk true X #[v1, .pointer (some ⟨R, 0, none⟩), v2, .int .i64 s.many, .int .i64 s.peak] 145] := by
  obtain ⟨⟨v1, v2, Bs⟩, F1, F2, ⟨h1, _⟩, ⟨F3, F4, h3, ⟨F5, F6, h5, ⟨F7, F8, h7, h8, _, _⟩, _, _⟩, _, _⟩, _, _⟩ := h
  refine ⟨v1, v2, Bs, h1, ?_⟩
  have S1 : St (fun _ => False) w w [Blk true X #[v1, .pointer (some ⟨R, 0, none⟩), v2, .int .i64 s.many, .int .i64 s.peak] 145] := (St.init _ w).share rfl rfl h3
  have S2 := S1.share (A := Sl true State.cells 4 v1 s.ss) rfl rfl (own_sl (sh := true) sacells h5)
  have S3 := S2.share (A := Sl true hpE 1 v2 Bs) rfl rfl (own_sl (sh := true) hpElen h7)
  exact S3.share (A := rd (stars (List.zipWith heapA Bs s.ws))) rfl rfl h8
def optAt : Option (Int × Nat) → Int
  | none => 0
  | some (a, _) => a
def optLp : Option (Int × Nat) → Int
  | none => 0
  | some (_, j) => j
theorem nextFrom_snoc : ∀ (l : List (List Row)) (i : Nat) (b : Option (Int × Nat)) (s : List Row), nextFrom i (l ++ [s]) b = better (i + l.length) s (nextFrom i l b)
  | [], _, _, _ => rfl
  | x :: l, i, b, s => by
    show nextFrom (i + 1) (l ++ [s]) (better i x b) = _
    rw [nextFrom_snoc l (i + 1)]
    show better (i + 1 + l.length) s _ = better (i + (l.length + 1)) s _
    rw [show i + 1 + l.length = i + (l.length + 1) by omega]
    rfl
def NextRel (X : Nat) (cs : Array Value) (v2 : Value) (Bs : List Nat) (ws : List (List Row)) (w : World) (a b c i : Value) (wr : World) : Prop :=
  ∃ j : Nat, j ≤ ws.length ∧ i = .int .i64 j ∧ (∃ o : Option (Int × Nat), Hid (nextFrom 0 (ws.take j) none = o) ∧ a = .int .i64 (optAt o) ∧ b = .int .i64 (optLp o) ∧ c = .bool o.isSome) ∧
    St (fun _ => False) w wr [rd (stars (List.zipWith heapA Bs ws)), Sl true hpE 1 v2 Bs, Blk true X cs 145]
set_option maxRecDepth 100000 in
set_option maxHeartbeats 4000000 in
theorem next_calls (X R : Nat) (s : SimE) (w : World) (F : Nat → Prop) (h : (simA X R s).at_ w F) (hn : s.ws.length ≤ 65536) (hn0 : 0 < s.ws.length) :
    Calls Tryz.prog 72 #[.pointer (some ⟨X, 0, none⟩)] w fun e w' => e = .returned (.tuple #[.int .i64 (optAt (nextE s.ws)), .int .i64 (optLp (nextE s.ws)), .bool (nextE s.ws).isSome]) ∧ Below w.heap.size w w' := by
  obtain ⟨v1, v2, Bs, hlen, S⟩ := simR_st h
  clear h
  replace S := S.pick [0, 1, 3] rfl
  simp only [pick, nth] at S
  obtain ⟨ap, cpp, rfl, _⟩ := (S.sl 1 rfl).elim fun _ h => h.form
  generalize s.ws = ws at *
  obtain ⟨R2, o2, rfl⟩ : ∃ R o, ap = some ⟨R, o, none⟩ := (S.sl 1 rfl).elim fun F h => h.head (by omega)
  have HLEN := Lib.hid hlen
  have hnB : (Bs.length : Int) ≤ 65536 := by omega
  clear hlen
  go_enter Tryz.func72, Tryz.ntmps72
  go_wp2_with first | go_skip | ((with_reducible refine wpList_skip ?hw ?_); (case hw => with_unfolding_all rfl); simp only [Act.put, List.setIfInBounds_toArray, List.set_cons_succ, List.set_cons_zero]) | ((with_reducible refine tot_done ?ht ?_); (case ht => kernel_rfl)) | ((with_reducible apply wps_alloca (E := 54) S); (case hz => exact Tryz.zeroValue54); clear S; intro bz wz S) | ((with_reducible apply wps_alloca (E := 56) S); (case hz => exact Tryz.zeroValue56); clear S; intro bz wz S) | ((with_reducible apply wps_load S 0); (case hx | hi | hu => rfl); (case hT => decide +kernel)) | ((with_reducible apply wps_load S 1); (case hx | hi | hu => rfl); (case hT => decide +kernel)) | ((with_reducible apply wps_load S 2); (case hx | hi | hu => rfl); (case hT => decide +kernel))
  go_loopw [2, 3, 4, 17] (fun a b c i wr => NextRel X #[v1, .pointer (some ⟨R, 0, none⟩), .slice (some ⟨R2, o2, none⟩) Bs.length cpp, .int .i64 s.many, .int .i64 s.peak] (.slice (some ⟨R2, o2, none⟩) Bs.length cpp) Bs ws w a b c i wr) (fun _ _ _ i _ => ws.length - (intOf i).toNat)
  case atStart => exact ⟨0, Nat.zero_le _, rfl, ⟨none, rfl, rfl, rfl, rfl⟩, S⟩
  case round =>
    clear S
    obtain ⟨j, hj, rfl, ⟨o, Ho, rfl, rfl, rfl⟩, S⟩ := hrel
    by_cases hlt : j < ws.length
    · have hlt2 : (j : Int) < Bs.length := by have := HLEN.out; omega
      obtain ⟨B, hBd⟩ : ∃ B, Bs[j]? = some B := ⟨_, List.getElem?_eq_getElem (by have := HLEN.out; omega)⟩
      obtain ⟨h, hh⟩ : ∃ h, ws[j]? = some h := ⟨_, List.getElem?_eq_getElem hlt⟩
      have HK := Lib.hid (zipWith_at hBd hh)
      have HN : Hid (nextFrom 0 (ws.take (j + 1)) none = better j h o) := Lib.hid (by
        rw [take_snoc hh, nextFrom_snoc, Ho.out, Nat.zero_add, List.length_take, Nat.min_eq_left (Nat.le_of_lt hlt)])
      have HBd := Lib.hid hBd
      clear hBd
      clear hh
      cases h with
      | nil =>
        go_wp2_with first | go_skip | ((with_reducible refine wpList_skip ?hw ?_); (case hw => with_unfolding_all rfl); simp only [Act.put, List.setIfInBounds_toArray, List.set_cons_succ, List.set_cons_zero]) | ((with_reducible apply wps_load_el S 1 (hj := HBd.out) (q := 0) (u := (.pointer (some ⟨B, 0, none⟩)))); (case hx | hi => rfl); (case hn => omega); (case hu => rfl); (case hT => decide +kernel)) | (go_at_call 103; refine Calls.mono (hfirst_nil _ _ _ (star_get (S.get (i := 0) rfl) HK.out).choose_spec) ?_; rintro e wz ⟨rfl, hE⟩; replace S := S.ext (Keep.of_below hE); clear hE) | ((with_reducible apply wps_storea (T := 54) S 1 (vs := [.int .i64 0, .int .i64 0, .int .i64 0, .int .i64 0]) (m := 4)); (case hx | hy | hi | hm | h1 => rfl); (case hn => exact Nat.le_of_ble_eq_true rfl); (case hT => decide +kernel); clear S; intro wz S; simp only [List.set_cons_zero, List.set_cons_succ, setAll, List.setIfInBounds_toArray] at S) | ((with_reducible apply wps_storea (T := 56) S 0 (vs := [.int .i64 0, .int .i64 0, .int .i64 0, .int .i64 0, .int .i64 0, .int .i64 0, .int .i64 0]) (m := 7)); (case hx | hy | hi | hm | h1 => rfl); (case hn => exact Nat.le_of_ble_eq_true rfl); (case hT => decide +kernel); clear S; intro wz S; simp only [List.set_cons_zero, List.set_cons_succ, setAll, List.setIfInBounds_toArray] at S) | ((with_reducible refine tot_done ?ht ?_); (case ht => kernel_rfl)) | ((with_reducible apply wps_alloca (E := 54) S); (case hz => exact Tryz.zeroValue54); clear S; intro bz wz S) | ((with_reducible apply wps_alloca (E := 56) S); (case hz => exact Tryz.zeroValue56); clear S; intro bz wz S) | ((with_reducible apply wps_load S 0); (case hx | hi | hu => rfl); (case hT => decide +kernel)) | ((with_reducible apply wps_load S 1); (case hx | hi | hu => rfl); (case hT => decide +kernel)) | ((with_reducible apply wps_load S 2); (case hx | hi | hu => rfl); (case hT => decide +kernel)) | ((with_reducible apply wps_load S 3); (case hx | hi | hu => rfl); (case hT => decide +kernel)) | ((with_reducible apply wps_load S 4); (case hx | hi | hu => rfl); (case hT => decide +kernel))
        go_roundw
        case rel => exact ⟨j + 1, by omega, by go_num, ⟨o, HN.out, rfl, rfl, rfl⟩, S.pick [2, 3, 4] rfl⟩
        case measure => simp [intOf]; omega
      | cons r t =>
        cases o with
        | none =>
          go_wp2_with first | go_skip | ((with_reducible refine wpList_skip ?hw ?_); (case hw => with_unfolding_all rfl); simp only [Act.put, List.setIfInBounds_toArray, List.set_cons_succ, List.set_cons_zero]) | ((with_reducible apply wps_load_el S 1 (hj := HBd.out) (q := 0) (u := (.pointer (some ⟨B, 0, none⟩)))); (case hx | hi => rfl); (case hn => omega); (case hu => rfl); (case hT => decide +kernel)) | (go_at_call 103; refine Calls.mono (hfirst_cons _ _ _ _ _ (star_get (S.get (i := 0) rfl) HK.out).choose_spec) ?_; rintro e wz ⟨rfl, hE⟩; replace S := S.ext (Keep.of_below hE); clear hE) | ((with_reducible apply wps_storea (T := 54) S 1 (vs := [.int .i64 r.key.at_, .int .i64 r.key.src, .int .i64 r.key.sent, .int .i64 r.key.no]) (m := 4)); (case hx | hy | hi | hm | h1 => rfl); (case hn => exact Nat.le_of_ble_eq_true rfl); (case hT => decide +kernel); clear S; intro wz S; simp only [List.set_cons_zero, List.set_cons_succ, setAll, List.setIfInBounds_toArray] at S) | ((with_reducible apply wps_storea (T := 56) S 0 (vs := [.int .i64 r.v.key.at_, .int .i64 r.v.key.src, .int .i64 r.v.key.sent, .int .i64 r.v.key.no, .int .i64 r.v.dst, .int .i64 r.v.kind, .int .i64 r.v.data]) (m := 7)); (case hx | hy | hi | hm | h1 => rfl); (case hn => exact Nat.le_of_ble_eq_true rfl); (case hT => decide +kernel); clear S; intro wz S; simp only [List.set_cons_zero, List.set_cons_succ, setAll, List.setIfInBounds_toArray] at S) | ((with_reducible refine tot_done ?ht ?_); (case ht => kernel_rfl)) | ((with_reducible apply wps_alloca (E := 54) S); (case hz => exact Tryz.zeroValue54); clear S; intro bz wz S) | ((with_reducible apply wps_alloca (E := 56) S); (case hz => exact Tryz.zeroValue56); clear S; intro bz wz S) | ((with_reducible apply wps_load S 0); (case hx | hi | hu => rfl); (case hT => decide +kernel)) | ((with_reducible apply wps_load S 1); (case hx | hi | hu => rfl); (case hT => decide +kernel)) | ((with_reducible apply wps_load S 2); (case hx | hi | hu => rfl); (case hT => decide +kernel)) | ((with_reducible apply wps_load S 3); (case hx | hi | hu => rfl); (case hT => decide +kernel)) | ((with_reducible apply wps_load S 4); (case hx | hi | hu => rfl); (case hT => decide +kernel))
          go_roundw
          case rel => exact ⟨j + 1, by omega, by go_num, ⟨some (r.key.at_, j), HN.out, rfl, rfl, rfl⟩, S.pick [2, 3, 4] rfl⟩
          case measure => simp [intOf]; omega
        | some p =>
          obtain ⟨a, q⟩ := p
          simp only [optAt, optLp, Option.isSome_some] at *
          by_cases ha : r.key.at_ < a
          · have HN2 : Hid (better j (r :: t) (some (a, q)) = some (r.key.at_, j)) := Lib.hid (by show (if r.key.at_ < a then _ else _) = _; rw [if_pos ha])
            go_wp2_with first | go_skip | ((with_reducible refine wpList_skip ?hw ?_); (case hw => with_unfolding_all rfl); simp only [Act.put, List.setIfInBounds_toArray, List.set_cons_succ, List.set_cons_zero]) | ((with_reducible apply wps_load_el S 1 (hj := HBd.out) (q := 0) (u := (.pointer (some ⟨B, 0, none⟩)))); (case hx | hi => rfl); (case hn => omega); (case hu => rfl); (case hT => decide +kernel)) | (go_at_call 103; refine Calls.mono (hfirst_cons _ _ _ _ _ (star_get (S.get (i := 0) rfl) HK.out).choose_spec) ?_; rintro e wz ⟨rfl, hE⟩; replace S := S.ext (Keep.of_below hE); clear hE) | ((with_reducible apply wps_storea (T := 54) S 1 (vs := [.int .i64 r.key.at_, .int .i64 r.key.src, .int .i64 r.key.sent, .int .i64 r.key.no]) (m := 4)); (case hx | hy | hi | hm | h1 => rfl); (case hn => exact Nat.le_of_ble_eq_true rfl); (case hT => decide +kernel); clear S; intro wz S; simp only [List.set_cons_zero, List.set_cons_succ, setAll, List.setIfInBounds_toArray] at S) | ((with_reducible apply wps_storea (T := 56) S 0 (vs := [.int .i64 r.v.key.at_, .int .i64 r.v.key.src, .int .i64 r.v.key.sent, .int .i64 r.v.key.no, .int .i64 r.v.dst, .int .i64 r.v.kind, .int .i64 r.v.data]) (m := 7)); (case hx | hy | hi | hm | h1 => rfl); (case hn => exact Nat.le_of_ble_eq_true rfl); (case hT => decide +kernel); clear S; intro wz S; simp only [List.set_cons_zero, List.set_cons_succ, setAll, List.setIfInBounds_toArray] at S) | ((with_reducible refine tot_done ?ht ?_); (case ht => kernel_rfl)) | ((with_reducible apply wps_alloca (E := 54) S); (case hz => exact Tryz.zeroValue54); clear S; intro bz wz S) | ((with_reducible apply wps_alloca (E := 56) S); (case hz => exact Tryz.zeroValue56); clear S; intro bz wz S) | ((with_reducible apply wps_load S 0); (case hx | hi | hu => rfl); (case hT => decide +kernel)) | ((with_reducible apply wps_load S 1); (case hx | hi | hu => rfl); (case hT => decide +kernel)) | ((with_reducible apply wps_load S 2); (case hx | hi | hu => rfl); (case hT => decide +kernel)) | ((with_reducible apply wps_load S 3); (case hx | hi | hu => rfl); (case hT => decide +kernel)) | ((with_reducible apply wps_load S 4); (case hx | hi | hu => rfl); (case hT => decide +kernel))
            go_roundw
            case rel => exact ⟨j + 1, by omega, by go_num, ⟨some (r.key.at_, j), HN.out.trans HN2.out, rfl, rfl, rfl⟩, S.pick [2, 3, 4] rfl⟩
            case measure => simp [intOf]; omega
          · have HN2 : Hid (better j (r :: t) (some (a, q)) = some (a, q)) := Lib.hid (by show (if r.key.at_ < a then _ else _) = _; rw [if_neg ha])
            go_wp2_with first | go_skip | ((with_reducible refine wpList_skip ?hw ?_); (case hw => with_unfolding_all rfl); simp only [Act.put, List.setIfInBounds_toArray, List.set_cons_succ, List.set_cons_zero]) | ((with_reducible apply wps_load_el S 1 (hj := HBd.out) (q := 0) (u := (.pointer (some ⟨B, 0, none⟩)))); (case hx | hi => rfl); (case hn => omega); (case hu => rfl); (case hT => decide +kernel)) | (go_at_call 103; refine Calls.mono (hfirst_cons _ _ _ _ _ (star_get (S.get (i := 0) rfl) HK.out).choose_spec) ?_; rintro e wz ⟨rfl, hE⟩; replace S := S.ext (Keep.of_below hE); clear hE) | ((with_reducible apply wps_storea (T := 54) S 1 (vs := [.int .i64 r.key.at_, .int .i64 r.key.src, .int .i64 r.key.sent, .int .i64 r.key.no]) (m := 4)); (case hx | hy | hi | hm | h1 => rfl); (case hn => exact Nat.le_of_ble_eq_true rfl); (case hT => decide +kernel); clear S; intro wz S; simp only [List.set_cons_zero, List.set_cons_succ, setAll, List.setIfInBounds_toArray] at S) | ((with_reducible apply wps_storea (T := 56) S 0 (vs := [.int .i64 r.v.key.at_, .int .i64 r.v.key.src, .int .i64 r.v.key.sent, .int .i64 r.v.key.no, .int .i64 r.v.dst, .int .i64 r.v.kind, .int .i64 r.v.data]) (m := 7)); (case hx | hy | hi | hm | h1 => rfl); (case hn => exact Nat.le_of_ble_eq_true rfl); (case hT => decide +kernel); clear S; intro wz S; simp only [List.set_cons_zero, List.set_cons_succ, setAll, List.setIfInBounds_toArray] at S) | ((with_reducible refine tot_done ?ht ?_); (case ht => kernel_rfl)) | ((with_reducible apply wps_alloca (E := 54) S); (case hz => exact Tryz.zeroValue54); clear S; intro bz wz S) | ((with_reducible apply wps_alloca (E := 56) S); (case hz => exact Tryz.zeroValue56); clear S; intro bz wz S) | ((with_reducible apply wps_load S 0); (case hx | hi | hu => rfl); (case hT => decide +kernel)) | ((with_reducible apply wps_load S 1); (case hx | hi | hu => rfl); (case hT => decide +kernel)) | ((with_reducible apply wps_load S 2); (case hx | hi | hu => rfl); (case hT => decide +kernel)) | ((with_reducible apply wps_load S 3); (case hx | hi | hu => rfl); (case hT => decide +kernel)) | ((with_reducible apply wps_load S 4); (case hx | hi | hu => rfl); (case hT => decide +kernel))
            go_roundw
            case rel => exact ⟨j + 1, by omega, by go_num, ⟨some (a, q), HN.out.trans HN2.out, rfl, rfl, rfl⟩, S.pick [2, 3, 4] rfl⟩
            case measure => simp [intOf]; omega
    · obtain rfl : j = ws.length := by omega
      have hge : ¬ ((ws.length : Int) < Bs.length) := by have := HLEN.out; omega
      have ho := Ho.out
      rw [List.take_length] at ho
      have he : nextE ws = o := ho
      clear ho
      go_wp2_with first | go_skip | ((with_reducible refine wpList_skip ?hw ?_); (case hw => with_unfolding_all rfl); simp only [Act.put, List.setIfInBounds_toArray, List.set_cons_succ, List.set_cons_zero]) | ((with_reducible refine tot_done ?ht ?_); (case ht => kernel_rfl)) | ((with_reducible apply wps_alloca (E := 54) S); (case hz => exact Tryz.zeroValue54); clear S; intro bz wz S) | ((with_reducible apply wps_alloca (E := 56) S); (case hz => exact Tryz.zeroValue56); clear S; intro bz wz S) | ((with_reducible apply wps_load S 0); (case hx | hi | hu => rfl); (case hT => decide +kernel)) | ((with_reducible apply wps_load S 1); (case hx | hi | hu => rfl); (case hT => decide +kernel)) | ((with_reducible apply wps_load S 2); (case hx | hi | hu => rfl); (case hT => decide +kernel))
      (try simp only [Exit.inBlock, Exit.then]); refine bodyPost_ret (results3 rfl (res_tmp rfl) (res_tmp rfl) (res_tmp rfl)) rfl ?_
      subst he
      exact ⟨rfl, S.below⟩
set_option maxRecDepth 100000 in
theorem of_calls (X : Nat) (v1 mp v2 mn pk : Value) (ss : List State) (j : Nat) (s : State) (w : World) (F F2 : Nat → Prop) (h : (Blk false X #[v1, mp, v2, mn, pk] 145).at_ w F) (h2 : (Own 50 State.cells 4 v1 ss).at_ w F2) (hj : ss[j]? = some s) :
    Calls Tryz.prog 105 #[.pointer (some ⟨X, 0, none⟩), .int .i64 j] w fun e w' => e = .returned (.agg #[.int .i64 s.n0, .int .i64 s.n1, .int .i64 s.n2, .int .i64 s.n3]) ∧ Below w.heap.size w w' := by
  have S : St (fun _ => False) w w [Sl true State.cells 4 v1 ss, Blk true X #[v1, mp, v2, mn, pk] 145] := ((St.init _ w).share (A := Blk true X #[v1, mp, v2, mn, pk] 145) rfl rfl h).share (A := Sl true State.cells 4 v1 ss) rfl rfl (own_sl (sh := true) sacells h2)
  have hl := (List.getElem?_eq_some_iff.1 hj).1
  obtain ⟨ad, cp, rfl, _⟩ := (S.sl 0 rfl).elim fun _ h => h.form
  obtain ⟨R1, o1, rfl⟩ : ∃ R o, ad = some ⟨R, o, none⟩ := (S.sl 0 rfl).elim fun F h => h.head (by omega)
  have hl2 : (j : Int) < ss.length := by omega
  have Hj := Lib.hid hj
  clear hj
  clear h h2
  go_enter Tryz.func105, Tryz.ntmps105
  go_wp2_with first | ((with_reducible apply wps_loada_el S 1 (hj := Hj.out) (q := 0) (vs := [.int .i64 s.n0, .int .i64 s.n1, .int .i64 s.n2, .int .i64 s.n3]) (m := 4)); (case hx | hi => rfl); (case hn => omega); (case hm | hv => rfl); (case hT => decide +kernel)) | ((with_reducible apply wps_load_el S 1 (hj := Hj.out) (q := 0) (u := .int .i64 s.n0)); (case hx | hi => rfl); (case hn => omega); (case hu => rfl); (case hT => decide +kernel)) | ((with_reducible apply wps_load_el S 1 (hj := Hj.out) (q := 1) (u := .int .i64 s.n1)); (case hx | hi => rfl); (case hn => omega); (case hu => rfl); (case hT => decide +kernel)) | ((with_reducible apply wps_load_el S 1 (hj := Hj.out) (q := 2) (u := .int .i64 s.n2)); (case hx | hi => rfl); (case hn => omega); (case hu => rfl); (case hT => decide +kernel)) | ((with_reducible apply wps_load_el S 1 (hj := Hj.out) (q := 3) (u := .int .i64 s.n3)); (case hx | hi => rfl); (case hn => omega); (case hu => rfl); (case hT => decide +kernel)) | ((with_reducible apply wps_storea (T := 50) S 0 (vs := [.int .i64 s.n0, .int .i64 s.n1, .int .i64 s.n2, .int .i64 s.n3]) (m := 4)); (case hx | hy | hi | hm | h1 => rfl); (case hn => exact Nat.le_of_ble_eq_true rfl); (case hT => decide +kernel); clear S; intro wz S; simp only [List.set_cons_zero, List.set_cons_succ, setAll, List.setIfInBounds_toArray] at S) | ((with_reducible refine tot_done ?ht ?_); (case ht => kernel_rfl)) | ((with_reducible apply wps_alloca (E := 50) S); (case hz => exact Tryz.zeroValue50); clear S; intro bz wz S) | ((with_reducible apply wps_load S 0); (case hx | hi | hu => rfl); (case hT => decide +kernel)) | ((with_reducible apply wps_loada (T := 50) (k := 4) S 0); (case hx | hi => rfl); (case hk => exact Nat.le_of_ble_eq_true rfl); (case hT => decide +kernel)) | ((with_reducible apply wps_load S 1); (case hx | hi | hu => rfl); (case hT => decide +kernel)) | ((with_reducible apply wps_loada (T := 50) (k := 4) S 1); (case hx | hi => rfl); (case hk => exact Nat.le_of_ble_eq_true rfl); (case hT => decide +kernel)) | ((with_reducible apply wps_load S 2); (case hx | hi | hu => rfl); (case hT => decide +kernel)) | ((with_reducible apply wps_loada (T := 50) (k := 4) S 2); (case hx | hi => rfl); (case hk => exact Nat.le_of_ble_eq_true rfl); (case hT => decide +kernel))
  (try simp only [Exit.inBlock, Exit.then]); (with_reducible apply S.ret_cell 0); (case hi | h | hp => rfl); (case hA => kernel_rfl); (case hd => rfl)
  exact ⟨rfl, S.below⟩
set_option maxRecDepth 100000 in
theorem become_calls (X R : Nat) (s : SimE) (j : Nat) (x : State) (w : World) (F : Nat → Prop) (h : (simA X R s).at_ w F) (hj : j < s.ss.length) :
    Calls Tryz.prog 106 #[.pointer (some ⟨X, 0, none⟩), .int .i64 j, .agg #[.int .i64 x.n0, .int .i64 x.n1, .int .i64 x.n2, .int .i64 x.n3]] w fun e w' => e = .returned (.tuple #[]) ∧ St F w w' [simA X R ⟨s.ws, s.ss.set j x, s.many, s.peak⟩] := by
  obtain ⟨v1, v2, Bs, hlen, S⟩ := sim_open (St.one w h)
  obtain ⟨R1, c1, rfl⟩ := own_hd 2 S rfl (by omega)
  obtain ⟨y, hy⟩ : ∃ y, s.ss[j]? = some y := ⟨_, List.getElem?_eq_getElem hj⟩
  have hl2 : (j : Int) < s.ss.length := by omega
  have HLEN := Lib.hid hlen
  have Hy := Lib.hid hy
  clear hy
  clear h hlen
  go_enter Tryz.func106, Tryz.ntmps106
  go_wp2_with first | ((with_reducible apply wps_store_owna sacells S 3 (hj := Hy.out) (e' := x) (q := 0) (vs := [.int .i64 x.n0, .int .i64 x.n1, .int .i64 x.n2, .int .i64 x.n3]) (m := 4)); (case hx => rfl); (case hn => omega); (case hi | hy | hm | h1 | he => rfl); (case hq => exact Nat.le_of_ble_eq_true rfl); (case hT => decide +kernel); clear S; intro wz S; simp only [List.set_cons_succ, List.set_cons_zero] at S) | ((with_reducible refine tot_done ?ht ?_); (case ht => kernel_rfl)) | ((with_reducible apply wps_text S); (case hm => kernel_rfl); (case hB => decide +kernel); clear S; intro wz S) | ((with_reducible apply wps_boxa S); (case hx => rfl); clear S; intro bz wz S) | ((with_reducible apply wps_box1 (v := .int _ _) S); (case hx | h1 => rfl); clear S; intro bz wz S) | ((with_reducible apply wps_box1 (v := .bool _) S); (case hx | h1 => rfl); clear S; intro bz wz S) | ((with_reducible apply wps_box1 (v := .slice _ _ _) S); (case hx | h1 => rfl); clear S; intro bz wz S) | ((with_reducible apply wps_box1 (v := .pointer _) S); (case hx | h1 => rfl); clear S; intro bz wz S) | ((with_reducible apply wps_box1 (v := .map _) S); (case hx | h1 => rfl); clear S; intro bz wz S) | ((with_reducible apply wps_box1 (v := .string _) S); (case hx | h1 => rfl); clear S; intro bz wz S) | ((with_reducible apply wps_box1 (v := .func _ _ _) S); (case hx | h1 => rfl); clear S; intro bz wz S) | ((with_reducible apply wps_load S 0); (case hx | hi | hu => rfl); (case hT => decide +kernel)) | ((with_reducible apply wps_loada (T := 50) (k := 4) S 0); (case hx | hi => rfl); (case hk => exact Nat.le_of_ble_eq_true rfl); (case hT => decide +kernel)) | ((with_reducible apply wps_load S 1); (case hx | hi | hu => rfl); (case hT => decide +kernel)) | ((with_reducible apply wps_loada (T := 50) (k := 4) S 1); (case hx | hi => rfl); (case hk => exact Nat.le_of_ble_eq_true rfl); (case hT => decide +kernel)) | ((with_reducible apply wps_load S 2); (case hx | hi | hu => rfl); (case hT => decide +kernel)) | ((with_reducible apply wps_loada (T := 50) (k := 4) S 2); (case hx | hi => rfl); (case hk => exact Nat.le_of_ble_eq_true rfl); (case hT => decide +kernel)) | ((with_reducible apply wps_load S 3); (case hx | hi | hu => rfl); (case hT => decide +kernel)) | ((with_reducible apply wps_loada (T := 50) (k := 4) S 3); (case hx | hi => rfl); (case hk => exact Nat.le_of_ble_eq_true rfl); (case hT => decide +kernel)) | ((with_reducible apply wps_load S 4); (case hx | hi | hu => rfl); (case hT => decide +kernel)) | ((with_reducible apply wps_loada (T := 50) (k := 4) S 4); (case hx | hi => rfl); (case hk => exact Nat.le_of_ble_eq_true rfl); (case hT => decide +kernel))
  go_end0
  refine ⟨rfl, ?_⟩
  have S2 := S.pick [1, 2, 3, 4] rfl
  simp only [pick, nth] at S2
  exact sim_close (s := ⟨s.ws, s.ss.set j x, s.many, s.peak⟩) HLEN.out S2
end Go.Proofs.YtcnfionnnpnplaaGreatDoor
