import Derived.Test.YtfiiaechippboaaDoorV2
import Derived.Test.YtfiiaechippboaaDoorC3
import Derived.Test.YtfiiaechippboaaDoorCopy
/- The walks of vm.New and of a machine's Step. -/
namespace Go.Proofs.YtfiiaechippboaaDoor
open Go Go.RowKit Reg Mem

def StepPost (F : Nat → Prop) (R : Nat) (e : Event) (vp : Value) (fan : Int) (o : Option Mach) (m : Mach) (w : World) (r : Ending) (w' : World) : Prop :=
  ∃ vs', r = .returned (.bool o.isSome) ∧ St F w w' [Blk false R (machCells e vp (o.getD m) fan vs') 113, Own 80 Emit.cells 4 vs' (o.getD m).sent]
set_option maxRecDepth 100000 in
set_option maxHeartbeats 8000000 in
theorem step_calls (F : Nat → Prop) (w : World) (R : Nat) (e : Event) (vp vs : Value) (fan : Int) (cs : List Int) (k : Nat) (sent : List Emit) (p : List Instr)
    (S : St F w w [Blk false R (machCells e vp ⟨cs, k, sent⟩ fan vs) 113, Own 80 Emit.cells 4 vs sent, Sl true Instr.cells 5 vp p, Tab])
    (h8 : cs.length = 8) (hs : sent.length ≤ 65536) (hp : p.length ≤ 64) :
    Calls Tryd.prog 53 #[.pointer (some ⟨R, 0, none⟩)] w (StepPost F R e vp fan (stepE p e fan ⟨cs, k, sent⟩) ⟨cs, k, sent⟩ w) := by
  obtain ⟨ad, cap, rfl, _⟩ := (S.sl 2 rfl).elim fun _ h => h.form
  have H8 := Lib.hid (show (Mach.mk cs k sent).cs.length = 8 from h8)
  clear h8
  by_cases hk : k < p.length
  case neg =>
    have hk2 : (p.length : Int) ≤ k := by omega
    rw [show stepE p e fan ⟨cs, k, sent⟩ = none by unfold stepE; rw [if_pos (.inr hk2)]]
    go_enter Tryd.func53, Tryd.ntmps53
    go_wp2_with first
      | go_skip
      | ((with_reducible refine wpList_skip ?hw ?_); (case hw => with_unfolding_all rfl); simp only [Act.put, List.setIfInBounds_toArray, List.set_cons_succ, List.set_cons_zero])
      | ((with_reducible apply wps_load S 0 (hu := mach_at (m:=⟨cs,(k:Int),sent⟩) H8.out)); (case hx => rfl); (case hi => rfl); (case hT => decide +kernel))
      | ((with_reducible apply wps_load S 0 (hu := mach_prog)); (case hx => rfl); (case hi => rfl); (case hT => decide +kernel))
      | ((with_reducible refine tot_done ?ht ?_); (case ht => kernel_rfl))
      | ((with_reducible apply wps_text S); (case hm => kernel_rfl); (case hB => decide +kernel); clear S; intro wz S)
      | ((with_reducible apply wps_alloca (E := 70) S); (case hz => exact Tryd.zeroValue70); clear S; intro bz wz S)
      | ((with_reducible apply wps_load S 0); (case hx => rfl); (case hi => rfl); (case hT => decide +kernel); (case hu => rfl))
      | ((with_reducible apply wps_loada (T := 70) (k := 5) S 0); (case hx => rfl); (case hi => rfl); (case hT => decide +kernel); (case hk => exact Nat.le_of_ble_eq_true rfl))
    go_ret
    exact ⟨vs, by simp, S.pick [0, 1] rfl⟩
  case pos =>
    have hk2 : (k : Int) < p.length := by omega
    obtain ⟨x, hx⟩ : ∃ x, p[k]? = some x := ⟨_, List.getElem?_eq_getElem hk⟩
    obtain ⟨RP, oP, rfl⟩ : ∃ R o, ad = some ⟨R, o, none⟩ := (S.sl 2 rfl).elim fun F h => h.head (by omega)
    have hst : stepE p e fan ⟨cs, k, sent⟩ = if x.op = 15 ∨ mayE x p.length ≠ 0 then none else some (doE e fan ⟨cs, k + 1, sent⟩ x) := by
      unfold stepE
      rw [if_neg (by simp; omega)]
      simp only [Int.toNat_natCast, hx]
    by_cases h15 : x.op = 15
    · rw [if_pos (.inl h15)] at hst
      rw [hst]
      clear hst
      obtain ⟨op, a, b, c, d⟩ := x
      simp only at h15
      subst h15
      have Hx := Lib.hid hx
      clear hx
      go_enter Tryd.func53, Tryd.ntmps53
      go_wp2_with first
        | go_skip
        | ((with_reducible refine wpList_skip ?hw ?_); (case hw => with_unfolding_all rfl); simp only [Act.put, List.setIfInBounds_toArray, List.set_cons_succ, List.set_cons_zero])
        | ((with_reducible apply wps_alloca (E := 70) S); (case hz => exact Tryd.zeroValue70); clear S; intro bx wz S)
        | ((with_reducible apply wps_loada_el S 2 (hj := Hx.out) (q := 0) (vs := [.int .i64 (⟨15,a,b,c,d⟩:Instr).op, .int .i64 (⟨15,a,b,c,d⟩:Instr).a, .int .i64 (⟨15,a,b,c,d⟩:Instr).b, .int .i64 (⟨15,a,b,c,d⟩:Instr).c, .int .i64 (⟨15,a,b,c,d⟩:Instr).d]) (m := 5)); (case hx => rfl); (case hT => decide +kernel); (case hi => rfl); (case hn => omega); (case hm => rfl); (case hv => rfl))
        | ((with_reducible apply wps_load_el S 2 (hj := Hx.out) (q := 0) (u := .int .i64 (⟨15,a,b,c,d⟩:Instr).op)); (case hx => rfl); (case hi => rfl); (case hn => omega); (case hT => decide +kernel); (case hu => rfl))
        | ((with_reducible apply wps_load_el S 2 (hj := Hx.out) (q := 1) (u := .int .i64 (⟨15,a,b,c,d⟩:Instr).a)); (case hx => rfl); (case hi => rfl); (case hn => omega); (case hT => decide +kernel); (case hu => rfl))
        | ((with_reducible apply wps_load_el S 2 (hj := Hx.out) (q := 2) (u := .int .i64 (⟨15,a,b,c,d⟩:Instr).b)); (case hx => rfl); (case hi => rfl); (case hn => omega); (case hT => decide +kernel); (case hu => rfl))
        | ((with_reducible apply wps_load_el S 2 (hj := Hx.out) (q := 3) (u := .int .i64 (⟨15,a,b,c,d⟩:Instr).c)); (case hx => rfl); (case hi => rfl); (case hn => omega); (case hT => decide +kernel); (case hu => rfl))
        | ((with_reducible apply wps_load_el S 2 (hj := Hx.out) (q := 4) (u := .int .i64 (⟨15,a,b,c,d⟩:Instr).d)); (case hx => rfl); (case hi => rfl); (case hn => omega); (case hT => decide +kernel); (case hu => rfl))
        | ((with_reducible apply wps_loada_el S 3 (hj := Hx.out) (q := 0) (vs := [.int .i64 (⟨15,a,b,c,d⟩:Instr).op, .int .i64 (⟨15,a,b,c,d⟩:Instr).a, .int .i64 (⟨15,a,b,c,d⟩:Instr).b, .int .i64 (⟨15,a,b,c,d⟩:Instr).c, .int .i64 (⟨15,a,b,c,d⟩:Instr).d]) (m := 5)); (case hx => rfl); (case hT => decide +kernel); (case hi => rfl); (case hn => omega); (case hm => rfl); (case hv => rfl))
        | ((with_reducible apply wps_load_el S 3 (hj := Hx.out) (q := 0) (u := .int .i64 (⟨15,a,b,c,d⟩:Instr).op)); (case hx => rfl); (case hi => rfl); (case hn => omega); (case hT => decide +kernel); (case hu => rfl))
        | ((with_reducible apply wps_load_el S 3 (hj := Hx.out) (q := 1) (u := .int .i64 (⟨15,a,b,c,d⟩:Instr).a)); (case hx => rfl); (case hi => rfl); (case hn => omega); (case hT => decide +kernel); (case hu => rfl))
        | ((with_reducible apply wps_load_el S 3 (hj := Hx.out) (q := 2) (u := .int .i64 (⟨15,a,b,c,d⟩:Instr).b)); (case hx => rfl); (case hi => rfl); (case hn => omega); (case hT => decide +kernel); (case hu => rfl))
        | ((with_reducible apply wps_load_el S 3 (hj := Hx.out) (q := 3) (u := .int .i64 (⟨15,a,b,c,d⟩:Instr).c)); (case hx => rfl); (case hi => rfl); (case hn => omega); (case hT => decide +kernel); (case hu => rfl))
        | ((with_reducible apply wps_load_el S 3 (hj := Hx.out) (q := 4) (u := .int .i64 (⟨15,a,b,c,d⟩:Instr).d)); (case hx => rfl); (case hi => rfl); (case hn => omega); (case hT => decide +kernel); (case hu => rfl))
        | ((with_reducible apply wps_storea (T := 70) S 0 (vs := [.int .i64 15, .int .i64 a, .int .i64 b, .int .i64 c, .int .i64 d]) (m := 5)); (case hx => rfl); (case hy => rfl); (case hi => rfl); (case hT => decide +kernel); (case hm => rfl); (case h1 => rfl); (case hn => exact Nat.le_of_ble_eq_true rfl); clear S; intro wz S; simp only [List.set_cons_zero, List.set_cons_succ, setAll, List.setIfInBounds_toArray] at S)
        | ((with_reducible apply wps_load S 0 (hu := mach_at (m:=⟨cs,(k:Int),sent⟩) H8.out)); (case hx => rfl); (case hi => rfl); (case hT => decide +kernel))
        | ((with_reducible apply wps_load S 0 (hu := mach_prog)); (case hx => rfl); (case hi => rfl); (case hT => decide +kernel))
        | ((with_reducible apply wps_load S 1 (hu := mach_at (m:=⟨cs,(k:Int),sent⟩) H8.out)); (case hx => rfl); (case hi => rfl); (case hT => decide +kernel))
        | ((with_reducible apply wps_load S 1 (hu := mach_prog)); (case hx => rfl); (case hi => rfl); (case hT => decide +kernel))
        | ((with_reducible refine tot_done ?ht ?_); (case ht => kernel_rfl))
        | ((with_reducible apply wps_text S); (case hm => kernel_rfl); (case hB => decide +kernel); clear S; intro wz S)
        | ((with_reducible apply wps_alloca (E := 70) S); (case hz => exact Tryd.zeroValue70); clear S; intro bz wz S)
        | ((with_reducible apply wps_load S 0); (case hx => rfl); (case hi => rfl); (case hT => decide +kernel); (case hu => rfl))
        | ((with_reducible apply wps_loada (T := 70) (k := 5) S 0); (case hx => rfl); (case hi => rfl); (case hT => decide +kernel); (case hk => exact Nat.le_of_ble_eq_true rfl))
      go_ret
      exact ⟨vs, by simp, S.pick [1, 2] rfl⟩
    have HM := Lib.hid fun w F2 h => may_calls x p.length w F2 h
    have h15b : (x.op == 15) = false := by simpa using h15
    by_cases hm : mayE x p.length = 0
    case neg =>
      rw [if_pos (.inr hm)] at hst
      rw [hst]
      clear hst
      obtain ⟨er, her⟩ : ∃ er, mayE x p.length = er := ⟨_, rfl⟩
      rw [her] at HM hm
      have hm2 : (er != 0) = true := by simpa using hm
      clear her
      have Hx := Lib.hid hx
      clear hx
      go_enter Tryd.func53, Tryd.ntmps53
      go_wp2_with first
        | go_skip
        | ((with_reducible refine wpList_skip ?hw ?_); (case hw => with_unfolding_all rfl); simp only [Act.put, List.setIfInBounds_toArray, List.set_cons_succ, List.set_cons_zero])
        | ((with_reducible apply wps_alloca (E := 70) S); (case hz => exact Tryd.zeroValue70); clear S; intro bx wz S)
        | ((with_reducible apply wps_loada_el S 2 (hj := Hx.out) (q := 0) (vs := [.int .i64 x.op, .int .i64 x.a, .int .i64 x.b, .int .i64 x.c, .int .i64 x.d]) (m := 5)); (case hx => rfl); (case hT => decide +kernel); (case hi => rfl); (case hn => omega); (case hm => rfl); (case hv => rfl))
        | ((with_reducible apply wps_load_el S 2 (hj := Hx.out) (q := 0) (u := .int .i64 x.op)); (case hx => rfl); (case hi => rfl); (case hn => omega); (case hT => decide +kernel); (case hu => rfl))
        | ((with_reducible apply wps_load_el S 2 (hj := Hx.out) (q := 1) (u := .int .i64 x.a)); (case hx => rfl); (case hi => rfl); (case hn => omega); (case hT => decide +kernel); (case hu => rfl))
        | ((with_reducible apply wps_load_el S 2 (hj := Hx.out) (q := 2) (u := .int .i64 x.b)); (case hx => rfl); (case hi => rfl); (case hn => omega); (case hT => decide +kernel); (case hu => rfl))
        | ((with_reducible apply wps_load_el S 2 (hj := Hx.out) (q := 3) (u := .int .i64 x.c)); (case hx => rfl); (case hi => rfl); (case hn => omega); (case hT => decide +kernel); (case hu => rfl))
        | ((with_reducible apply wps_load_el S 2 (hj := Hx.out) (q := 4) (u := .int .i64 x.d)); (case hx => rfl); (case hi => rfl); (case hn => omega); (case hT => decide +kernel); (case hu => rfl))
        | ((with_reducible apply wps_loada_el S 3 (hj := Hx.out) (q := 0) (vs := [.int .i64 x.op, .int .i64 x.a, .int .i64 x.b, .int .i64 x.c, .int .i64 x.d]) (m := 5)); (case hx => rfl); (case hT => decide +kernel); (case hi => rfl); (case hn => omega); (case hm => rfl); (case hv => rfl))
        | ((with_reducible apply wps_load_el S 3 (hj := Hx.out) (q := 0) (u := .int .i64 x.op)); (case hx => rfl); (case hi => rfl); (case hn => omega); (case hT => decide +kernel); (case hu => rfl))
        | ((with_reducible apply wps_load_el S 3 (hj := Hx.out) (q := 1) (u := .int .i64 x.a)); (case hx => rfl); (case hi => rfl); (case hn => omega); (case hT => decide +kernel); (case hu => rfl))
        | ((with_reducible apply wps_load_el S 3 (hj := Hx.out) (q := 2) (u := .int .i64 x.b)); (case hx => rfl); (case hi => rfl); (case hn => omega); (case hT => decide +kernel); (case hu => rfl))
        | ((with_reducible apply wps_load_el S 3 (hj := Hx.out) (q := 3) (u := .int .i64 x.c)); (case hx => rfl); (case hi => rfl); (case hn => omega); (case hT => decide +kernel); (case hu => rfl))
        | ((with_reducible apply wps_load_el S 3 (hj := Hx.out) (q := 4) (u := .int .i64 x.d)); (case hx => rfl); (case hi => rfl); (case hn => omega); (case hT => decide +kernel); (case hu => rfl))
        | ((with_reducible apply wps_storea (T := 70) S 0 (vs := [.int .i64 x.op, .int .i64 x.a, .int .i64 x.b, .int .i64 x.c, .int .i64 x.d]) (m := 5)); (case hx => rfl); (case hy => rfl); (case hi => rfl); (case hT => decide +kernel); (case hm => rfl); (case h1 => rfl); (case hn => exact Nat.le_of_ble_eq_true rfl); clear S; intro wz S; simp only [List.set_cons_zero, List.set_cons_succ, setAll, List.setIfInBounds_toArray] at S)
        | ((with_reducible apply wps_load S 0 (hu := mach_at (m:=⟨cs,(k:Int),sent⟩) H8.out)); (case hx => rfl); (case hi => rfl); (case hT => decide +kernel))
        | ((with_reducible apply wps_load S 0 (hu := mach_prog)); (case hx => rfl); (case hi => rfl); (case hT => decide +kernel))
        | ((with_reducible apply wps_load S 1 (hu := mach_at (m:=⟨cs,(k:Int),sent⟩) H8.out)); (case hx => rfl); (case hi => rfl); (case hT => decide +kernel))
        | ((with_reducible apply wps_load S 1 (hu := mach_prog)); (case hx => rfl); (case hi => rfl); (case hT => decide +kernel))
        | (go_at_call 68; refine Calls.mono (HM.out _ _ (S.get (i := 4) rfl).choose_spec) ?_; rintro e wz ⟨rfl, hE⟩; replace S := S.ext (Keep.of_below hE); clear hE)
        | ((with_reducible refine tot_done ?ht ?_); (case ht => kernel_rfl))
        | ((with_reducible apply wps_text S); (case hm => kernel_rfl); (case hB => decide +kernel); clear S; intro wz S)
        | ((with_reducible apply wps_alloca (E := 70) S); (case hz => exact Tryd.zeroValue70); clear S; intro bz wz S)
        | ((with_reducible apply wps_load S 0); (case hx => rfl); (case hi => rfl); (case hT => decide +kernel); (case hu => rfl))
        | ((with_reducible apply wps_loada (T := 70) (k := 5) S 0); (case hx => rfl); (case hi => rfl); (case hT => decide +kernel); (case hk => exact Nat.le_of_ble_eq_true rfl))
      go_ret
      exact ⟨vs, by simp, S.pick [1, 2] rfl⟩
    case pos =>
      rw [if_neg (fun h => h.elim h15 (fun h => h hm))] at hst
      rw [hst]
      clear hst
      have HX := Lib.hid hm
      rw [hm] at HM
      clear hm
      have Hx := Lib.hid hx
      clear hx
      go_enter Tryd.func53, Tryd.ntmps53
      go_wp2_with first
        | go_skip
        | ((with_reducible refine wpList_skip ?hw ?_); (case hw => with_unfolding_all rfl); simp only [Act.put, List.setIfInBounds_toArray, List.set_cons_succ, List.set_cons_zero])
        | ((with_reducible apply wps_alloca (E := 70) S); (case hz => exact Tryd.zeroValue70); clear S; intro bx wz S)
        | ((with_reducible apply wps_loada_el S 2 (hj := Hx.out) (q := 0) (vs := [.int .i64 x.op, .int .i64 x.a, .int .i64 x.b, .int .i64 x.c, .int .i64 x.d]) (m := 5)); (case hx => rfl); (case hT => decide +kernel); (case hi => rfl); (case hn => omega); (case hm => rfl); (case hv => rfl))
        | ((with_reducible apply wps_load_el S 2 (hj := Hx.out) (q := 0) (u := .int .i64 x.op)); (case hx => rfl); (case hi => rfl); (case hn => omega); (case hT => decide +kernel); (case hu => rfl))
        | ((with_reducible apply wps_load_el S 2 (hj := Hx.out) (q := 1) (u := .int .i64 x.a)); (case hx => rfl); (case hi => rfl); (case hn => omega); (case hT => decide +kernel); (case hu => rfl))
        | ((with_reducible apply wps_load_el S 2 (hj := Hx.out) (q := 2) (u := .int .i64 x.b)); (case hx => rfl); (case hi => rfl); (case hn => omega); (case hT => decide +kernel); (case hu => rfl))
        | ((with_reducible apply wps_load_el S 2 (hj := Hx.out) (q := 3) (u := .int .i64 x.c)); (case hx => rfl); (case hi => rfl); (case hn => omega); (case hT => decide +kernel); (case hu => rfl))
        | ((with_reducible apply wps_load_el S 2 (hj := Hx.out) (q := 4) (u := .int .i64 x.d)); (case hx => rfl); (case hi => rfl); (case hn => omega); (case hT => decide +kernel); (case hu => rfl))
        | ((with_reducible apply wps_loada_el S 3 (hj := Hx.out) (q := 0) (vs := [.int .i64 x.op, .int .i64 x.a, .int .i64 x.b, .int .i64 x.c, .int .i64 x.d]) (m := 5)); (case hx => rfl); (case hT => decide +kernel); (case hi => rfl); (case hn => omega); (case hm => rfl); (case hv => rfl))
        | ((with_reducible apply wps_load_el S 3 (hj := Hx.out) (q := 0) (u := .int .i64 x.op)); (case hx => rfl); (case hi => rfl); (case hn => omega); (case hT => decide +kernel); (case hu => rfl))
        | ((with_reducible apply wps_load_el S 3 (hj := Hx.out) (q := 1) (u := .int .i64 x.a)); (case hx => rfl); (case hi => rfl); (case hn => omega); (case hT => decide +kernel); (case hu => rfl))
        | ((with_reducible apply wps_load_el S 3 (hj := Hx.out) (q := 2) (u := .int .i64 x.b)); (case hx => rfl); (case hi => rfl); (case hn => omega); (case hT => decide +kernel); (case hu => rfl))
        | ((with_reducible apply wps_load_el S 3 (hj := Hx.out) (q := 3) (u := .int .i64 x.c)); (case hx => rfl); (case hi => rfl); (case hn => omega); (case hT => decide +kernel); (case hu => rfl))
        | ((with_reducible apply wps_load_el S 3 (hj := Hx.out) (q := 4) (u := .int .i64 x.d)); (case hx => rfl); (case hi => rfl); (case hn => omega); (case hT => decide +kernel); (case hu => rfl))
        | ((with_reducible apply wps_storea (T := 70) S 0 (vs := [.int .i64 x.op, .int .i64 x.a, .int .i64 x.b, .int .i64 x.c, .int .i64 x.d]) (m := 5)); (case hx => rfl); (case hy => rfl); (case hi => rfl); (case hT => decide +kernel); (case hm => rfl); (case h1 => rfl); (case hn => exact Nat.le_of_ble_eq_true rfl); clear S; intro wz S; simp only [List.set_cons_zero, List.set_cons_succ, setAll, List.setIfInBounds_toArray] at S)
        | ((with_reducible apply wps_load S 0 (hu := mach_at (m:=⟨cs,(k:Int),sent⟩) H8.out)); (case hx => rfl); (case hi => rfl); (case hT => decide +kernel))
        | ((with_reducible apply wps_load S 0 (hu := mach_prog)); (case hx => rfl); (case hi => rfl); (case hT => decide +kernel))
        | ((with_reducible apply wps_load S 1 (hu := mach_at (m:=⟨cs,(k:Int),sent⟩) H8.out)); (case hx => rfl); (case hi => rfl); (case hT => decide +kernel))
        | ((with_reducible apply wps_load S 1 (hu := mach_prog)); (case hx => rfl); (case hi => rfl); (case hT => decide +kernel))
        | (go_at_call 68; refine Calls.mono (HM.out _ _ (S.get (i := 4) rfl).choose_spec) ?_; rintro e wz ⟨rfl, hE⟩; replace S := S.ext (Keep.of_below hE); clear hE)
        | ((with_reducible apply wps_store S 1 (n := 16) (u := .int .i64 ((k:Int)+1))); (case hx => rfl); (case hy => rfl); (case hi => rfl); (case hT => decide +kernel); (case h1 => rfl); (case hn => first | omega | (rw [mach_size H8.out]; omega) | (rw [mach_size H8.out]; decide)); clear S; intro wz S; simp only [List.set_cons_succ, List.set_cons_zero] at S; rw [mach_setat (m:=⟨cs,(k:Int),sent⟩) H8.out] at S)
        | (go_at_call 69; obtain ⟨Fz, SF, hBk⟩ := S.lend [1,2] [] [0,3,4] rfl rfl rfl; simp only [List.append_nil, pick, nth] at SF; refine Calls.mono (do_calls Fz _ R e _ vs fan ⟨cs, (k:Int)+1, sent⟩ x p.length SF H8.out HX.out hs) ?_; rintro e wz ⟨vs', rfl, T⟩; replace S := hBk _ _ T rfl; clear hBk SF T; simp only [List.cons_append, List.nil_append, pick, nth] at S)
        | ((with_reducible refine tot_done ?ht ?_); (case ht => kernel_rfl))
        | ((with_reducible apply wps_text S); (case hm => kernel_rfl); (case hB => decide +kernel); clear S; intro wz S)
        | ((with_reducible apply wps_alloca (E := 70) S); (case hz => exact Tryd.zeroValue70); clear S; intro bz wz S)
        | ((with_reducible apply wps_load S 0); (case hx => rfl); (case hi => rfl); (case hT => decide +kernel); (case hu => rfl))
        | ((with_reducible apply wps_loada (T := 70) (k := 5) S 0); (case hx => rfl); (case hi => rfl); (case hT => decide +kernel); (case hk => exact Nat.le_of_ble_eq_true rfl))
      go_ret
      exact ⟨_, by simp, S.pick [0, 1] rfl⟩
end Go.Proofs.YtfiiaechippboaaDoor
