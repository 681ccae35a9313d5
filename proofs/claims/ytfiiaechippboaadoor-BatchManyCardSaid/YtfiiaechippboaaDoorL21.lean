import Derived.Test.YtfiiaechippboaaDoorL15
import Derived.Test.YtfiiaechippboaaDoorL20
import Derived.Test.YtfiiaechippboaaDoorL14
/- The walk of the reference machine's Step. -/
namespace Go.Proofs.YtfiiaechippboaaDoor
open Go Go.RowKit Reg Mem

set_option maxRecDepth 100000 in
set_option maxHeartbeats 8000000 in
theorem rstepC_calls (F : Nat → Prop) (w : World) (R : Nat) (e : Event) (vp vs : Value) (fan : Int) (cs : List Int) (k : Nat) (sent : List Emit) (p : List Instr)
    (S : St F w w [Blk false R (rmCells e vp ⟨cs, k, sent⟩ fan vs) 119, Own 91 Emit.cells 4 vs sent, Sl true Instr.cells 5 vp p])
    (h8 : cs.length = 8) (_hs : sent.length ≤ 65536) (hp : p.length ≤ 64)
    (x : Instr) (hk : k < p.length) (hx : p[k]? = some x) (hm : mayE x p.length = 0) (hop : (x.op = 8 ∧ 0 ≤ x.a ∧ x.a ≤ p.length) ∨ (x.op = 9 ∧ cellN x.a ∧ 0 ≤ x.b ∧ x.b ≤ p.length)) :
    Calls Tryd.prog 57 #[.pointer (some ⟨R, 0, none⟩)] w (RStepPost F R e vp fan (stepE p e fan ⟨cs, k, sent⟩) ⟨cs, k, sent⟩ w) := by
  obtain ⟨ad, cap, rfl, _⟩ := (S.sl 2 rfl).elim fun _ h => h.form
  have H8 := Lib.hid (show (Mach.mk cs k sent).cs.length = 8 from h8)
  clear h8
  have hk2 : (k : Int) < p.length := by omega
  obtain ⟨RP, oP, rfl⟩ : ∃ R o, ad = some ⟨R, o, none⟩ := (S.sl 2 rfl).elim fun F h => h.head (by omega)
  have hst : stepE p e fan ⟨cs, k, sent⟩ = if x.op = 15 ∨ mayE x p.length ≠ 0 then none else some (doE e fan ⟨cs, k + 1, sent⟩ x) := by
    unfold stepE
    rw [if_neg (by simp; omega)]
    simp only [Int.toNat_natCast, hx]
  have HM := Lib.hid fun w => rmay_calls x p.length w
  have HX := Lib.hid hm
  rw [hm] at HM
  clear hm
  obtain ⟨op, a, b, c, d⟩ := x
  simp only at hop hst
  have Hx := Lib.hid hx
  have Hst := Lib.hid hst
  clear hx hst
  have H8b : ∀ (a v : Int), Hid (((Mach.mk cs k sent).put a v).cs.length = 8) := fun a v => by show _ = _; unfold Mach.put; rw [List.length_set]; exact H8.out
  rcases hop with ⟨rfl, ha0, ha1⟩ | ⟨rfl, ⟨na, ha, rfl⟩, hb0, hb1⟩
  · skip
    rw [Hst.out, if_neg (fun h => h.elim (by decide) (fun h => h HX.out)), show doE e fan ⟨cs, k + 1, sent⟩ ⟨8, a, b, c, d⟩ = (⟨cs, a, sent⟩ : Mach) by simp [doE]]
    go_enter Tryd.func57, Tryd.ntmps57
    go_wp2_with first | ((with_reducible apply wps_alloca (E := 123) S); (case hz => exact Tryd.zeroValue123); clear S; intro bx wz S) | ((with_reducible apply wps_loada_el S 2 (hj := Hx.out) (q := 0) (vs := [.int .i64 (⟨8,a,b,c,d⟩:Instr).op, .int .i64 (⟨8,a,b,c,d⟩:Instr).a, .int .i64 (⟨8,a,b,c,d⟩:Instr).b, .int .i64 (⟨8,a,b,c,d⟩:Instr).c, .int .i64 (⟨8,a,b,c,d⟩:Instr).d]) (m := 5)); (case hx | hi => rfl); (case hn => omega); (case hm | hv => rfl); (case hT => decide +kernel)) | ((with_reducible apply wps_storea (T := 123) S 0 (vs := [.int .i64 8, .int .i64 a, .int .i64 b, .int .i64 c, .int .i64 d]) (m := 5)); (case hx | hy | hi | hm | h1 => rfl); (case hn => exact Nat.le_of_ble_eq_true rfl); (case hT => decide +kernel); clear S; intro wz S; simp only [List.set_cons_zero, List.set_cons_succ, setAll, List.setIfInBounds_toArray] at S) | ((with_reducible apply wps_load S 0 (hu := rm_at (m:=⟨cs,(k:Int),sent⟩) H8.out)); (case hx | hi => rfl); (case hT => decide +kernel)) | ((with_reducible apply wps_load S 0 (hu := rm_prog)); (case hx | hi => rfl); (case hT => decide +kernel)) | ((with_reducible apply wps_load S 1 (hu := rm_at (m:=⟨cs,(k:Int),sent⟩) H8.out)); (case hx | hi => rfl); (case hT => decide +kernel)) | ((with_reducible apply wps_load S 1 (hu := rm_prog)); (case hx | hi => rfl); (case hT => decide +kernel)) | (go_at_call 59; refine Calls.mono (HM.out _) ?_; rintro e wz ⟨rfl, hE⟩; replace S := S.ext (Keep.of_below hE); clear hE) | ((with_reducible apply wps_store S 1 (n := 17) (u := .int .i64 (a))); (case hx | hy | hi | h1 => rfl); (case hT => decide +kernel); (case hn => first | omega | (rw [mach_size H8.out]; omega) | (rw [mach_size H8.out]; decide) | (rw [rm_size H8.out]; omega) | (rw [rm_size H8.out]; decide) | (rw [rm_size (H8b _ _).out]; decide)); clear S; intro wz S; simp only [List.set_cons_succ, List.set_cons_zero] at S; rw [rm_setat (m:=⟨cs,(k:Int),sent⟩) H8.out] at S) | ((with_reducible refine tot_done ?ht ?_); (case ht => kernel_rfl)) | ((with_reducible apply wps_text S); (case hm => kernel_rfl); (case hB => decide +kernel); clear S; intro wz S) | ((with_reducible apply wps_load S 0); (case hx | hi | hu => rfl); (case hT => decide +kernel)) | ((with_reducible apply wps_loada (T := 123) (k := 5) S 0); (case hx | hi => rfl); (case hk => exact Nat.le_of_ble_eq_true rfl); (case hT => decide +kernel))
    go_ret
    exact ⟨_, by simp, S.pick [1, 2] rfl⟩
  · skip
    by_cases h0 : (Mach.mk cs k sent).get na = 0
    · have HU := Lib.hid (rm_cell (e := e) (vp := Value.slice (some ⟨RP, oP, none⟩) p.length cap) (vs := vs) (fan := fan) H8.out ha)
      rw [h0] at HU
      rw [Hst.out, if_neg (fun h => h.elim (by decide) (fun h => h HX.out)), show doE e fan ⟨cs, k + 1, sent⟩ ⟨9, na, b, c, d⟩ = (⟨cs, b, sent⟩ : Mach) by unfold Mach.get at h0; rw [Int.toNat_natCast] at h0; simp [doE, Mach.get, h0]]
      go_enter Tryd.func57, Tryd.ntmps57
      go_wp2_with first | ((with_reducible apply wps_alloca (E := 123) S); (case hz => exact Tryd.zeroValue123); clear S; intro bx wz S) | ((with_reducible apply wps_loada_el S 2 (hj := Hx.out) (q := 0) (vs := [.int .i64 (⟨9,na,b,c,d⟩:Instr).op, .int .i64 (⟨9,na,b,c,d⟩:Instr).a, .int .i64 (⟨9,na,b,c,d⟩:Instr).b, .int .i64 (⟨9,na,b,c,d⟩:Instr).c, .int .i64 (⟨9,na,b,c,d⟩:Instr).d]) (m := 5)); (case hx | hi => rfl); (case hn => omega); (case hm | hv => rfl); (case hT => decide +kernel)) | ((with_reducible apply wps_storea (T := 123) S 0 (vs := [.int .i64 9, .int .i64 na, .int .i64 b, .int .i64 c, .int .i64 d]) (m := 5)); (case hx | hy | hi | hm | h1 => rfl); (case hn => exact Nat.le_of_ble_eq_true rfl); (case hT => decide +kernel); clear S; intro wz S; simp only [List.set_cons_zero, List.set_cons_succ, setAll, List.setIfInBounds_toArray] at S) | ((with_reducible apply wps_load S 0 (hu := rm_at (m:=⟨cs,(k:Int),sent⟩) H8.out)); (case hx | hi => rfl); (case hT => decide +kernel)) | ((with_reducible apply wps_load S 0 (hu := rm_prog)); (case hx | hi => rfl); (case hT => decide +kernel)) | ((with_reducible apply wps_load S 1 (hu := rm_at (m:=⟨cs,(k:Int),sent⟩) H8.out)); (case hx | hi => rfl); (case hT => decide +kernel)) | ((with_reducible apply wps_load S 1 (hu := rm_prog)); (case hx | hi => rfl); (case hT => decide +kernel)) | (go_at_call 59; refine Calls.mono (HM.out _) ?_; rintro e wz ⟨rfl, hE⟩; replace S := S.ext (Keep.of_below hE); clear hE) | ((with_reducible apply wps_load S 1 (hu := HU.out)); (case hx | hi => rfl); (case hT => decide +kernel)) | ((with_reducible apply wps_store S 1 (n := 17) (u := .int .i64 (b))); (case hx | hy | hi | h1 => rfl); (case hT => decide +kernel); (case hn => first | omega | (rw [mach_size H8.out]; omega) | (rw [mach_size H8.out]; decide) | (rw [rm_size H8.out]; omega) | (rw [rm_size H8.out]; decide) | (rw [rm_size (H8b _ _).out]; decide)); clear S; intro wz S; simp only [List.set_cons_succ, List.set_cons_zero] at S; rw [rm_setat (m:=⟨cs,(k:Int),sent⟩) H8.out] at S) | ((with_reducible refine tot_done ?ht ?_); (case ht => kernel_rfl)) | ((with_reducible apply wps_text S); (case hm => kernel_rfl); (case hB => decide +kernel); clear S; intro wz S) | ((with_reducible apply wps_load S 0); (case hx | hi | hu => rfl); (case hT => decide +kernel)) | ((with_reducible apply wps_loada (T := 123) (k := 5) S 0); (case hx | hi => rfl); (case hk => exact Nat.le_of_ble_eq_true rfl); (case hT => decide +kernel))
      go_ret
      exact ⟨_, by simp, S.pick [1, 2] rfl⟩
    · have k1 : ((Mach.mk cs k sent).get na == 0) = false := by simpa using h0
      rw [Hst.out, if_neg (fun h => h.elim (by decide) (fun h => h HX.out)), show doE e fan ⟨cs, k + 1, sent⟩ ⟨9, na, b, c, d⟩ = (⟨cs, k + 1, sent⟩ : Mach) by unfold Mach.get at h0; rw [Int.toNat_natCast] at h0; simp [doE, Mach.get, h0]]
      go_enter Tryd.func57, Tryd.ntmps57
      go_wp2_with first | ((with_reducible apply wps_alloca (E := 123) S); (case hz => exact Tryd.zeroValue123); clear S; intro bx wz S) | ((with_reducible apply wps_loada_el S 2 (hj := Hx.out) (q := 0) (vs := [.int .i64 (⟨9,na,b,c,d⟩:Instr).op, .int .i64 (⟨9,na,b,c,d⟩:Instr).a, .int .i64 (⟨9,na,b,c,d⟩:Instr).b, .int .i64 (⟨9,na,b,c,d⟩:Instr).c, .int .i64 (⟨9,na,b,c,d⟩:Instr).d]) (m := 5)); (case hx | hi => rfl); (case hn => omega); (case hm | hv => rfl); (case hT => decide +kernel)) | ((with_reducible apply wps_storea (T := 123) S 0 (vs := [.int .i64 9, .int .i64 na, .int .i64 b, .int .i64 c, .int .i64 d]) (m := 5)); (case hx | hy | hi | hm | h1 => rfl); (case hn => exact Nat.le_of_ble_eq_true rfl); (case hT => decide +kernel); clear S; intro wz S; simp only [List.set_cons_zero, List.set_cons_succ, setAll, List.setIfInBounds_toArray] at S) | ((with_reducible apply wps_load S 0 (hu := rm_at (m:=⟨cs,(k:Int),sent⟩) H8.out)); (case hx | hi => rfl); (case hT => decide +kernel)) | ((with_reducible apply wps_load S 0 (hu := rm_prog)); (case hx | hi => rfl); (case hT => decide +kernel)) | ((with_reducible apply wps_load S 1 (hu := rm_at (m:=⟨cs,(k:Int),sent⟩) H8.out)); (case hx | hi => rfl); (case hT => decide +kernel)) | ((with_reducible apply wps_load S 1 (hu := rm_prog)); (case hx | hi => rfl); (case hT => decide +kernel)) | (go_at_call 59; refine Calls.mono (HM.out _) ?_; rintro e wz ⟨rfl, hE⟩; replace S := S.ext (Keep.of_below hE); clear hE) | ((with_reducible apply wps_load S 1 (hu := rm_cell (m:=⟨cs,(k:Int),sent⟩) H8.out ha)); (case hx | hi => rfl); (case hT => decide +kernel)) | ((with_reducible apply wps_store S 1 (n := 17) (u := .int .i64 ((k:Int)+1))); (case hx | hy | hi | h1 => rfl); (case hT => decide +kernel); (case hn => first | omega | (rw [mach_size H8.out]; omega) | (rw [mach_size H8.out]; decide) | (rw [rm_size H8.out]; omega) | (rw [rm_size H8.out]; decide) | (rw [rm_size (H8b _ _).out]; decide)); clear S; intro wz S; simp only [List.set_cons_succ, List.set_cons_zero] at S; rw [rm_setat (m:=⟨cs,(k:Int),sent⟩) H8.out] at S) | ((with_reducible refine tot_done ?ht ?_); (case ht => kernel_rfl)) | ((with_reducible apply wps_text S); (case hm => kernel_rfl); (case hB => decide +kernel); clear S; intro wz S) | ((with_reducible apply wps_load S 0); (case hx | hi | hu => rfl); (case hT => decide +kernel)) | ((with_reducible apply wps_loada (T := 123) (k := 5) S 0); (case hx | hi => rfl); (case hk => exact Nat.le_of_ble_eq_true rfl); (case hT => decide +kernel))
      go_ret
      exact ⟨_, by simp, S.pick [1, 2] rfl⟩
end Go.Proofs.YtfiiaechippboaaDoor
/- The walk of the reference machine's Step. -/
namespace Go.Proofs.YtfiiaechippboaaDoor
open Go Go.RowKit Reg Mem

set_option maxRecDepth 100000 in
set_option maxHeartbeats 8000000 in
theorem rstepD_calls (F : Nat → Prop) (w : World) (R : Nat) (e : Event) (vp vs : Value) (fan : Int) (cs : List Int) (k : Nat) (sent : List Emit) (p : List Instr)
    (S : St F w w [Blk false R (rmCells e vp ⟨cs, k, sent⟩ fan vs) 119, Own 91 Emit.cells 4 vs sent, Sl true Instr.cells 5 vp p])
    (h8 : cs.length = 8) (_hs : sent.length ≤ 65536) (hp : p.length ≤ 64)
    (x : Instr) (hk : k < p.length) (hx : p[k]? = some x) (hm : mayE x p.length = 0) (hop : (x.op = 10 ∧ cellN x.a) ∨ (x.op = 11 ∧ cellN x.a) ∨ (x.op = 12 ∧ cellN x.a) ∨ (x.op = 13 ∧ cellN x.a)) :
    Calls Tryd.prog 57 #[.pointer (some ⟨R, 0, none⟩)] w (RStepPost F R e vp fan (stepE p e fan ⟨cs, k, sent⟩) ⟨cs, k, sent⟩ w) := by
  obtain ⟨ad, cap, rfl, _⟩ := (S.sl 2 rfl).elim fun _ h => h.form
  have H8 := Lib.hid (show (Mach.mk cs k sent).cs.length = 8 from h8)
  clear h8
  have hk2 : (k : Int) < p.length := by omega
  obtain ⟨RP, oP, rfl⟩ : ∃ R o, ad = some ⟨R, o, none⟩ := (S.sl 2 rfl).elim fun F h => h.head (by omega)
  have hst : stepE p e fan ⟨cs, k, sent⟩ = if x.op = 15 ∨ mayE x p.length ≠ 0 then none else some (doE e fan ⟨cs, k + 1, sent⟩ x) := by
    unfold stepE
    rw [if_neg (by simp; omega)]
    simp only [Int.toNat_natCast, hx]
  have HM := Lib.hid fun w => rmay_calls x p.length w
  have HX := Lib.hid hm
  rw [hm] at HM
  clear hm
  obtain ⟨op, a, b, c, d⟩ := x
  simp only at hop hst
  have Hx := Lib.hid hx
  have Hst := Lib.hid hst
  clear hx hst
  have H8b : ∀ (a v : Int), Hid (((Mach.mk cs k sent).put a v).cs.length = 8) := fun a v => by show _ = _; unfold Mach.put; rw [List.length_set]; exact H8.out
  rcases hop with ⟨rfl, na, ha, rfl⟩ | ⟨rfl, na, ha, rfl⟩ | ⟨rfl, na, ha, rfl⟩ | ⟨rfl, na, ha, rfl⟩
  · skip
    rw [Hst.out, if_neg (fun h => h.elim (by decide) (fun h => h HX.out)), show doE e fan ⟨cs, k + 1, sent⟩ ⟨10, na, b, c, d⟩ = (Mach.mk cs (k + 1) sent).put na (e.key.at_) by simp [doE]]
    go_enter Tryd.func57, Tryd.ntmps57
    go_wp2_with first | ((with_reducible apply wps_alloca (E := 123) S); (case hz => exact Tryd.zeroValue123); clear S; intro bx wz S) | ((with_reducible apply wps_loada_el S 2 (hj := Hx.out) (q := 0) (vs := [.int .i64 (⟨10,na,b,c,d⟩:Instr).op, .int .i64 (⟨10,na,b,c,d⟩:Instr).a, .int .i64 (⟨10,na,b,c,d⟩:Instr).b, .int .i64 (⟨10,na,b,c,d⟩:Instr).c, .int .i64 (⟨10,na,b,c,d⟩:Instr).d]) (m := 5)); (case hx | hi => rfl); (case hn => omega); (case hm | hv => rfl); (case hT => decide +kernel)) | ((with_reducible apply wps_storea (T := 123) S 0 (vs := [.int .i64 10, .int .i64 na, .int .i64 b, .int .i64 c, .int .i64 d]) (m := 5)); (case hx | hy | hi | hm | h1 => rfl); (case hn => exact Nat.le_of_ble_eq_true rfl); (case hT => decide +kernel); clear S; intro wz S; simp only [List.set_cons_zero, List.set_cons_succ, setAll, List.setIfInBounds_toArray] at S) | ((with_reducible apply wps_load S 0 (hu := rm_at (m:=⟨cs,(k:Int),sent⟩) H8.out)); (case hx | hi => rfl); (case hT => decide +kernel)) | ((with_reducible apply wps_load S 0 (hu := rm_prog)); (case hx | hi => rfl); (case hT => decide +kernel)) | ((with_reducible apply wps_load S 1 (hu := rm_at (m:=⟨cs,(k:Int),sent⟩) H8.out)); (case hx | hi => rfl); (case hT => decide +kernel)) | ((with_reducible apply wps_load S 1 (hu := rm_prog)); (case hx | hi => rfl); (case hT => decide +kernel)) | (go_at_call 59; refine Calls.mono (HM.out _) ?_; rintro e wz ⟨rfl, hE⟩; replace S := S.ext (Keep.of_below hE); clear hE) | ((with_reducible apply wps_load S 1 (hu := rm_ev (q := 0) (by decide) rfl)); (case hx | hi => rfl); (case hT => decide +kernel)) | ((with_reducible apply wps_store S 1 (n := (9+na)) (u := .int .i64 (e.key.at_))); (case hx | hy | hi | h1 => rfl); (case hT => decide +kernel); (case hn => first | omega | (rw [mach_size H8.out]; omega) | (rw [mach_size H8.out]; decide) | (rw [rm_size H8.out]; omega) | (rw [rm_size H8.out]; decide) | (rw [rm_size (H8b _ _).out]; decide)); clear S; intro wz S; simp only [List.set_cons_succ, List.set_cons_zero] at S; rw [rm_put (m:=⟨cs,(k:Int),sent⟩) H8.out ha] at S) | ((with_reducible apply wps_store S 1 (n := 17) (u := .int .i64 ((k:Int)+1))); (case hx | hy | hi | h1 => rfl); (case hT => decide +kernel); (case hn => first | omega | (rw [mach_size H8.out]; omega) | (rw [mach_size H8.out]; decide) | (rw [rm_size H8.out]; omega) | (rw [rm_size H8.out]; decide) | (rw [rm_size (H8b _ _).out]; decide)); clear S; intro wz S; simp only [List.set_cons_succ, List.set_cons_zero] at S; rw [rm_setat (m:=(Mach.mk cs k sent).put na (e.key.at_)) (H8b _ _).out] at S) | ((with_reducible refine tot_done ?ht ?_); (case ht => kernel_rfl)) | ((with_reducible apply wps_text S); (case hm => kernel_rfl); (case hB => decide +kernel); clear S; intro wz S) | ((with_reducible apply wps_load S 0); (case hx | hi | hu => rfl); (case hT => decide +kernel)) | ((with_reducible apply wps_loada (T := 123) (k := 5) S 0); (case hx | hi => rfl); (case hk => exact Nat.le_of_ble_eq_true rfl); (case hT => decide +kernel))
    go_ret
    exact ⟨_, by simp, S.pick [1, 2] rfl⟩
  · skip
    rw [Hst.out, if_neg (fun h => h.elim (by decide) (fun h => h HX.out)), show doE e fan ⟨cs, k + 1, sent⟩ ⟨11, na, b, c, d⟩ = (Mach.mk cs (k + 1) sent).put na (e.kind) by simp [doE]]
    go_enter Tryd.func57, Tryd.ntmps57
    go_wp2_with first | ((with_reducible apply wps_alloca (E := 123) S); (case hz => exact Tryd.zeroValue123); clear S; intro bx wz S) | ((with_reducible apply wps_loada_el S 2 (hj := Hx.out) (q := 0) (vs := [.int .i64 (⟨11,na,b,c,d⟩:Instr).op, .int .i64 (⟨11,na,b,c,d⟩:Instr).a, .int .i64 (⟨11,na,b,c,d⟩:Instr).b, .int .i64 (⟨11,na,b,c,d⟩:Instr).c, .int .i64 (⟨11,na,b,c,d⟩:Instr).d]) (m := 5)); (case hx | hi => rfl); (case hn => omega); (case hm | hv => rfl); (case hT => decide +kernel)) | ((with_reducible apply wps_storea (T := 123) S 0 (vs := [.int .i64 11, .int .i64 na, .int .i64 b, .int .i64 c, .int .i64 d]) (m := 5)); (case hx | hy | hi | hm | h1 => rfl); (case hn => exact Nat.le_of_ble_eq_true rfl); (case hT => decide +kernel); clear S; intro wz S; simp only [List.set_cons_zero, List.set_cons_succ, setAll, List.setIfInBounds_toArray] at S) | ((with_reducible apply wps_load S 0 (hu := rm_at (m:=⟨cs,(k:Int),sent⟩) H8.out)); (case hx | hi => rfl); (case hT => decide +kernel)) | ((with_reducible apply wps_load S 0 (hu := rm_prog)); (case hx | hi => rfl); (case hT => decide +kernel)) | ((with_reducible apply wps_load S 1 (hu := rm_at (m:=⟨cs,(k:Int),sent⟩) H8.out)); (case hx | hi => rfl); (case hT => decide +kernel)) | ((with_reducible apply wps_load S 1 (hu := rm_prog)); (case hx | hi => rfl); (case hT => decide +kernel)) | (go_at_call 59; refine Calls.mono (HM.out _) ?_; rintro e wz ⟨rfl, hE⟩; replace S := S.ext (Keep.of_below hE); clear hE) | ((with_reducible apply wps_load S 1 (hu := rm_ev (q := 5) (by decide) rfl)); (case hx | hi => rfl); (case hT => decide +kernel)) | ((with_reducible apply wps_store S 1 (n := (9+na)) (u := .int .i64 (e.kind))); (case hx | hy | hi | h1 => rfl); (case hT => decide +kernel); (case hn => first | omega | (rw [mach_size H8.out]; omega) | (rw [mach_size H8.out]; decide) | (rw [rm_size H8.out]; omega) | (rw [rm_size H8.out]; decide) | (rw [rm_size (H8b _ _).out]; decide)); clear S; intro wz S; simp only [List.set_cons_succ, List.set_cons_zero] at S; rw [rm_put (m:=⟨cs,(k:Int),sent⟩) H8.out ha] at S) | ((with_reducible apply wps_store S 1 (n := 17) (u := .int .i64 ((k:Int)+1))); (case hx | hy | hi | h1 => rfl); (case hT => decide +kernel); (case hn => first | omega | (rw [mach_size H8.out]; omega) | (rw [mach_size H8.out]; decide) | (rw [rm_size H8.out]; omega) | (rw [rm_size H8.out]; decide) | (rw [rm_size (H8b _ _).out]; decide)); clear S; intro wz S; simp only [List.set_cons_succ, List.set_cons_zero] at S; rw [rm_setat (m:=(Mach.mk cs k sent).put na (e.kind)) (H8b _ _).out] at S) | ((with_reducible refine tot_done ?ht ?_); (case ht => kernel_rfl)) | ((with_reducible apply wps_text S); (case hm => kernel_rfl); (case hB => decide +kernel); clear S; intro wz S) | ((with_reducible apply wps_load S 0); (case hx | hi | hu => rfl); (case hT => decide +kernel)) | ((with_reducible apply wps_loada (T := 123) (k := 5) S 0); (case hx | hi => rfl); (case hk => exact Nat.le_of_ble_eq_true rfl); (case hT => decide +kernel))
    go_ret
    exact ⟨_, by simp, S.pick [1, 2] rfl⟩
  · skip
    rw [Hst.out, if_neg (fun h => h.elim (by decide) (fun h => h HX.out)), show doE e fan ⟨cs, k + 1, sent⟩ ⟨12, na, b, c, d⟩ = (Mach.mk cs (k + 1) sent).put na (e.data) by simp [doE]]
    go_enter Tryd.func57, Tryd.ntmps57
    go_wp2_with first | ((with_reducible apply wps_alloca (E := 123) S); (case hz => exact Tryd.zeroValue123); clear S; intro bx wz S) | ((with_reducible apply wps_loada_el S 2 (hj := Hx.out) (q := 0) (vs := [.int .i64 (⟨12,na,b,c,d⟩:Instr).op, .int .i64 (⟨12,na,b,c,d⟩:Instr).a, .int .i64 (⟨12,na,b,c,d⟩:Instr).b, .int .i64 (⟨12,na,b,c,d⟩:Instr).c, .int .i64 (⟨12,na,b,c,d⟩:Instr).d]) (m := 5)); (case hx | hi => rfl); (case hn => omega); (case hm | hv => rfl); (case hT => decide +kernel)) | ((with_reducible apply wps_storea (T := 123) S 0 (vs := [.int .i64 12, .int .i64 na, .int .i64 b, .int .i64 c, .int .i64 d]) (m := 5)); (case hx | hy | hi | hm | h1 => rfl); (case hn => exact Nat.le_of_ble_eq_true rfl); (case hT => decide +kernel); clear S; intro wz S; simp only [List.set_cons_zero, List.set_cons_succ, setAll, List.setIfInBounds_toArray] at S) | ((with_reducible apply wps_load S 0 (hu := rm_at (m:=⟨cs,(k:Int),sent⟩) H8.out)); (case hx | hi => rfl); (case hT => decide +kernel)) | ((with_reducible apply wps_load S 0 (hu := rm_prog)); (case hx | hi => rfl); (case hT => decide +kernel)) | ((with_reducible apply wps_load S 1 (hu := rm_at (m:=⟨cs,(k:Int),sent⟩) H8.out)); (case hx | hi => rfl); (case hT => decide +kernel)) | ((with_reducible apply wps_load S 1 (hu := rm_prog)); (case hx | hi => rfl); (case hT => decide +kernel)) | (go_at_call 59; refine Calls.mono (HM.out _) ?_; rintro e wz ⟨rfl, hE⟩; replace S := S.ext (Keep.of_below hE); clear hE) | ((with_reducible apply wps_load S 1 (hu := rm_ev (q := 6) (by decide) rfl)); (case hx | hi => rfl); (case hT => decide +kernel)) | ((with_reducible apply wps_store S 1 (n := (9+na)) (u := .int .i64 (e.data))); (case hx | hy | hi | h1 => rfl); (case hT => decide +kernel); (case hn => first | omega | (rw [mach_size H8.out]; omega) | (rw [mach_size H8.out]; decide) | (rw [rm_size H8.out]; omega) | (rw [rm_size H8.out]; decide) | (rw [rm_size (H8b _ _).out]; decide)); clear S; intro wz S; simp only [List.set_cons_succ, List.set_cons_zero] at S; rw [rm_put (m:=⟨cs,(k:Int),sent⟩) H8.out ha] at S) | ((with_reducible apply wps_store S 1 (n := 17) (u := .int .i64 ((k:Int)+1))); (case hx | hy | hi | h1 => rfl); (case hT => decide +kernel); (case hn => first | omega | (rw [mach_size H8.out]; omega) | (rw [mach_size H8.out]; decide) | (rw [rm_size H8.out]; omega) | (rw [rm_size H8.out]; decide) | (rw [rm_size (H8b _ _).out]; decide)); clear S; intro wz S; simp only [List.set_cons_succ, List.set_cons_zero] at S; rw [rm_setat (m:=(Mach.mk cs k sent).put na (e.data)) (H8b _ _).out] at S) | ((with_reducible refine tot_done ?ht ?_); (case ht => kernel_rfl)) | ((with_reducible apply wps_text S); (case hm => kernel_rfl); (case hB => decide +kernel); clear S; intro wz S) | ((with_reducible apply wps_load S 0); (case hx | hi | hu => rfl); (case hT => decide +kernel)) | ((with_reducible apply wps_loada (T := 123) (k := 5) S 0); (case hx | hi => rfl); (case hk => exact Nat.le_of_ble_eq_true rfl); (case hT => decide +kernel))
    go_ret
    exact ⟨_, by simp, S.pick [1, 2] rfl⟩
  · skip
    rw [Hst.out, if_neg (fun h => h.elim (by decide) (fun h => h HX.out)), show doE e fan ⟨cs, k + 1, sent⟩ ⟨13, na, b, c, d⟩ = (Mach.mk cs (k + 1) sent).put na (e.dst) by simp [doE]]
    go_enter Tryd.func57, Tryd.ntmps57
    go_wp2_with first | ((with_reducible apply wps_alloca (E := 123) S); (case hz => exact Tryd.zeroValue123); clear S; intro bx wz S) | ((with_reducible apply wps_loada_el S 2 (hj := Hx.out) (q := 0) (vs := [.int .i64 (⟨13,na,b,c,d⟩:Instr).op, .int .i64 (⟨13,na,b,c,d⟩:Instr).a, .int .i64 (⟨13,na,b,c,d⟩:Instr).b, .int .i64 (⟨13,na,b,c,d⟩:Instr).c, .int .i64 (⟨13,na,b,c,d⟩:Instr).d]) (m := 5)); (case hx | hi => rfl); (case hn => omega); (case hm | hv => rfl); (case hT => decide +kernel)) | ((with_reducible apply wps_storea (T := 123) S 0 (vs := [.int .i64 13, .int .i64 na, .int .i64 b, .int .i64 c, .int .i64 d]) (m := 5)); (case hx | hy | hi | hm | h1 => rfl); (case hn => exact Nat.le_of_ble_eq_true rfl); (case hT => decide +kernel); clear S; intro wz S; simp only [List.set_cons_zero, List.set_cons_succ, setAll, List.setIfInBounds_toArray] at S) | ((with_reducible apply wps_load S 0 (hu := rm_at (m:=⟨cs,(k:Int),sent⟩) H8.out)); (case hx | hi => rfl); (case hT => decide +kernel)) | ((with_reducible apply wps_load S 0 (hu := rm_prog)); (case hx | hi => rfl); (case hT => decide +kernel)) | ((with_reducible apply wps_load S 1 (hu := rm_at (m:=⟨cs,(k:Int),sent⟩) H8.out)); (case hx | hi => rfl); (case hT => decide +kernel)) | ((with_reducible apply wps_load S 1 (hu := rm_prog)); (case hx | hi => rfl); (case hT => decide +kernel)) | (go_at_call 59; refine Calls.mono (HM.out _) ?_; rintro e wz ⟨rfl, hE⟩; replace S := S.ext (Keep.of_below hE); clear hE) | ((with_reducible apply wps_load S 1 (hu := rm_ev (q := 4) (by decide) rfl)); (case hx | hi => rfl); (case hT => decide +kernel)) | ((with_reducible apply wps_store S 1 (n := (9+na)) (u := .int .i64 (e.dst))); (case hx | hy | hi | h1 => rfl); (case hT => decide +kernel); (case hn => first | omega | (rw [mach_size H8.out]; omega) | (rw [mach_size H8.out]; decide) | (rw [rm_size H8.out]; omega) | (rw [rm_size H8.out]; decide) | (rw [rm_size (H8b _ _).out]; decide)); clear S; intro wz S; simp only [List.set_cons_succ, List.set_cons_zero] at S; rw [rm_put (m:=⟨cs,(k:Int),sent⟩) H8.out ha] at S) | ((with_reducible apply wps_store S 1 (n := 17) (u := .int .i64 ((k:Int)+1))); (case hx | hy | hi | h1 => rfl); (case hT => decide +kernel); (case hn => first | omega | (rw [mach_size H8.out]; omega) | (rw [mach_size H8.out]; decide) | (rw [rm_size H8.out]; omega) | (rw [rm_size H8.out]; decide) | (rw [rm_size (H8b _ _).out]; decide)); clear S; intro wz S; simp only [List.set_cons_succ, List.set_cons_zero] at S; rw [rm_setat (m:=(Mach.mk cs k sent).put na (e.dst)) (H8b _ _).out] at S) | ((with_reducible refine tot_done ?ht ?_); (case ht => kernel_rfl)) | ((with_reducible apply wps_text S); (case hm => kernel_rfl); (case hB => decide +kernel); clear S; intro wz S) | ((with_reducible apply wps_load S 0); (case hx | hi | hu => rfl); (case hT => decide +kernel)) | ((with_reducible apply wps_loada (T := 123) (k := 5) S 0); (case hx | hi => rfl); (case hk => exact Nat.le_of_ble_eq_true rfl); (case hT => decide +kernel))
    go_ret
    exact ⟨_, by simp, S.pick [1, 2] rfl⟩
end Go.Proofs.YtfiiaechippboaaDoor
/- The walk of the reference machine's Step. -/
namespace Go.Proofs.YtfiiaechippboaaDoor
open Go Go.RowKit Reg Mem

set_option maxRecDepth 100000 in
set_option maxHeartbeats 8000000 in
theorem rstepE_calls (F : Nat → Prop) (w : World) (R : Nat) (e : Event) (vp vs : Value) (fan : Int) (cs : List Int) (k : Nat) (sent : List Emit) (p : List Instr)
    (S : St F w w [Blk false R (rmCells e vp ⟨cs, k, sent⟩ fan vs) 119, Own 91 Emit.cells 4 vs sent, Sl true Instr.cells 5 vp p])
    (h8 : cs.length = 8) (hs : sent.length ≤ 65536) (hp : p.length ≤ 64)
    (x : Instr) (hk : k < p.length) (hx : p[k]? = some x) (hm : mayE x p.length = 0) (hop : (x.op = 14 ∧ cellN x.a ∧ cellN x.b ∧ cellN x.c) ∨ (x.op = 15)) :
    Calls Tryd.prog 57 #[.pointer (some ⟨R, 0, none⟩)] w (RStepPost F R e vp fan (stepE p e fan ⟨cs, k, sent⟩) ⟨cs, k, sent⟩ w) := by
  obtain ⟨ad, cap, rfl, _⟩ := (S.sl 2 rfl).elim fun _ h => h.form
  have H8 := Lib.hid (show (Mach.mk cs k sent).cs.length = 8 from h8)
  clear h8
  have hk2 : (k : Int) < p.length := by omega
  obtain ⟨RP, oP, rfl⟩ : ∃ R o, ad = some ⟨R, o, none⟩ := (S.sl 2 rfl).elim fun F h => h.head (by omega)
  have hst : stepE p e fan ⟨cs, k, sent⟩ = if x.op = 15 ∨ mayE x p.length ≠ 0 then none else some (doE e fan ⟨cs, k + 1, sent⟩ x) := by
    unfold stepE
    rw [if_neg (by simp; omega)]
    simp only [Int.toNat_natCast, hx]
  have HM := Lib.hid fun w => rmay_calls x p.length w
  have HX := Lib.hid hm
  rw [hm] at HM
  clear hm
  obtain ⟨op, a, b, c, d⟩ := x
  simp only at hop hst
  have Hx := Lib.hid hx
  have Hst := Lib.hid hst
  clear hx hst
  have H8b : ∀ (a v : Int), Hid (((Mach.mk cs k sent).put a v).cs.length = 8) := fun a v => by show _ = _; unfold Mach.put; rw [List.length_set]; exact H8.out
  rcases hop with ⟨rfl, ⟨na, ha, rfl⟩, ⟨nb, hb, rfl⟩, nc, hc, rfl⟩ | rfl
  · skip
    obtain ⟨ads, caps, rfl⟩ : ∃ ad cap, vs = .slice ad sent.length cap := by
      obtain ⟨F1, hF1⟩ := S.get (i := 1) rfl
      exact hF1.1.form
    by_cases h0 : (sent.length : Int) < fan
    · have k1 : decide ((sent.length : Int) < fan) = true := decide_eq_true h0
      rw [Hst.out, if_neg (fun h => h.elim (by decide) (fun h => h HX.out)), show doE e fan ⟨cs, k + 1, sent⟩ ⟨14, na, nb, nc, d⟩ = (⟨cs, k + 1, sent ++ [(⟨(Mach.mk cs k sent).get na,(Mach.mk cs k sent).get nb,d,(Mach.mk cs k sent).get nc⟩:Emit)]⟩ : Mach) by simp [doE, Mach.get, h0]]
      go_enter Tryd.func57, Tryd.ntmps57
      go_wp2_with first | ((with_reducible apply wps_alloca (E := 123) S); (case hz => exact Tryd.zeroValue123); clear S; intro bx wz S) | ((with_reducible apply wps_loada_el S 2 (hj := Hx.out) (q := 0) (vs := [.int .i64 (⟨14,na,nb,nc,d⟩:Instr).op, .int .i64 (⟨14,na,nb,nc,d⟩:Instr).a, .int .i64 (⟨14,na,nb,nc,d⟩:Instr).b, .int .i64 (⟨14,na,nb,nc,d⟩:Instr).c, .int .i64 (⟨14,na,nb,nc,d⟩:Instr).d]) (m := 5)); (case hx | hi => rfl); (case hn => omega); (case hm | hv => rfl); (case hT => decide +kernel)) | ((with_reducible apply wps_storea (T := 123) S 0 (vs := [.int .i64 14, .int .i64 na, .int .i64 nb, .int .i64 nc, .int .i64 d]) (m := 5)); (case hx | hy | hi | hm | h1 => rfl); (case hn => exact Nat.le_of_ble_eq_true rfl); (case hT => decide +kernel); clear S; intro wz S; simp only [List.set_cons_zero, List.set_cons_succ, setAll, List.setIfInBounds_toArray] at S) | ((with_reducible apply wps_load S 0 (hu := rm_at (m:=⟨cs,(k:Int),sent⟩) H8.out)); (case hx | hi => rfl); (case hT => decide +kernel)) | ((with_reducible apply wps_load S 0 (hu := rm_prog)); (case hx | hi => rfl); (case hT => decide +kernel)) | ((with_reducible apply wps_load S 1 (hu := rm_at (m:=⟨cs,(k:Int),sent⟩) H8.out)); (case hx | hi => rfl); (case hT => decide +kernel)) | ((with_reducible apply wps_load S 1 (hu := rm_prog)); (case hx | hi => rfl); (case hT => decide +kernel)) | (go_at_call 59; refine Calls.mono (HM.out _) ?_; rintro e wz ⟨rfl, hE⟩; replace S := S.ext (Keep.of_below hE); clear hE) | ((with_reducible apply wps_load S 1 (hu := rm_sent (m:=⟨cs,(k:Int),sent⟩) H8.out)); (case hx | hi => rfl); (case hT => decide +kernel)) | ((with_reducible apply wps_load S 1 (hu := rm_fan)); (case hx | hi => rfl); (case hT => decide +kernel)) | ((with_reducible apply wps_load S 1 (hu := rm_cell (m:=⟨cs,(k:Int),sent⟩) H8.out ha)); (case hx | hi => rfl); (case hT => decide +kernel)) | ((with_reducible apply wps_load S 1 (hu := rm_cell (m:=⟨cs,(k:Int),sent⟩) H8.out hb)); (case hx | hi => rfl); (case hT => decide +kernel)) | ((with_reducible apply wps_load S 1 (hu := rm_cell (m:=⟨cs,(k:Int),sent⟩) H8.out hc)); (case hx | hi => rfl); (case hT => decide +kernel)) | ((with_reducible apply wps_build1a (T := 88) (E := 91) S); (case hx => rfl); (case hr => intro w; kernel_rfl); clear S; intro bzn wz S) | ((with_reducible apply wps_append1 elem_REm emcells emone (by decide) S 3 (j := 0) (e := (⟨(Mach.mk cs k sent).get na,(Mach.mk cs k sent).get nb,d,(Mach.mk cs k sent).get nc⟩:Emit))); (case hx | hy | hi | hj | he => rfl); (case hl => first | omega | (simp; omega)); clear S; intro azn nzn czn wz hnzn S; simp only [List.set_cons_succ, List.set_cons_zero] at S) | ((with_reducible apply wps_store S 2 (n := 18) (u := .slice azn nzn czn)); (case hx | hy | hi | h1 => rfl); (case hT => decide +kernel); (case hn => first | omega | (rw [mach_size H8.out]; omega) | (rw [mach_size H8.out]; decide) | (rw [rm_size H8.out]; omega) | (rw [rm_size H8.out]; decide) | (rw [rm_size (H8b _ _).out]; decide)); clear S; intro wz S; simp only [List.set_cons_succ, List.set_cons_zero] at S; rw [rm_setsent (m:=⟨cs,(k:Int),sent⟩) H8.out _ (sent ++ [(⟨(Mach.mk cs k sent).get na,(Mach.mk cs k sent).get nb,d,(Mach.mk cs k sent).get nc⟩:Emit)])] at S) | ((with_reducible apply wps_store S 2 (n := 17) (u := .int .i64 ((k:Int)+1))); (case hx | hy | hi | h1 => rfl); (case hT => decide +kernel); (case hn => first | omega | (rw [mach_size H8.out]; omega) | (rw [mach_size H8.out]; decide) | (rw [rm_size H8.out]; omega) | (rw [rm_size H8.out]; decide) | (rw [rm_size (H8b _ _).out]; decide)); clear S; intro wz S; simp only [List.set_cons_succ, List.set_cons_zero] at S; rw [rm_setat (m:=⟨cs,(k:Int),sent ++ [(⟨(Mach.mk cs k sent).get na,(Mach.mk cs k sent).get nb,d,(Mach.mk cs k sent).get nc⟩:Emit)]⟩) H8.out] at S) | ((with_reducible refine tot_done ?ht ?_); (case ht => kernel_rfl)) | ((with_reducible apply wps_text S); (case hm => kernel_rfl); (case hB => decide +kernel); clear S; intro wz S) | ((with_reducible apply wps_load S 0); (case hx | hi | hu => rfl); (case hT => decide +kernel)) | ((with_reducible apply wps_loada (T := 123) (k := 5) S 0); (case hx | hi => rfl); (case hk => exact Nat.le_of_ble_eq_true rfl); (case hT => decide +kernel))
      go_ret
      exact ⟨_, by simp, S.pick [2, 3] rfl⟩
    · have k1 : decide ((sent.length : Int) < fan) = false := decide_eq_false h0
      rw [Hst.out, if_neg (fun h => h.elim (by decide) (fun h => h HX.out)), show doE e fan ⟨cs, k + 1, sent⟩ ⟨14, na, nb, nc, d⟩ = (⟨cs, k + 1, sent⟩ : Mach) by simp [doE, h0]]
      go_enter Tryd.func57, Tryd.ntmps57
      go_wp2_with first | ((with_reducible apply wps_alloca (E := 123) S); (case hz => exact Tryd.zeroValue123); clear S; intro bx wz S) | ((with_reducible apply wps_loada_el S 2 (hj := Hx.out) (q := 0) (vs := [.int .i64 (⟨14,na,nb,nc,d⟩:Instr).op, .int .i64 (⟨14,na,nb,nc,d⟩:Instr).a, .int .i64 (⟨14,na,nb,nc,d⟩:Instr).b, .int .i64 (⟨14,na,nb,nc,d⟩:Instr).c, .int .i64 (⟨14,na,nb,nc,d⟩:Instr).d]) (m := 5)); (case hx | hi => rfl); (case hn => omega); (case hm | hv => rfl); (case hT => decide +kernel)) | ((with_reducible apply wps_storea (T := 123) S 0 (vs := [.int .i64 14, .int .i64 na, .int .i64 nb, .int .i64 nc, .int .i64 d]) (m := 5)); (case hx | hy | hi | hm | h1 => rfl); (case hn => exact Nat.le_of_ble_eq_true rfl); (case hT => decide +kernel); clear S; intro wz S; simp only [List.set_cons_zero, List.set_cons_succ, setAll, List.setIfInBounds_toArray] at S) | ((with_reducible apply wps_load S 0 (hu := rm_at (m:=⟨cs,(k:Int),sent⟩) H8.out)); (case hx | hi => rfl); (case hT => decide +kernel)) | ((with_reducible apply wps_load S 0 (hu := rm_prog)); (case hx | hi => rfl); (case hT => decide +kernel)) | ((with_reducible apply wps_load S 1 (hu := rm_at (m:=⟨cs,(k:Int),sent⟩) H8.out)); (case hx | hi => rfl); (case hT => decide +kernel)) | ((with_reducible apply wps_load S 1 (hu := rm_prog)); (case hx | hi => rfl); (case hT => decide +kernel)) | (go_at_call 59; refine Calls.mono (HM.out _) ?_; rintro e wz ⟨rfl, hE⟩; replace S := S.ext (Keep.of_below hE); clear hE) | ((with_reducible apply wps_load S 1 (hu := rm_sent (m:=⟨cs,(k:Int),sent⟩) H8.out)); (case hx | hi => rfl); (case hT => decide +kernel)) | ((with_reducible apply wps_load S 1 (hu := rm_fan)); (case hx | hi => rfl); (case hT => decide +kernel)) | ((with_reducible apply wps_store S 1 (n := 17) (u := .int .i64 ((k:Int)+1))); (case hx | hy | hi | h1 => rfl); (case hT => decide +kernel); (case hn => first | omega | (rw [mach_size H8.out]; omega) | (rw [mach_size H8.out]; decide) | (rw [rm_size H8.out]; omega) | (rw [rm_size H8.out]; decide) | (rw [rm_size (H8b _ _).out]; decide)); clear S; intro wz S; simp only [List.set_cons_succ, List.set_cons_zero] at S; rw [rm_setat (m:=⟨cs,(k:Int),sent⟩) H8.out] at S) | ((with_reducible refine tot_done ?ht ?_); (case ht => kernel_rfl)) | ((with_reducible apply wps_text S); (case hm => kernel_rfl); (case hB => decide +kernel); clear S; intro wz S) | ((with_reducible apply wps_load S 0); (case hx | hi | hu => rfl); (case hT => decide +kernel)) | ((with_reducible apply wps_loada (T := 123) (k := 5) S 0); (case hx | hi => rfl); (case hk => exact Nat.le_of_ble_eq_true rfl); (case hT => decide +kernel))
      go_ret
      exact ⟨_, by simp, S.pick [1, 2] rfl⟩
  · skip
    rw [Hst.out, if_pos (.inl rfl)]
    go_enter Tryd.func57, Tryd.ntmps57
    go_wp2_with first | ((with_reducible apply wps_alloca (E := 123) S); (case hz => exact Tryd.zeroValue123); clear S; intro bx wz S) | ((with_reducible apply wps_loada_el S 2 (hj := Hx.out) (q := 0) (vs := [.int .i64 (⟨15,a,b,c,d⟩:Instr).op, .int .i64 (⟨15,a,b,c,d⟩:Instr).a, .int .i64 (⟨15,a,b,c,d⟩:Instr).b, .int .i64 (⟨15,a,b,c,d⟩:Instr).c, .int .i64 (⟨15,a,b,c,d⟩:Instr).d]) (m := 5)); (case hx | hi => rfl); (case hn => omega); (case hm | hv => rfl); (case hT => decide +kernel)) | ((with_reducible apply wps_storea (T := 123) S 0 (vs := [.int .i64 15, .int .i64 a, .int .i64 b, .int .i64 c, .int .i64 d]) (m := 5)); (case hx | hy | hi | hm | h1 => rfl); (case hn => exact Nat.le_of_ble_eq_true rfl); (case hT => decide +kernel); clear S; intro wz S; simp only [List.set_cons_zero, List.set_cons_succ, setAll, List.setIfInBounds_toArray] at S) | ((with_reducible apply wps_load S 0 (hu := rm_at (m:=⟨cs,(k:Int),sent⟩) H8.out)); (case hx | hi => rfl); (case hT => decide +kernel)) | ((with_reducible apply wps_load S 0 (hu := rm_prog)); (case hx | hi => rfl); (case hT => decide +kernel)) | ((with_reducible apply wps_load S 1 (hu := rm_prog)); (case hx | hi => rfl); (case hT => decide +kernel)) | (go_at_call 59; refine Calls.mono (HM.out _) ?_; rintro e wz ⟨rfl, hE⟩; replace S := S.ext (Keep.of_below hE); clear hE) | ((with_reducible refine tot_done ?ht ?_); (case ht => kernel_rfl)) | ((with_reducible apply wps_text S); (case hm => kernel_rfl); (case hB => decide +kernel); clear S; intro wz S) | ((with_reducible apply wps_load S 0); (case hx | hi | hu => rfl); (case hT => decide +kernel)) | ((with_reducible apply wps_loada (T := 123) (k := 5) S 0); (case hx | hi => rfl); (case hk => exact Nat.le_of_ble_eq_true rfl); (case hT => decide +kernel))
    go_ret
    exact ⟨_, by simp, S.pick [1, 2] rfl⟩
end Go.Proofs.YtfiiaechippboaaDoor
/- The walk of the reference machine's Step. -/
namespace Go.Proofs.YtfiiaechippboaaDoor
open Go Go.RowKit Reg Mem

set_option maxRecDepth 100000 in
set_option maxHeartbeats 8000000 in
theorem rstep_calls (F : Nat → Prop) (w : World) (R : Nat) (e : Event) (vp vs : Value) (fan : Int) (cs : List Int) (k : Nat) (sent : List Emit) (p : List Instr)
    (S : St F w w [Blk false R (rmCells e vp ⟨cs, k, sent⟩ fan vs) 119, Own 91 Emit.cells 4 vs sent, Sl true Instr.cells 5 vp p])
    (h8 : cs.length = 8) (hs : sent.length ≤ 65536) (hp : p.length ≤ 64) :
    Calls Tryd.prog 57 #[.pointer (some ⟨R, 0, none⟩)] w (RStepPost F R e vp fan (stepE p e fan ⟨cs, k, sent⟩) ⟨cs, k, sent⟩ w) := by
  obtain ⟨ad, cap, rfl, _⟩ := (S.sl 2 rfl).elim fun _ h => h.form
  have H8 := Lib.hid (show (Mach.mk cs k sent).cs.length = 8 from h8)
  clear h8
  by_cases hk : k < p.length
  case neg =>
    have hk2 : (p.length : Int) ≤ k := by omega
    rw [show stepE p e fan ⟨cs, k, sent⟩ = none by unfold stepE; rw [if_pos (.inr hk2)]]
    go_enter Tryd.func57, Tryd.ntmps57
    go_wp2_with first | ((with_reducible apply wps_load S 0 (hu := rm_at (m:=⟨cs,(k:Int),sent⟩) H8.out)); (case hx | hi => rfl); (case hT => decide +kernel)) | ((with_reducible apply wps_load S 0 (hu := rm_prog)); (case hx | hi => rfl); (case hT => decide +kernel)) | ((with_reducible refine tot_done ?ht ?_); (case ht => kernel_rfl)) | ((with_reducible apply wps_text S); (case hm => kernel_rfl); (case hB => decide +kernel); clear S; intro wz S)
    go_ret
    exact ⟨vs, by simp, S.pick [0, 1] rfl⟩
  case pos =>
    have hk2 : (k : Int) < p.length := by omega
    obtain ⟨x, hx⟩ : ∃ x, p[k]? = some x := ⟨_, List.getElem?_eq_getElem hk⟩
    obtain ⟨RP, oP, rfl⟩ : ∃ R o, ad = some ⟨R, o, none⟩ := (S.sl 2 rfl).elim fun F h => h.head (by omega)
    have hst : stepE p e fan ⟨cs, k, sent⟩ = if x.op = 15 ∨ mayE x p.length ≠ 0 then none else some (doE e fan ⟨cs, k + 1, sent⟩ x) := by
      unfold stepE
      rw [if_neg (by simp; omega)]
      simp only [Int.toNat_natCast, hx]
    have HM := Lib.hid fun w => rmay_calls x p.length w
    by_cases hm : mayE x p.length = 0
    case neg =>
      rw [if_pos (.inr hm)] at hst
      rw [hst]
      clear hst
      obtain ⟨er, her⟩ : ∃ er, mayE x p.length = er := ⟨_, rfl⟩
      rw [her] at HM hm
      have hm2 : (er != 0) = true := by simpa using hm
      clear her
      have Hx := Lib.hid hx
      clear hx
      go_enter Tryd.func57, Tryd.ntmps57
      go_wp2_with first | go_skip | ((with_reducible apply wps_alloca (E := 123) S); (case hz => exact Tryd.zeroValue123); clear S; intro bx wz S) | ((with_reducible apply wps_loada_el S 2 (hj := Hx.out) (q := 0) (vs := [.int .i64 x.op, .int .i64 x.a, .int .i64 x.b, .int .i64 x.c, .int .i64 x.d]) (m := 5)); (case hx | hi => rfl); (case hn => omega); (case hm | hv => rfl); (case hT => decide +kernel)) | ((with_reducible apply wps_storea (T := 123) S 0 (vs := [.int .i64 x.op, .int .i64 x.a, .int .i64 x.b, .int .i64 x.c, .int .i64 x.d]) (m := 5)); (case hx | hy | hi | hm | h1 => rfl); (case hn => exact Nat.le_of_ble_eq_true rfl); (case hT => decide +kernel); clear S; intro wz S; simp only [List.set_cons_zero, List.set_cons_succ, setAll, List.setIfInBounds_toArray] at S) | ((with_reducible apply wps_load S 0 (hu := rm_at (m:=⟨cs,(k:Int),sent⟩) H8.out)); (case hx | hi => rfl); (case hT => decide +kernel)) | ((with_reducible apply wps_load S 0 (hu := rm_prog)); (case hx | hi => rfl); (case hT => decide +kernel)) | ((with_reducible apply wps_load S 1 (hu := rm_prog)); (case hx | hi => rfl); (case hT => decide +kernel)) | (go_at_call 59; refine Calls.mono (HM.out _) ?_; rintro e wz ⟨rfl, hE⟩; replace S := S.ext (Keep.of_below hE); clear hE) | ((with_reducible refine tot_done ?ht ?_); (case ht => kernel_rfl)) | ((with_reducible apply wps_text S); (case hm => kernel_rfl); (case hB => decide +kernel); clear S; intro wz S) | ((with_reducible apply wps_loada (T := 123) (k := 5) S 0); (case hx | hi => rfl); (case hk => exact Nat.le_of_ble_eq_true rfl); (case hT => decide +kernel))
      go_ret
      exact ⟨vs, by simp, S.pick [1, 2] rfl⟩
    have hop := may_op hm
    clear hst HM
    unfold MayOp at hop
    rcases hop with h | h | h | h | h | h | h | h | h | h | h
    · exact rstepA_calls F w R e _ vs fan cs k sent p S H8.out hs hp x hk hx hm (.inl h)
    · exact rstepA_calls F w R e _ vs fan cs k sent p S H8.out hs hp x hk hx hm (.inr h)
    · exact rstepB_calls F w R e _ vs fan cs k sent p S H8.out hs hp x hk hx hm h
    · exact rstepC_calls F w R e _ vs fan cs k sent p S H8.out hs hp x hk hx hm (.inl h)
    · exact rstepC_calls F w R e _ vs fan cs k sent p S H8.out hs hp x hk hx hm (.inr h)
    · exact rstepD_calls F w R e _ vs fan cs k sent p S H8.out hs hp x hk hx hm (.inl h)
    · exact rstepD_calls F w R e _ vs fan cs k sent p S H8.out hs hp x hk hx hm (.inr (.inl h))
    · exact rstepD_calls F w R e _ vs fan cs k sent p S H8.out hs hp x hk hx hm (.inr (.inr (.inl h)))
    · exact rstepD_calls F w R e _ vs fan cs k sent p S H8.out hs hp x hk hx hm (.inr (.inr (.inr h)))
    · exact rstepE_calls F w R e _ vs fan cs k sent p S H8.out hs hp x hk hx hm (.inl h)
    · exact rstepE_calls F w R e _ vs fan cs k sent p S H8.out hs hp x hk hx hm (.inr h)
end Go.Proofs.YtfiiaechippboaaDoor
/- The walks of the reference machine's New and Run. -/
namespace Go.Proofs.YtfiiaechippboaaDoor
open Go Go.RowKit Reg Mem

section
variable {P : Program} {ops : Array Oper} {rest : List Oper} {a : Act} {Q : Exit → Act → World → Prop} {d : Option Tmp} {tt : TypeId} {p : String} {af : Array Edge} {gd : Option (Nat × Bool)} {x : Operand}
variable {G : Nat → Prop} {w0 w : World} {L : List Asn}
/-- 's[:len(s)]' is s. -/
theorem wps_sliceAll {α : Type} {sh : Bool} {enc : α → List Value} {k n c : Nat} {ad : Option Addr} {xs : List α} (S : St G w0 w L) (i : Nat) (hi : L[i]? = some (Sl sh enc k (.slice ad n c) xs)) {T E : TypeId} {h : Operand} {kk : Nat}
    (hT : P.underlying T = some (.slice E)) (hE : ∀ w, (sizeOf E).run P w = .ok kk w) (hx : a.eval x = .slice ad n c) (hh : a.eval h = .int .i64 n)
    (next : wpList P ops Q rest (a.put d (.slice ad n c)) w) (hgd : gOk gd ops a = true := by with_unfolding_all rfl) :
    wpList P ops Q ({ dst := d, op := .slice T x none (some h) none, type := tt, pos := p, after := af, guard := gd } :: rest) a w :=
  wpList_ok hgd fun K hK => by
    obtain ⟨F, hs⟩ := S.sl i hi
    have hc : n ≤ c := by obtain ⟨a', c', e, h3, _⟩ := hs; simp only [Value.slice.injEq] at e; omega
    have e1 : (if c = 0 then ad else ad.map (·.add (0 * kk))) = ad := by
      split
      · rfl
      · cases ad with
        | none => rfl
        | some q => simp [Addr.add]
    have := run_sliceAt_sl (w := w) hT (hE w) ad n c 0 n none (some (.int .i64 n)) (.inl ⟨rfl, rfl⟩) (.inr rfl) (Nat.zero_le _) hc
    rw [e1] at this
    unfold Oper.wp execOp
    simp only [Option.map_none, Option.map_some, hx, hh, this, Sem.run_bind, Sem.run_pure, Result.andThen_ok]
    exact hK _ _ next
end
def RNewPost (s : State) (e : Event) (vp : Value) (fan : Int) (w : World) (r : Ending) (w' : World) : Prop :=
  ∃ R, r = .returned (.pointer (some ⟨R, 0, none⟩)) ∧ St (fun _ => False) w w' [Blk false R (rmCells e vp (startE s) fan nilS) 119, Own 91 Emit.cells 4 nilS []]
def RNRel (Rm bs : Nat) (s : State) (e : Event) (vp : Value) (fan : Int) (w : World) (i : Value) (wr : World) : Prop :=
  ∃ (k : Nat) (a b c d : Int), i = .int .i64 k ∧ ((k = 0 ∧ a = 0 ∧ b = 0 ∧ c = 0 ∧ d = 0) ∨ (k = 1 ∧ a = s.n0 ∧ b = 0 ∧ c = 0 ∧ d = 0) ∨ (k = 2 ∧ a = s.n0 ∧ b = s.n1 ∧ c = 0 ∧ d = 0) ∨ (k = 3 ∧ a = s.n0 ∧ b = s.n1 ∧ c = s.n2 ∧ d = 0) ∨ (k = 4 ∧ a = s.n0 ∧ b = s.n1 ∧ c = s.n2 ∧ d = s.n3)) ∧
    St (fun _ => False) w wr [Blk false Rm #[vp, .int .i64 e.key.at_, .int .i64 e.key.src, .int .i64 e.key.sent, .int .i64 e.key.no, .int .i64 e.dst, .int .i64 e.kind, .int .i64 e.data, .int .i64 fan, .int .i64 a, .int .i64 b, .int .i64 c, .int .i64 d, .int .i64 0, .int .i64 0, .int .i64 0, .int .i64 0, .int .i64 0, nilS] 119, Blk false bs #[.int .i64 s.n0, .int .i64 s.n1, .int .i64 s.n2, .int .i64 s.n3] 28]
set_option maxRecDepth 100000 in
set_option maxHeartbeats 8000000 in
theorem rnew_calls (ad : Option Addr) (cap : Nat) (p : List Instr) (s : State) (e : Event) (fan : Int) (w : World) (F : Nat → Prop) (h : (Sl true Instr.cells 5 (.slice ad p.length cap) p).at_ w F) (hp : p.length ≤ 64) :
    Calls Tryd.prog 56 #[.slice ad p.length cap, .agg #[.int .i64 s.n0, .int .i64 s.n1, .int .i64 s.n2, .int .i64 s.n3], .agg #[.int .i64 e.key.at_, .int .i64 e.key.src, .int .i64 e.key.sent, .int .i64 e.key.no, .int .i64 e.dst, .int .i64 e.kind, .int .i64 e.data], .int .i64 fan] w (RNewPost s e (.slice ad p.length cap) fan w) := by
  have S : St (fun _ => False) w w [Sl true Instr.cells 5 (.slice ad p.length cap) p] := (St.init _ w).share rfl rfl h
  clear h
  have hp2 : (p.length : Int) ≤ 64 := by omega
  go_enter Tryd.func56, Tryd.ntmps56
  go_wp2_with first | ((with_reducible apply wps_boxa (E := 28) S); (case hx => rfl); clear S; intro bs wz S) | ((with_reducible apply wps_boxa (E := 54) S); (case hx => rfl); clear S; intro be wz S)
  (refine wp_region_w (soft := [0, 1, 2, 3, 4, 5, 6, 7]) S ?hm ?hB ?_); (case hm => kernel_rfl); (case hB => decide +kernel); clear S
  iterate 8
    (with_reducible apply softs_cons)
    (case hw =>
      (with_reducible apply soft_of); (case hi => rfl)
      intro T wz S
      simp only [List.cons_append, List.nil_append] at S
      go_wp2_with first | ((with_reducible apply wps_sliceAll (E := 123) (kk := 5) S 2); (case hx | hi => rfl); (case hT => exact Tryd.underlying86); (case hE => intro w; kernel_rfl); (case hh => rfl)) | ((with_reducible apply wps_loada (T := 54) (k := 7) S 0); (case hx | hi => rfl); (case hk => exact Nat.le_of_ble_eq_true rfl); (case hT => decide +kernel)) | ((with_reducible refine tot_done ?ht ?_); (case ht => kernel_rfl))
      exact ⟨rfl, S⟩)
    (case hs => exact ⟨_, rfl, by kernel_rfl⟩)
  refine softs_nil ?_
  repeat'
    (first
      | ((with_reducible apply W_hard1 (i := 8)); (case hn => rfl); (case hr => decide +kernel)) | ((with_reducible apply W_hard1 (i := 9)); (case hn => rfl); (case hr => decide +kernel)) | ((with_reducible apply W_hard2 (i := 8) (i' := 9)); (case hn => rfl); (case hr => decide +kernel)))
    all_goals
      intro wz S
      (with_reducible apply hard_of); (case hi => rfl)
      simp only [List.cons_append, List.nil_append] at S
      try simp only [pick, nth] at S
      go_wp2_with first | ((with_reducible apply wps_boxa (E := 119) S); (case hx => rfl); clear S; intro bm wz S) | ((with_reducible refine tot_done ?ht ?_); (case ht => kernel_rfl))
      first
        | refine ⟨_, S.pick [1, 2, 3, 4, 5, 6, 7, 8, 9, 0] rfl, ?_⟩
        | refine ⟨_, S.pick [1, 2, 3, 4, 5, 6, 7, 8, 0] rfl, ?_⟩
        | refine ⟨_, S.pick [1, 2, 3, 4, 5, 6, 7, 0] rfl, ?_⟩
        | refine ⟨_, S.pick [1, 2, 3, 4, 5, 6, 0] rfl, ?_⟩
        | refine ⟨_, S.pick [1, 2, 3, 4, 5, 0] rfl, ?_⟩
        | refine ⟨_, S.pick [1, 2, 3, 4, 0] rfl, ?_⟩
        | refine ⟨_, S.pick [1, 2, 3, 0] rfl, ?_⟩
        | refine ⟨_, S, ?_⟩
  (with_reducible apply W_done); (case hn => rfl); (case hr => decide +kernel)
  clear S
  intro wz S
  simp only [List.cons_append, List.nil_append] at S
  try simp only [pick, nth] at S
  replace S := S.pick [3, 1] rfl
  repeat (first | simp only at S | simp only [pick] at S | simp only [nth] at S | simp only [List.set_cons_succ] at S | simp only [List.set_cons_zero] at S | simp only [List.setIfInBounds_toArray] at S | simp only [setAll] at S | simp only [List.cons_append] at S | simp only [List.nil_append] at S | simp only [List.append_nil] at S)
  generalize Value.slice ad p.length cap = vp at *
  go_wp2_with first | ((with_reducible apply wps_loada (T := 54) (k := 7) S 0); (case hx | hi => rfl); (case hk => exact Nat.le_of_ble_eq_true rfl); (case hT => decide +kernel))
  go_loopw [10] (fun i wr => RNRel bm bs s e vp fan w i wr) (fun i _ => 4 - (intOf i).toNat)
  case atStart => exact ⟨0, 0, 0, 0, 0, rfl, .inl ⟨rfl, rfl, rfl, rfl, rfl⟩, S⟩
  case round =>
    clear S
    obtain ⟨k, a, b, c, d, rfl, hk, S⟩ := hrel
    rcases hk with ⟨rfl, rfl, rfl, rfl, rfl⟩ | ⟨rfl, rfl, rfl, rfl, rfl⟩ | ⟨rfl, rfl, rfl, rfl, rfl⟩ | ⟨rfl, rfl, rfl, rfl, rfl⟩ | ⟨rfl, rfl, rfl, rfl, rfl⟩
    · skip
      go_wp2_with first | ((with_reducible apply wps_store S 0); (case hx | hy | hi | h1 => rfl); (case hn => exact Nat.le_of_ble_eq_true rfl); (case hT => decide +kernel); clear S; intro wz S; simp only [List.set_cons_succ, List.set_cons_zero, List.setIfInBounds_toArray] at S) | ((with_reducible refine tot_done ?ht ?_); (case ht => kernel_rfl)) | ((with_reducible apply wps_text S); (case hm => kernel_rfl); (case hB => decide +kernel); clear S; intro wz S) | ((with_reducible apply wps_load S 1); (case hx | hi | hu => rfl); (case hT => decide +kernel))
      go_roundw
      case rel => exact ⟨1, _, _, _, _, by go_num, by simp, S⟩
      case measure => first | (simp [intOf]; done) | (simp [intOf]; omega)
    · skip
      go_wp2_with first | ((with_reducible apply wps_store S 0); (case hx | hy | hi | h1 => rfl); (case hn => exact Nat.le_of_ble_eq_true rfl); (case hT => decide +kernel); clear S; intro wz S; simp only [List.set_cons_succ, List.set_cons_zero, List.setIfInBounds_toArray] at S) | ((with_reducible refine tot_done ?ht ?_); (case ht => kernel_rfl)) | ((with_reducible apply wps_text S); (case hm => kernel_rfl); (case hB => decide +kernel); clear S; intro wz S) | ((with_reducible apply wps_load S 1); (case hx | hi | hu => rfl); (case hT => decide +kernel))
      go_roundw
      case rel => exact ⟨2, _, _, _, _, by go_num, by simp, S⟩
      case measure => first | (simp [intOf]; done) | (simp [intOf]; omega)
    · skip
      go_wp2_with first | ((with_reducible apply wps_store S 0); (case hx | hy | hi | h1 => rfl); (case hn => exact Nat.le_of_ble_eq_true rfl); (case hT => decide +kernel); clear S; intro wz S; simp only [List.set_cons_succ, List.set_cons_zero, List.setIfInBounds_toArray] at S) | ((with_reducible refine tot_done ?ht ?_); (case ht => kernel_rfl)) | ((with_reducible apply wps_text S); (case hm => kernel_rfl); (case hB => decide +kernel); clear S; intro wz S) | ((with_reducible apply wps_load S 1); (case hx | hi | hu => rfl); (case hT => decide +kernel))
      go_roundw
      case rel => exact ⟨3, _, _, _, _, by go_num, by simp, S⟩
      case measure => first | (simp [intOf]; done) | (simp [intOf]; omega)
    · skip
      go_wp2_with first | ((with_reducible apply wps_store S 0); (case hx | hy | hi | h1 => rfl); (case hn => exact Nat.le_of_ble_eq_true rfl); (case hT => decide +kernel); clear S; intro wz S; simp only [List.set_cons_succ, List.set_cons_zero, List.setIfInBounds_toArray] at S) | ((with_reducible refine tot_done ?ht ?_); (case ht => kernel_rfl)) | ((with_reducible apply wps_text S); (case hm => kernel_rfl); (case hB => decide +kernel); clear S; intro wz S) | ((with_reducible apply wps_load S 1); (case hx | hi | hu => rfl); (case hT => decide +kernel))
      go_roundw
      case rel => exact ⟨4, _, _, _, _, by go_num, by simp, S⟩
      case measure => first | (simp [intOf]; done) | (simp [intOf]; omega)
    · go_wp2_with first | ((with_reducible apply wps_loada (T := 54) (k := 7) S 0); (case hx | hi => rfl); (case hk => exact Nat.le_of_ble_eq_true rfl); (case hT => decide +kernel))
      go_ret
      exact ⟨_, rfl, (S.pick [0] rfl).nil 91 Emit.cells 4 |>.pick [1, 0] rfl⟩
end Go.Proofs.YtfiiaechippboaaDoor
