import Derived.Test.YtkcnbejpmknaoaaDoorProg
import Derived.Test.YtkcnbejpmknaoaaDoorW04
import Derived.Test.YtkcnbejpmknaoaaDoorW05
import Derived.WalkKit
import Derived.WalkSpells
import Derived.WalkLawsBesides
import Derived.Lib.IfaceEq
/- The walks of the library's Clone, rangeError, toError, Atoi. -/
namespace Go.Proofs.YtkcnbejpmknaoaaDoor
open Go Go.RowKit Reg Mem

set_option maxRecDepth 100000 in
theorem byteOf : ByteOf Tryd.prog 50 5 := ⟨Tryd.underlying50, Tryd.underlying5, ⟨_, rfl, by kernel_rfl, by kernel_rfl, by kernel_rfl⟩⟩
set_option maxRecDepth 100000 in
theorem zero_Byte : zeroIs Tryd.prog 5 1 (bcell 0) := ⟨_, .int .u8 0, rfl, by kernel_rfl, by kernel_rfl, rfl, by decide⟩
structure LibVars (tE : TypeId) (pE : Value) (w : World) : Prop where
  size : 9 ≤ w.heap.size
  maxLen : ∃ m, w.cell? ⟨1, 0, none⟩ = some (.int .i64 m)
  range : w.cell? ⟨6, 0, none⟩ = some (.iface tE pE)
  pow : Lib.TabIs Tryd.prog w "internal/strconv.uint64pow10" .u64 Lib.pow10Tab
theorem gPow : Tryd.prog.globalNamed "internal/strconv.uint64pow10" = some 2 := by kernel_rfl
def LibA (tE : TypeId) (pE : Value) : Asn where
  sh := true
  at_ w F := LibVars tE pE w ∧ ∀ b, F b ↔ b < 9
  loc {w w' F} h hb := by
    refine ⟨?_, h.2⟩
    have h8 := hb 8 ((h.2 8).2 (by omega))
    have hs : 8 < w'.heap.size := by
      have hh : 8 < w.heap.size := by have := h.1.size; omega
      rw [Array.getElem?_eq_getElem hh] at h8
      exact (Array.getElem?_eq_some_iff.1 h8).1
    have hq : ∀ b, b < 9 → w'.heap[b]? = w.heap[b]? := fun b hb9 => hb b ((h.2 b).2 hb9)
    have h0 := h.1
    refine ⟨by omega, ?_, ?_, ?_⟩
    · obtain ⟨m, hm⟩ := h0.maxLen
      exact ⟨m, (World.cell?_of_block (w := w) (a := ⟨1, 0, none⟩) (hq 1 (by omega))).trans hm⟩
    · exact (World.cell?_of_block (w := w) (a := ⟨6, 0, none⟩) (hq 6 (by omega))).trans h0.range
    · have h4 := h0.pow
      unfold Lib.TabIs at *
      rw [← h4]
      simp only [World.var?, gPow, Option.bind_some, hq 2 (by omega)]
  lt h b hb := by have := (h.2 b).1 hb; have := h.1.size; omega
set_option maxRecDepth 100000 in
set_option maxHeartbeats 4000000 in
theorem clone_calls (l : List UInt8) (w : World) (hn : l.length ≤ 4294967296) : Calls Tryd.prog 76 #[strV l] w fun e w' => e = .returned (strV l) ∧ Below w.heap.size w w' := by
  have S := St.init (fun _ => False) w
  by_cases h0 : l = []
  · subst h0
    go_enter Tryd.func76, Tryd.ntmps76
    go_wp2_with first | ((with_reducible apply wps_slen (T := 9)); (case hx => rfl); (case hT => exact Tryd.underlying9)) | ((with_reducible refine tot_done ?ht ?_); (case ht => kernel_rfl))
    go_ret
    exact ⟨rfl, S.below⟩
  · have hl : 0 < l.length := List.length_pos_iff.2 h0
    have h1 : ((l.length : Int) == 0) = false := by rw [beq_eq_false_iff_ne]; omega
    have H0 := Lib.hid h0
    clear h0
    go_enter Tryd.func76, Tryd.ntmps76
    go_wp2_with first | ((with_reducible apply wps_slen (T := 9)); (case hx => rfl); (case hT => exact Tryd.underlying9)) | ((with_reducible apply wps_make bcells Tryd.underlying50 _ zero_Byte S (n := l.length)); (case hx | hy => rfl); (case hn => omega); clear S; intro bz wz S) | ((with_reducible apply wps_copystr byteOf List.length_replicate S 0); (case hi | hx | hy | hm => rfl); clear S; intro wz S; simp only [List.set_cons_zero] at S) | ((with_reducible apply wps_unsafestr (l := l) (PT := 76) (E := 5) Tryd.underlying76 (by kernel_rfl) S H0.out); (case hx | hy => rfl); (case hn => omega); clear S; intro wz S) | ((with_reducible refine tot_done ?ht ?_); (case ht => kernel_rfl))
    go_ret
    exact ⟨rfl, S.below⟩
end Go.Proofs.YtkcnbejpmknaoaaDoor
namespace Go.Proofs.YtkcnbejpmknaoaaDoor.Mem
open Go Go.RowKit Reg
section
variable {ops : Array Oper} {rest : List Oper} {a : Act} {Q : Exit → Act → World → Prop} {d : Option Tmp} {tt : TypeId} {p : String} {af : Array Edge} {gd : Option (Nat × Bool)} {x y : Operand}
variable {G : Nat → Prop} {w0 w : World} {L : List Asn}
theorem wps_loadlib {tE : TypeId} {pE : Value} (S : St G w0 w L) (i : Nat) (hi : L[i]? = some (LibA tE pE)) {T : TypeId} (hx : a.eval x = .pointer (some ⟨6, 0, none⟩)) (hT : leafB Tryd.prog T = true)
    (next : wpList Tryd.prog ops Q rest (a.put d (.iface tE pE)) w) (hgd : gOk gd ops a = true := by with_unfolding_all rfl) : wpList Tryd.prog ops Q ({ dst := d, op := .load T x, type := tt, pos := p, after := af, guard := gd } :: rest) a w :=
  wpList_ok hgd fun K hK => by
    obtain ⟨F, hF⟩ := S.get hi
    unfold Oper.wp execOp
    simp only [Instr.loadAt, hx, Instr.sureAddr, Sem.run_bind, Sem.run_pure, Result.andThen_ok, run_load_leaf hT hF.1.range]
    exact hK _ _ next
end
end Go.Proofs.YtkcnbejpmknaoaaDoor.Mem
namespace Go.Proofs.YtkcnbejpmknaoaaDoor
open Go Go.RowKit Reg Mem
set_option maxRecDepth 100000 in
set_option maxHeartbeats 4000000 in
theorem ranger_calls (tE : TypeId) (pE : Value) (f l : List UInt8) (w : World) (F : Nat → Prop) (h : (LibA tE pE).at_ w F) (hn : l.length ≤ 4294967296) : Calls Tryd.prog 70 #[strV f, strV l] w fun e w' => ∃ N, e = .returned (.pointer (some ⟨N, 0, none⟩)) ∧ Below w.heap.size w w' := by
  have S : St (fun _ => False) w w [LibA tE pE] := (St.init _ w).share rfl rfl h
  clear h
  have HC : Hid (∀ w : World, Calls Tryd.prog 76 #[.string (str l)] w fun e w' => e = .returned (.string (str l)) ∧ Below w.heap.size w w') := Lib.hid fun w => clone_calls l w hn
  show Calls Tryd.prog 70 #[.string (str f), .string (str l)] w _
  generalize str l = sl at HC ⊢
  generalize str f = sf
  go_enter Tryd.func70, Tryd.ntmps70
  go_upto_region 1 with first | ((with_reducible refine tot_done ?ht ?_); (case ht => kernel_rfl)) | ((with_reducible apply wps_text S); (case hm => kernel_rfl); (case hB => decide +kernel); clear S; intro wz S) | ((with_reducible apply wps_boxa S); (case hx => rfl); clear S; intro bz wz S) | ((with_reducible apply wps_box1 (v := .int _ _) S); (case hx | h1 => rfl); clear S; intro bz wz S) | ((with_reducible apply wps_box1 (v := .bool _) S); (case hx | h1 => rfl); clear S; intro bz wz S) | ((with_reducible apply wps_box1 (v := .slice _ _ _) S); (case hx | h1 => rfl); clear S; intro bz wz S) | ((with_reducible apply wps_box1 (v := .pointer _) S); (case hx | h1 => rfl); clear S; intro bz wz S) | ((with_reducible apply wps_box1 (v := .map _) S); (case hx | h1 => rfl); clear S; intro bz wz S) | ((with_reducible apply wps_box1 (v := .string _) S); (case hx | h1 => rfl); clear S; intro bz wz S) | ((with_reducible apply wps_box1 (v := .func _ _ _) S); (case hx | h1 => rfl); clear S; intro bz wz S) | ((with_reducible apply wps_load S 0); (case hx | hi | hu => rfl); (case hT => decide +kernel))
  (refine wp_region_w (soft := [0, 1, 2, 3, 4]) S ?hm ?hB ?_); (case hm => kernel_rfl); (case hB => decide +kernel); clear S
  iterate 5
    (with_reducible apply softs_cons)
    (case hw =>
      (with_reducible apply soft_of); (case hi => rfl)
      intro T wz S
      simp only [List.cons_append, List.nil_append] at S
      go_wp2_with first | (go_at_call 76; refine Calls.mono (HC.out _) ?_; rintro e wz ⟨rfl, hE⟩; replace S := S.ext (Keep.of_below hE); clear hE) | ((with_reducible apply wps_loadlib S 0); (case hi | hx => rfl); (case hT => decide +kernel)) | ((with_reducible apply wps_boxa (E := 121) S); (case hx => rfl); clear S; intro bN wz S) | ((with_reducible refine tot_done ?ht ?_); (case ht => kernel_rfl)) | ((with_reducible apply wps_boxa S); (case hx => rfl); clear S; intro bz wz S) | ((with_reducible apply wps_box1 (v := .int _ _) S); (case hx | h1 => rfl); clear S; intro bz wz S) | ((with_reducible apply wps_box1 (v := .bool _) S); (case hx | h1 => rfl); clear S; intro bz wz S) | ((with_reducible apply wps_box1 (v := .slice _ _ _) S); (case hx | h1 => rfl); clear S; intro bz wz S) | ((with_reducible apply wps_box1 (v := .pointer _) S); (case hx | h1 => rfl); clear S; intro bz wz S) | ((with_reducible apply wps_box1 (v := .map _) S); (case hx | h1 => rfl); clear S; intro bz wz S) | ((with_reducible apply wps_box1 (v := .string _) S); (case hx | h1 => rfl); clear S; intro bz wz S) | ((with_reducible apply wps_box1 (v := .func _ _ _) S); (case hx | h1 => rfl); clear S; intro bz wz S) | ((with_reducible apply wps_load S 0); (case hx | hi | hu => rfl); (case hT => decide +kernel))
      exact ⟨rfl, S⟩)
    (case hs => exact ⟨_, rfl, by kernel_rfl⟩)
  refine softs_nil ?_
  (with_reducible apply W_hard1 (i := 5)); (case hn => rfl); (case hr => decide +kernel)
  intro wz S
  (with_reducible apply hard_of); (case hi => rfl)
  simp only [List.cons_append, List.nil_append] at S
  go_wp2_with first | (go_at_call 76; refine Calls.mono (HC.out _) ?_; rintro e wz ⟨rfl, hE⟩; replace S := S.ext (Keep.of_below hE); clear hE) | ((with_reducible apply wps_loadlib S 0); (case hi | hx => rfl); (case hT => decide +kernel)) | ((with_reducible apply wps_boxa (E := 121) S); (case hx => rfl); clear S; intro bN wz S) | ((with_reducible refine tot_done ?ht ?_); (case ht => kernel_rfl)) | ((with_reducible apply wps_boxa S); (case hx => rfl); clear S; intro bz wz S) | ((with_reducible apply wps_box1 (v := .int _ _) S); (case hx | h1 => rfl); clear S; intro bz wz S) | ((with_reducible apply wps_box1 (v := .bool _) S); (case hx | h1 => rfl); clear S; intro bz wz S) | ((with_reducible apply wps_box1 (v := .slice _ _ _) S); (case hx | h1 => rfl); clear S; intro bz wz S) | ((with_reducible apply wps_box1 (v := .pointer _) S); (case hx | h1 => rfl); clear S; intro bz wz S) | ((with_reducible apply wps_box1 (v := .map _) S); (case hx | h1 => rfl); clear S; intro bz wz S) | ((with_reducible apply wps_box1 (v := .string _) S); (case hx | h1 => rfl); clear S; intro bz wz S) | ((with_reducible apply wps_box1 (v := .func _ _ _) S); (case hx | h1 => rfl); clear S; intro bz wz S) | ((with_reducible apply wps_load S 0); (case hx | hi | hu => rfl); (case hT => decide +kernel))
  refine ⟨_, S.pick [1, 0] rfl, ?_⟩
  clear S
  (refine W_mid (f := 0) (soft := [6]) rfl ?hB ?_); (case hB => decide +kernel)
  iterate 1
    (with_reducible apply softs_cons)
    (case hw =>
      (with_reducible apply soft_of); (case hi => rfl)
      intro T wz S
      simp only [List.cons_append, List.nil_append] at S
      go_wp2_with first | (go_at_call 76; refine Calls.mono (HC.out _) ?_; rintro e wz ⟨rfl, hE⟩; replace S := S.ext (Keep.of_below hE); clear hE) | ((with_reducible apply wps_loadlib S 0); (case hi | hx => rfl); (case hT => decide +kernel)) | ((with_reducible apply wps_boxa (E := 121) S); (case hx => rfl); clear S; intro bN wz S) | ((with_reducible refine tot_done ?ht ?_); (case ht => kernel_rfl)) | ((with_reducible apply wps_boxa S); (case hx => rfl); clear S; intro bz wz S) | ((with_reducible apply wps_box1 (v := .int _ _) S); (case hx | h1 => rfl); clear S; intro bz wz S) | ((with_reducible apply wps_box1 (v := .bool _) S); (case hx | h1 => rfl); clear S; intro bz wz S) | ((with_reducible apply wps_box1 (v := .slice _ _ _) S); (case hx | h1 => rfl); clear S; intro bz wz S) | ((with_reducible apply wps_box1 (v := .pointer _) S); (case hx | h1 => rfl); clear S; intro bz wz S) | ((with_reducible apply wps_box1 (v := .map _) S); (case hx | h1 => rfl); clear S; intro bz wz S) | ((with_reducible apply wps_box1 (v := .string _) S); (case hx | h1 => rfl); clear S; intro bz wz S) | ((with_reducible apply wps_box1 (v := .func _ _ _) S); (case hx | h1 => rfl); clear S; intro bz wz S) | ((with_reducible apply wps_load S 0); (case hx | hi | hu => rfl); (case hT => decide +kernel))
      exact ⟨rfl, S⟩)
    (case hs => exact ⟨_, rfl, by kernel_rfl⟩)
  refine softs_nil ?_
  (with_reducible apply W_done); (case hn => rfl); (case hr => decide +kernel)
  intro wz S
  repeat (first | simp only at S | simp only [pick] at S | simp only [nth] at S | simp only [List.set_cons_succ] at S | simp only [List.set_cons_zero] at S | simp only [List.setIfInBounds_toArray] at S | simp only [setAll] at S | simp only [List.cons_append] at S | simp only [List.nil_append] at S | simp only [List.append_nil] at S)
  go_wp2_with first | ((with_reducible refine tot_done ?ht ?_); (case ht => kernel_rfl)) | ((with_reducible apply wps_text S); (case hm => kernel_rfl); (case hB => decide +kernel); clear S; intro wz S) | ((with_reducible apply wps_boxa S); (case hx => rfl); clear S; intro bz wz S) | ((with_reducible apply wps_box1 (v := .int _ _) S); (case hx | h1 => rfl); clear S; intro bz wz S) | ((with_reducible apply wps_box1 (v := .bool _) S); (case hx | h1 => rfl); clear S; intro bz wz S) | ((with_reducible apply wps_box1 (v := .slice _ _ _) S); (case hx | h1 => rfl); clear S; intro bz wz S) | ((with_reducible apply wps_box1 (v := .pointer _) S); (case hx | h1 => rfl); clear S; intro bz wz S) | ((with_reducible apply wps_box1 (v := .map _) S); (case hx | h1 => rfl); clear S; intro bz wz S) | ((with_reducible apply wps_box1 (v := .string _) S); (case hx | h1 => rfl); clear S; intro bz wz S) | ((with_reducible apply wps_box1 (v := .func _ _ _) S); (case hx | h1 => rfl); clear S; intro bz wz S) | ((with_reducible apply wps_load S 0); (case hx | hi | hu => rfl); (case hT => decide +kernel))
  go_ret
  exact ⟨_, rfl, S.below⟩
set_option maxRecDepth 100000 in
set_option maxHeartbeats 4000000 in
theorem toerr_calls (tE : TypeId) (pE : Value) (f l : List UInt8) (b c : Int) (w : World) (F : Nat → Prop) (h : (LibA tE pE).at_ w F) (hn : l.length ≤ 4294967296) : Calls Tryd.prog 60 #[strV f, strV l, .int .i64 b, .int .i64 c, .iface 110 (.int .i64 1)] w fun e w' => ∃ N, e = .returned (.iface 113 (.pointer (some ⟨N, 0, none⟩))) ∧ Below w.heap.size w w' := by
  have S : St (fun _ => False) w w [LibA tE pE] := (St.init _ w).share rfl rfl h
  clear h
  have hq12 : ∀ W, (binOp .eql 55 (.iface 110 (.int .i64 1)) (.iface 110 (.int .i64 2))).run Tryd.prog W = .ok (.bool false) W := fun W => Lib.run_eql_iface_int W 1 2 Tryd.underlying55 (by kernel_rfl) Tryd.underlying110
  have hq11 : ∀ W, (binOp .eql 55 (.iface 110 (.int .i64 1)) (.iface 110 (.int .i64 1))).run Tryd.prog W = .ok (.bool true) W := fun W => Lib.run_eql_iface_int W 1 1 Tryd.underlying55 (by kernel_rfl) Tryd.underlying110
  go_enter Tryd.func60, Tryd.ntmps60
  go_wp2_with first | (go_at_call 70; refine Calls.mono (ranger_calls tE pE _ _ _ _ (S.get (i := 0) rfl).choose_spec hn) ?_; rintro e wz ⟨N, rfl, hE⟩; replace S := S.ext (Keep.of_below hE); clear hE) | ((with_reducible refine tot_done ?ht ?_); (case ht => kernel_rfl))
  go_ret
  exact ⟨_, rfl, S.below⟩
theorem heap_freeze (w : World) (a : Addr) (n k : Nat) (h : k ≠ a.block) : (w.freeze a n).heap[k]? = w.heap[k]? := by
  unfold World.freeze
  split
  · rfl
  · simp only [Array.getElem?_modify]
    rw [if_neg (fun e => h e.symm)]
theorem size_freeze (w : World) (a : Addr) (n : Nat) : (w.freeze a n).heap.size = w.heap.size := by
  unfold World.freeze; split <;> simp
theorem bytes_below (w : World) (e : TypeId) (s : ByteArray) : Below w.heap.size w (Lib.bytesWorld w e s) := by
  unfold Lib.bytesWorld
  refine ⟨?_, ?_, ?_, ?_, fun k hk => ?_, ?_⟩
  · unfold World.freeze; split <;> rfl
  · unfold World.freeze; split <;> rfl
  · unfold World.freeze; split <;> rfl
  · rw [size_freeze]; simp
  · rw [heap_freeze _ _ _ _ (by simp only; omega)]; exact heap_alloc_old w.drew _ hk
  · unfold World.freeze; split <;> exact Nat.le_succ _
set_option maxRecDepth 100000 in
set_option maxHeartbeats 4000000 in
theorem atoi_ok (l : List UInt8) (v : Nat) (w : World) (hn : l.length ≤ 4294967296) (hv : Lib.atoiAll l = .ok (v : Int)) : Calls Tryd.prog 49 #[strV l] w fun e w' => e = .returned (.tuple #[.int .i64 v, .nilIface]) ∧ Below w.heap.size w w' := by
  have hc := Tryd.strconv_Atoi_ok (str l) (by rw [str_size]; omega) v (by rw [str_data]; exact hv) w
  refine hc.mono fun e w' ⟨he, hw⟩ => ⟨he, ?_⟩
  rcases hw with rfl | ⟨t, rfl⟩
  · exact Below.refl _ _
  · exact bytes_below _ _ _
set_option maxRecDepth 100000 in
set_option maxHeartbeats 4000000 in
theorem atoi_range (tE : TypeId) (pE : Value) (l : List UInt8) (w : World) (F : Nat → Prop) (h : (LibA tE pE).at_ w F) (hn : l.length ≤ 4294967296) (hv : Lib.atoiAll l = .range) : Calls Tryd.prog 49 #[strV l] w fun e w' => ∃ z N, e = .returned (.tuple #[.int .i64 z, .iface 113 (.pointer (some ⟨N, 0, none⟩))]) ∧ Below w.heap.size w w' := by
  have S : St (fun _ => False) w w [LibA tE pE] := (St.init _ w).share rfl rfl h
  clear h
  have HC : Hid (∀ w : World, Calls Tryd.prog 59 #[strV l] w fun e w' => e = .returned (.tuple #[.int .i64 (Lib.atoiSat l), .iface 110 (.int .i64 1)]) ∧ Below w.heap.size w w') := Lib.hid fun w => by
    have hc := Tryd.internal_strconv_Atoi_all (str l) (by rw [str_size]; omega) w
    rw [str_data, hv] at hc
    refine hc.mono fun e w' ⟨he, hw⟩ => ⟨he, ?_⟩
    rcases hw with rfl | ⟨t, rfl⟩
    · exact Below.refl _ _
    · exact bytes_below _ _ _
  generalize Lib.atoiSat l = z at HC
  clear hv
  go_enter Tryd.func49, Tryd.ntmps49
  go_wp2_with first | (go_at_call 59; refine Calls.mono (HC.out _) ?_; rintro e wz ⟨rfl, hE⟩; replace S := S.ext (Keep.of_below hE); clear hE) | (go_at_call 60; refine Calls.mono (toerr_calls tE pE [65, 116, 111, 105] l 0 0 _ _ (S.get (i := 0) rfl).choose_spec hn) ?_; rintro e wz ⟨N, rfl, hE⟩; replace S := S.ext (Keep.of_below hE); clear hE) | ((with_reducible refine tot_done ?ht ?_); (case ht => kernel_rfl))
  (try simp only [Exit.inBlock, Exit.then]); refine bodyPost_ret (results2 rfl (res_tmp rfl) (res_tmp rfl)) rfl ?_
  exact ⟨_, _, rfl, S.below⟩
end Go.Proofs.YtkcnbejpmknaoaaDoor
