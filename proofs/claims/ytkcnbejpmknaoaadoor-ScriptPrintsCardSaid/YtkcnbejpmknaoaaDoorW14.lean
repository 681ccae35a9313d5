import Derived.Test.YtkcnbejpmknaoaaDoorW13
import Derived.Test.YtkcnbejpmknaoaaDoorW06
import Derived.Lib.Builder
import Derived.Test.YtkcnbejpmknaoaaDoorW10
import Derived.Test.YtkcnbejpmknaoaaDoorW11
import Derived.Test.YtkcnbejpmknaoaaDoorW12
/- The walk of the reference's decimals (chapter 21). -/
namespace Go.Proofs.YtkcnbejpmknaoaaDoor
open Go Go.RowKit Reg Mem
set_option maxRecDepth 100000 in
theorem byte2str {b : Nat} {z : Int} {t : TypeId} {w : World} {u : UInt8} (hb : w.heap[b]? = some (.cells #[.int .u8 z] t (0, 0))) (hz : UInt8.ofNat z.toNat = u) :
    (convert 50 9 (.slice (some ⟨b, 0, none⟩) 1 1)).run Tryd.prog w = .ok (strV [u]) w := by
  have hc : w.cell? ⟨b, 0, none⟩ = some (.int .u8 z) := by simp [World.cell?, hb]
  have hl : (loadCells ⟨b, 0, none⟩ 1).run Tryd.prog w = .ok (([z] : List Int).map (Value.int .u8)).toArray w :=
    run_loadCells_list w ⟨b, 0, none⟩ [.int .u8 z] (fun j v hj => by
      match j, hj with
      | 0, hj => simp only [List.getElem?_cons_zero, Option.some.injEq] at hj; subst hj; exact hc
      | j + 1, hj => simp at hj)
  rw [run_convert_bytes_string w _ _ _ _ 1 1 Tryd.underlying50 Tryd.underlying5 Tryd.underlying9, run_bytesToString w _ 1 1 [z] hl, ← hz]
  rfl
set_option maxRecDepth 100000 in
set_option maxHeartbeats 4000000 in
theorem dec_calls : ∀ (k n : Nat) (w : World), n ≤ k → n ≤ 4096 → Calls Tryd.prog 26 #[.int .i64 n] w fun e w' => e = .returned (strV (Lib.decDigits n)) ∧ Below w.heap.size w w' := by
  intro k
  induction k with
  | zero =>
    intro n w hk hn
    obtain rfl : n = 0 := by omega
    have S := St.init (fun _ => False) w
    have HD : Hid (Lib.decDigits 0 = [UInt8.ofNat 48]) := Lib.hid (by rw [dec_step]; rfl)
    rw [HD.out]
    obtain ⟨z, hz⟩ : ∃ z : Int, ((0 : Nat) : Int) = z := ⟨_, rfl⟩
    rw [hz]
    have hm : Int.tmod z 10 = 0 := by rw [← hz]; rfl
    have c1 : ¬ (9 : Int) < z := by omega
    clear hz
    go_enter Tryd.func26, Tryd.ntmps26
    go_wp2_with first | ((with_reducible apply wps_build11 (T := 50) (E := 5) S); (case hx => rfl); (case hr => intro w; kernel_rfl); clear S; intro bz wz S) | ((with_reducible refine tot_done ?ht ?_); (case ht => kernel_rfl))
    have hb : wz.heap[bz]? = some (.cells #[.int .u8 48] _ (0, 0)) := S.blk 0 rfl
    rw [byte2str hb rfl]
    simp only [Result.andThen]
    rw [Oper.upon_value]
    clear hb
    go_wp2_with first | ((with_reducible refine tot_done ?ht ?_); (case ht => kernel_rfl))
    go_ret
    exact ⟨rfl, S.below⟩
  | succ k ih =>
    intro n w hk hn
    have S := St.init (fun _ => False) w
    have hm : Int.tmod (n : Int) 10 = ((n % 10 : Nat) : Int) := by rw [Int.tmod_eq_emod_of_nonneg (by omega)]; omega
    have hq : Int.tdiv (n : Int) 10 = ((n / 10 : Nat) : Int) := by rw [Int.tdiv_eq_ediv_of_nonneg (by omega)]; omega
    have hm9 : n % 10 < 10 := by omega
    have hq9 : n / 10 ≤ 4096 := by omega
    have HD := Lib.hid (dec_step n)
    by_cases h9 : n < 10
    · have c1 : ¬ (9 : Int) < n := by omega
      have HD2 : Hid (Lib.decDigits n = [UInt8.ofNat (48 + n % 10)]) := Lib.hid (by rw [HD.out, if_pos h9, Nat.mod_eq_of_lt h9])
      rw [HD2.out]
      clear HD HD2 hq hq9 h9
      generalize n % 10 = m at *
      obtain ⟨dg, hdg⟩ : ∃ u, UInt8.ofNat (48 + m) = u := ⟨_, rfl⟩
      rw [hdg]
      have HDG := Lib.hid hdg
      clear hdg
      go_enter Tryd.func26, Tryd.ntmps26
      go_wp2_with first | ((with_reducible apply wps_build11 (T := 50) (E := 5) S); (case hx => rfl); (case hr => intro w; kernel_rfl); clear S; intro bz wz S) | ((with_reducible refine tot_done ?ht ?_); (case ht => kernel_rfl))
      have hb : wz.heap[bz]? = some (.cells #[.int .u8 (48 + m)] _ (0, 0)) := S.blk 0 rfl
      rw [byte2str hb (show UInt8.ofNat (48 + (m : Int)).toNat = dg by rw [show (48 + (m : Int)).toNat = 48 + m by omega, HDG.out])]
      simp only [Result.andThen]
      rw [Oper.upon_value]
      clear hb
      go_wp2_with first | ((with_reducible refine tot_done ?ht ?_); (case ht => kernel_rfl))
      go_ret
      exact ⟨rfl, S.below⟩
    · have c1 : (9 : Int) < n := by omega
      have HD2 : Hid (Lib.decDigits n = Lib.decDigits (n / 10) ++ [UInt8.ofNat (48 + n % 10)]) := Lib.hid (by rw [HD.out, if_neg h9])
      have HI := Lib.hid (fun w => ih (n / 10) w (by omega) hq9)
      have hln := dec_len4 ⟨n / 10, by omega⟩
      simp only at hln
      rw [HD2.out]
      clear HD HD2 h9 ih
      generalize n % 10 = m at *
      generalize n / 10 = r at *
      generalize Lib.decDigits r = D at *
      obtain ⟨dg, hdg⟩ : ∃ u, UInt8.ofNat (48 + m) = u := ⟨_, rfl⟩
      rw [hdg]
      have HDG := Lib.hid hdg
      clear hdg
      go_enter Tryd.func26, Tryd.ntmps26
      go_wp2_with first | ((with_reducible apply wps_build11 (T := 50) (E := 5) S); (case hx => rfl); (case hr => intro w; kernel_rfl); clear S; intro bz wz S) | ((with_reducible refine tot_done ?ht ?_); (case ht => kernel_rfl))
      have hb : wz.heap[bz]? = some (.cells #[.int .u8 (48 + m)] _ (0, 0)) := S.blk 0 rfl
      rw [byte2str hb (show UInt8.ofNat (48 + (m : Int)).toNat = dg by rw [show (48 + (m : Int)).toNat = 48 + m by omega, HDG.out])]
      simp only [Result.andThen]
      rw [Oper.upon_value]
      clear hb
      go_wp2_with first | (go_at_call 26; refine Calls.mono (HI.out _) ?_; rintro e wz ⟨rfl, hE⟩; replace S := S.ext (Keep.of_below hE); clear hE) | ((with_reducible apply wps_sadd (T := 9)); (case hx | hy => rfl); (case hn => first | omega | (simp; omega))) | ((with_reducible refine tot_done ?ht ?_); (case ht => kernel_rfl))
      go_ret
      exact ⟨rfl, S.below⟩
theorem rdec_calls (n : Int) (w : World) (h0 : 0 ≤ n) (h1 : n ≤ 4096) : Calls Tryd.prog 26 #[.int .i64 n] w fun e w' => e = .returned (strV (numT n)) ∧ Below w.heap.size w w' := by
  obtain ⟨k, rfl⟩ : ∃ k : Nat, n = k := ⟨n.toNat, by omega⟩
  exact dec_calls k k w (Nat.le_refl _) (by omega)
end Go.Proofs.YtkcnbejpmknaoaaDoor
/- What a strings.Builder does, in states. -/
namespace Go.Proofs.YtkcnbejpmknaoaaDoor.Mem
open Go Go.RowKit Reg
section
variable {P : Program} {ops : Array Oper} {rest : List Oper} {a : Act} {Q : Exit → Act → World → Prop} {d : Option Tmp} {tt : TypeId} {p : String} {af : Array Edge} {gd : Option (Nat × Bool)} {x y : Operand} {w w0 : World} {G : Nat → Prop} {L : List Asn}
theorem wps_sdata {ad : Option Addr} {n c : Nat} {T : TypeId} {v' : Value} (hr : ∀ w : World, (Builtin.unsafeSliceData_ #[T] tt #[.slice ad n c]).run P w = .ok v' w) (hx : a.eval x = .slice ad n c)
    (next : wpList P ops Q rest (a.put d v') w) (hgd : gOk gd ops a = true := by with_unfolding_all rfl) : wpList P ops Q ({ dst := d, op := .call { callee := .builtin .unsafeSliceData, args := #[x], argTypes := #[T] }, type := tt, pos := p, after := af, guard := gd } :: rest) a w :=
  wpList_ok hgd fun K hK => by
    unfold Oper.wp execOp
    simp only [resolve, invoke, builtin, Sem.run_bind, Sem.run_pure, Result.andThen_ok, List.map_toArray, List.map_cons, List.map_nil, hx, hr w]
    exact hK _ _ next
theorem wps_ustr {T U : TypeId} {u v v' : Value} (hr : ∀ w : World, (Builtin.unsafeString_ #[T, U] tt #[u, v]).run P w = .ok v' w) (hx : a.eval x = u) (hy : a.eval y = v)
    (next : wpList P ops Q rest (a.put d v') w) (hgd : gOk gd ops a = true := by with_unfolding_all rfl) : wpList P ops Q ({ dst := d, op := .call { callee := .builtin .unsafeString, args := #[x, y], argTypes := #[T, U] }, type := tt, pos := p, after := af, guard := gd } :: rest) a w :=
  wpList_ok hgd fun K hK => by
    unfold Oper.wp execOp
    simp only [resolve, invoke, builtin, Sem.run_bind, Sem.run_pure, Result.andThen_ok, List.map_toArray, List.map_cons, List.map_nil, hx, hy, hr w]
    exact hK _ _ next
end
end Go.Proofs.YtkcnbejpmknaoaaDoor.Mem
namespace Go.Proofs.YtkcnbejpmknaoaaDoor
open Go Go.RowKit Reg Mem
set_option maxRecDepth 100000 in
theorem to_unsafe (b : Nat) (w : World) (hs : w.shape? b = some (52, 2)) : (convert 49 84 (.pointer (some ⟨b, 0, none⟩))).run Tryd.prog w = .ok (.pointer (some ⟨b, 0, none⟩)) w := by
  obtain ⟨j, hj⟩ : ∃ j, Tryd.prog.info? 52 = some j := Option.isSome_iff_exists.1 (by kernel_rfl)
  have hz : (Tryd.prog.info? 52).map (fun j => decide (j.size ≠ 0)) = some true := by kernel_rfl
  rw [hj] at hz
  simp only [Option.map_some, Option.some.injEq, decide_eq_true_eq] at hz
  exact Lib.run_to_unsafe w ⟨b, 0, none⟩ Tryd.underlying49 Tryd.underlying84 hj hz hs (by show 0 < 2; decide)
set_option maxRecDepth 100000 in
theorem from_unsafe (b : Nat) (w : World) (hs : w.shape? b = some (52, 2)) : (convert 84 49 (.pointer (some ⟨b, 0, none⟩))).run Tryd.prog w = .ok (.pointer (some ⟨b, 0, none⟩)) w := by
  obtain ⟨j, hj⟩ : ∃ j, Tryd.prog.info? 52 = some j := Option.isSome_iff_exists.1 (by kernel_rfl)
  exact Lib.run_from_unsafe w ⟨b, 0, none⟩ Tryd.underlying84 Tryd.underlying49 hj hs (by kernel_rfl)
set_option maxRecDepth 100000 in
set_option maxHeartbeats 4000000 in
theorem copy_used {G : Nat → Prop} {w0 w : World} {L : List Asn} (b : Nat) (v : Value) (S : St G w0 w (Blk false b #[.pointer (some ⟨b, 0, none⟩), v] 52 :: L)) :
    Calls Tryd.prog 35 #[.pointer (some ⟨b, 0, none⟩)] w fun e w' => e = .returned (.tuple #[]) ∧ St G w0 w' (Blk false b #[.pointer (some ⟨b, 0, none⟩), v] 52 :: L) := by
  obtain ⟨j, hj⟩ : ∃ j, Tryd.prog.info? 52 = some j := Option.isSome_iff_exists.1 (by kernel_rfl)
  go_enter Tryd.func35, Tryd.ntmps35
  go_wp2_with first | ((with_reducible refine tot_done ?ht ?_); (case ht => kernel_rfl)) | ((with_reducible apply wps_load S 0); (case hx | hi | hu => rfl); (case hT => decide +kernel))
  rw [Lib.run_neq_ptr_same w _ Tryd.underlying49 hj]
  simp only [Result.andThen]
  rw [Oper.upon_value]
  go_wp2_with first | ((with_reducible refine tot_done ?ht ?_); (case ht => kernel_rfl)) | ((with_reducible apply wps_load S 0); (case hx | hi | hu => rfl); (case hT => decide +kernel))
  go_end0
  exact ⟨rfl, S⟩
set_option maxRecDepth 100000 in
set_option maxHeartbeats 4000000 in
theorem copy_fresh {G : Nat → Prop} {w0 w : World} {L : List Asn} (b : Nat) (v : Value) (S : St G w0 w (Blk false b #[.pointer none, v] 52 :: L)) :
    Calls Tryd.prog 35 #[.pointer (some ⟨b, 0, none⟩)] w fun e w' => e = .returned (.tuple #[]) ∧ St G w0 w' (Blk false b #[.pointer (some ⟨b, 0, none⟩), v] 52 :: L) := by
  have hs : w.shape? b = some (52, 2) := by simp [World.shape?, S.blk 0 rfl]
  go_enter Tryd.func35, Tryd.ntmps35
  go_wp2_with first | ((with_reducible refine tot_done ?ht ?_); (case ht => kernel_rfl)) | ((with_reducible apply wps_load S 0); (case hx | hi | hu => rfl); (case hT => decide +kernel))
  rw [to_unsafe b w hs]
  simp only [Result.andThen]
  rw [Oper.upon_value]
  go_wp2_with first | ((with_reducible refine tot_done ?ht ?_); (case ht => kernel_rfl)) | ((with_reducible apply wps_load S 0); (case hx | hi | hu => rfl); (case hT => decide +kernel))
  rw [run_callFunc_extern Tryd.func43 (by kernel_rfl) (by kernel_rfl) (by kernel_rfl) (e := Extern.AbiNoEscape.same) (by kernel_rfl)]
  rw [Lib.run_noEscape]
  simp only [Result.andThen]
  rw [Oper.upon_value]
  go_wp2_with first | ((with_reducible refine tot_done ?ht ?_); (case ht => kernel_rfl)) | ((with_reducible apply wps_load S 0); (case hx | hi | hu => rfl); (case hT => decide +kernel))
  rw [from_unsafe b w hs]
  simp only [Result.andThen]
  rw [Oper.upon_value]
  clear hs
  go_wp2_with first | ((with_reducible apply wps_store (u := .pointer (some ⟨b, 0, none⟩)) S 0); (case hx | hy | hi | h1 => rfl); (case hn => exact Nat.le_of_ble_eq_true rfl); (case hT => decide +kernel); clear S; intro wz S; simp only [List.set_cons_zero, List.setIfInBounds_toArray] at S) | ((with_reducible refine tot_done ?ht ?_); (case ht => kernel_rfl)) | ((with_reducible apply wps_load S 0); (case hx | hi | hu => rfl); (case hT => decide +kernel))
  go_end0
  exact ⟨rfl, S⟩
set_option maxRecDepth 100000 in
set_option maxHeartbeats 4000000 in
theorem write_calls {G : Nat → Prop} {w0 w : World} {L : List Asn} (b : Nat) (pv v : Value) (l m : List UInt8) (hp : pv = .pointer none ∨ pv = .pointer (some ⟨b, 0, none⟩)) (hn : l.length + m.length ≤ 4294967296)
    (S : St G w0 w (Blk false b #[pv, v] 52 :: Own 5 bcell 1 v l :: L)) :
    Calls Tryd.prog 19 #[.pointer (some ⟨b, 0, none⟩), strV m] w fun e w' => ∃ r v', e = .returned r ∧ St G w0 w' (Blk false b #[.pointer (some ⟨b, 0, none⟩), v'] 52 :: Own 5 bcell 1 v' (l ++ m) :: L) := by
  have HC : Hid (∀ w, St G w0 w (Blk false b #[pv, v] 52 :: Own 5 bcell 1 v l :: L) → Calls Tryd.prog 35 #[.pointer (some ⟨b, 0, none⟩)] w fun e w' => e = .returned (.tuple #[]) ∧ St G w0 w' (Blk false b #[.pointer (some ⟨b, 0, none⟩), v] 52 :: Own 5 bcell 1 v l :: L)) := by
    intro w S
    rcases hp with rfl | rfl
    · exact copy_fresh b v S
    · exact copy_used b v S
  clear hp
  go_enter Tryd.func19, Tryd.ntmps19
  go_wp2_with first | (go_at_call 35; refine Calls.mono (HC.out _ S) ?_; clear S; rintro e wz ⟨rfl, S⟩) | ((with_reducible apply wps_appendstr byteOf Tryd.underlying9 S 1); (case hi | hx | hy => rfl); (case hl => first | omega | (simp; omega)); clear S; intro az nz cz wz hnz S; simp only [List.set_cons_succ, List.set_cons_zero] at S) | ((with_reducible apply wps_store S 0); (case hx | hy | hi | h1 => rfl); (case hn => exact Nat.le_of_ble_eq_true rfl); (case hT => decide +kernel); clear S; intro wz S; simp only [List.set_cons_succ, List.set_cons_zero, List.setIfInBounds_toArray] at S) | ((with_reducible apply wps_slen (T := 9)); (case hx => rfl); (case hT => exact Tryd.underlying9)) | ((with_reducible refine tot_done ?ht ?_); (case ht => kernel_rfl)) | ((with_reducible apply wps_load S 0); (case hx | hi | hu => rfl); (case hT => decide +kernel))
  (try simp only [Exit.inBlock, Exit.then]); refine bodyPost_ret (results2 rfl (res_tmp rfl) (res_tmp rfl)) rfl ?_
  exact ⟨_, _, rfl, S⟩
set_option maxRecDepth 100000 in
set_option maxHeartbeats 4000000 in
theorem bstring_empty {G : Nat → Prop} {w0 w : World} {L : List Asn} (b : Nat) (pv : Value) (S : St G w0 w (Blk false b #[pv, .slice none 0 0] 52 :: L)) :
    Calls Tryd.prog 22 #[.pointer (some ⟨b, 0, none⟩)] w fun e w' => e = .returned (strV []) ∧ St G w0 w' (Blk false b #[pv, .slice none 0 0] 52 :: L) := by
  go_enter Tryd.func22, Tryd.ntmps22
  go_wp2_with first | ((with_reducible refine tot_done ?ht ?_); (case ht => kernel_rfl)) | ((with_reducible apply wps_load S 0); (case hx | hi | hu => rfl); (case hT => decide +kernel))
  (refine wp_region_w (soft := [0, 1, 2, 3, 4, 5, 6, 7, 8, 9, 10, 11]) S ?hm ?hB ?_); (case hm => kernel_rfl); (case hB => decide +kernel); clear S
  iterate 12
    (with_reducible apply softs_cons)
    (case hw =>
      (with_reducible apply soft_of); (case hi => rfl)
      intro T wz S
      simp only [List.cons_append, List.nil_append] at S
      go_wp2_with first | ((with_reducible apply wps_sdata (ad := none) (n := 0) (c := 0) (v' := .pointer none) (hr := fun _ => rfl)); (case hx => rfl)) | ((with_reducible apply wps_ustr (u := .pointer none) (v := .int .i64 0) (v' := strV []) (hr := fun _ => rfl)); (case hx | hy => rfl)) | ((with_reducible refine tot_done ?ht ?_); (case ht => kernel_rfl)) | ((with_reducible apply wps_load S 0); (case hx | hi | hu => rfl); (case hT => decide +kernel))
      exact ⟨rfl, S⟩)
    (case hs => exact ⟨_, rfl, by kernel_rfl⟩)
  refine softs_nil ?_
  (with_reducible apply W_done); (case hn => rfl); (case hr => decide +kernel)
  intro wz S
  simp only [List.append_nil] at S
  go_wp2_with first | ((with_reducible refine tot_done ?ht ?_); (case ht => kernel_rfl)) | ((with_reducible apply wps_text S); (case hm => kernel_rfl); (case hB => decide +kernel); clear S; intro wz S) | ((with_reducible apply wps_load S 0); (case hx | hi | hu => rfl); (case hT => decide +kernel))
  go_ret
  exact ⟨rfl, S⟩
set_option maxRecDepth 100000 in
set_option maxHeartbeats 4000000 in
theorem bstring_calls {G : Nat → Prop} {w0 w : World} (b R c : Nat) (pv : Value) (l : List UInt8) (hn : l.length ≤ 4294967296) (h0 : l ≠ [])
    (S : St G w0 w (Blk false b #[pv, .slice (some ⟨R, 0, none⟩) l.length c] 52 :: Own 5 bcell 1 (.slice (some ⟨R, 0, none⟩) l.length c) l :: [])) :
    Calls Tryd.prog 22 #[.pointer (some ⟨b, 0, none⟩)] w fun e w' => e = .returned (strV l) ∧ St G w0 w' [Blk false b #[pv, .slice (some ⟨R, 0, none⟩) l.length c] 52] := by
  have H0 := Lib.hid h0
  clear h0
  go_enter Tryd.func22, Tryd.ntmps22
  have hlp : 0 < l.length := List.length_pos_iff.2 H0.out
  have hlc : l.length ≤ c := by
    obtain ⟨F, h⟩ := S.ownsl bcells 1 rfl
    obtain ⟨_, c', e, h2⟩ := h.form
    simp only [Value.slice.injEq] at e
    omega
  have HS : Hid (∀ (tt T : TypeId) (w : World), (Builtin.unsafeSliceData_ #[T] tt #[.slice (some ⟨R, 0, none⟩) l.length c]).run Tryd.prog w = .ok (.pointer (some ⟨R, 0, none⟩)) w) := Lib.hid (fun tt T w => Lib.run_unsafeSliceData_row _ _ _ _ _ _ (by omega))
  clear hlp hlc
  go_wp2_with first | ((with_reducible refine tot_done ?ht ?_); (case ht => kernel_rfl)) | ((with_reducible apply wps_load S 0); (case hx | hi | hu => rfl); (case hT => decide +kernel))
  (refine wp_region_wt (soft := [0, 1, 2, 3, 4, 5, 6, 7, 8, 9]) (L := [_]) (T := [_]) S ?hm ?hB ?_); (case hm => kernel_rfl); (case hB => decide +kernel); clear S
  iterate 10
    (with_reducible apply softs_cons)
    (case hw =>
      (with_reducible apply soft_of); (case hi => rfl)
      intro T wz S
      simp only [List.cons_append, List.nil_append] at S
      go_wp2_with first | ((with_reducible apply wps_sdata (hr := HS.out _ _)); (case hx => rfl)) | (replace S := S.pick [1, 0] rfl; simp only [pick, nth] at S; (with_reducible apply wps_unsafestr (l := l) (PT := 76) (E := 5) Tryd.underlying76 (by kernel_rfl) S H0.out); (case hx | hy => rfl); (case hn => omega); clear S; intro wz S) | ((with_reducible refine tot_done ?ht ?_); (case ht => kernel_rfl)) | ((with_reducible apply wps_load S 0); (case hx | hi | hu => rfl); (case hT => decide +kernel))
      exact ⟨rfl, S⟩)
    (case hs => exact ⟨_, rfl, by kernel_rfl⟩)
  refine softs_nil ?_
  (with_reducible apply W_hard1 (i := 10)); (case hn => rfl); (case hr => decide +kernel)
  intro wz S
  (with_reducible apply hard_of); (case hi => rfl)
  simp only [List.cons_append, List.nil_append] at S
  go_wp2_with first | ((with_reducible apply wps_sdata (hr := HS.out _ _)); (case hx => rfl)) | (replace S := S.pick [1, 0] rfl; simp only [pick, nth] at S; (with_reducible apply wps_unsafestr (l := l) (PT := 76) (E := 5) Tryd.underlying76 (by kernel_rfl) S H0.out); (case hx | hy => rfl); (case hn => omega); clear S; intro wz S) | ((with_reducible refine tot_done ?ht ?_); (case ht => kernel_rfl)) | ((with_reducible apply wps_load S 0); (case hx | hi | hu => rfl); (case hT => decide +kernel))
  refine ⟨_, S, ?_⟩
  clear S
  (refine W_mid (f := 0) (soft := [11]) rfl ?hB ?_); (case hB => decide +kernel)
  iterate 1
    (with_reducible apply softs_cons)
    (case hw =>
      (with_reducible apply soft_of); (case hi => rfl)
      intro T wz S
      simp only [List.cons_append, List.nil_append] at S
      go_wp2_with first | ((with_reducible apply wps_sdata (hr := HS.out _ _)); (case hx => rfl)) | (replace S := S.pick [1, 0] rfl; simp only [pick, nth] at S; (with_reducible apply wps_unsafestr (l := l) (PT := 76) (E := 5) Tryd.underlying76 (by kernel_rfl) S H0.out); (case hx | hy => rfl); (case hn => omega); clear S; intro wz S) | ((with_reducible refine tot_done ?ht ?_); (case ht => kernel_rfl)) | ((with_reducible apply wps_load S 0); (case hx | hi | hu => rfl); (case hT => decide +kernel))
      exact ⟨rfl, S⟩)
    (case hs => exact ⟨_, rfl, by kernel_rfl⟩)
  refine softs_nil ?_
  (with_reducible apply W_done); (case hn => rfl); (case hr => decide +kernel)
  intro wz S
  repeat (first | simp only at S | simp only [pick] at S | simp only [nth] at S | simp only [List.set_cons_succ] at S | simp only [List.set_cons_zero] at S | simp only [List.setIfInBounds_toArray] at S | simp only [setAll] at S | simp only [List.cons_append] at S | simp only [List.nil_append] at S | simp only [List.append_nil] at S)
  go_wp2_with first | ((with_reducible refine tot_done ?ht ?_); (case ht => kernel_rfl)) | ((with_reducible apply wps_text S); (case hm => kernel_rfl); (case hB => decide +kernel); clear S; intro wz S) | ((with_reducible apply wps_load S 0); (case hx | hi | hu => rfl); (case hT => decide +kernel))
  go_ret
  exact ⟨rfl, S⟩
end Go.Proofs.YtkcnbejpmknaoaaDoor
/- The walks of the script's Parse and the reference's (chapter 21). -/
namespace Go.Proofs.YtkcnbejpmknaoaaDoor
open Go Go.RowKit Reg Mem

def PaPost (E : TypeId) (q : List DoE × Nat × Int) (w : World) (e : Ending) (w' : World) : Prop :=
  (q.2.2 ≠ 0 ∧ e = .returned (.tuple #[.slice none 0 0, .int .i64 q.2.1, .int .i64 q.2.2]) ∧ Below w.heap.size w w') ∨
  (q.2.2 = 0 ∧ ∃ a c, e = .returned (.tuple #[.slice a q.1.length c, .int .i64 0, .int .i64 0]) ∧ St (fun _ => False) w w' [Own E docell 3 (.slice a q.1.length c) q.1])
def PaRel (v : Value) (ls : List (List UInt8)) (q : List DoE × Nat × Int) (w : World) (out i : Value) (L : List Asn) (wr : World) : Prop :=
  ∃ (k : Nat) (acc : List DoE), k ≤ ls.length ∧ i = .int .i64 k ∧ Hid (parseE (ls.drop k) k acc = q) ∧ acc.length ≤ 4096 ∧ St (fun _ => False) w wr (Own 42 docell 3 out acc :: Sl true strcell 1 v ls :: L)
def PaRel2 (acc : List DoE) (d : DoE) (n : Nat) (w : World) (out i : Value) (L : List Asn) (wr : World) : Prop :=
  ∃ j : Nat, j ≤ n ∧ i = .int .i64 j ∧ St (fun _ => False) w wr (Own 42 docell 3 out (acc ++ List.replicate j d) :: L)
theorem rep_snoc (acc : List DoE) (d : DoE) (j : Nat) : (acc ++ List.replicate j d) ++ [d] = acc ++ List.replicate (j + 1) d := by
  rw [List.append_assoc, ← List.replicate_succ']
set_option maxRecDepth 100000 in
set_option maxHeartbeats 16000000 in
theorem parse_calls (tE : TypeId) (pE : Value) (l : List UInt8) (w : World) (F F2 : Nat → Prop) (h : (LibA tE pE).at_ w F) (h2 : FormsT.at_ w F2) (hn : l.length ≤ 2147483647) :
    Calls Tryd.prog 7 #[strV l] w (PaPost 42 (parseT l) w) := by
  have S : St (fun _ => False) w w [LibA tE pE, FormsT] := ((St.init _ w).share (A := FormsT) rfl rfl h2).share (A := LibA tE pE) rfl rfl h
  clear h h2
  by_cases hbig : 65536 < l.length
  · have HR : Hid (parseT l = ([], 0, 11)) := Lib.hid (by unfold parseT; rw [if_pos hbig])
    have c1 : (65536 : Int) < l.length := by omega
    clear hbig
    go_enter Tryd.func7, Tryd.ntmps7
    go_wp2_with first | ((with_reducible apply wps_slen (T := 9)); (case hx => rfl); (case hT => exact Tryd.underlying9)) | ((with_reducible refine tot_done ?ht ?_); (case ht => kernel_rfl)) | ((with_reducible apply wps_alloca (E := 42) S); (case hz => exact Tryd.zeroValue42); clear S; intro bz wz S) | ((with_reducible apply wps_load S 0); (case hx | hi | hu => rfl); (case hT => decide +kernel)) | ((with_reducible apply wps_loada (T := 42) (k := 3) S 0); (case hx | hi => rfl); (case hk => exact Nat.le_of_ble_eq_true rfl); (case hT => decide +kernel))
    (try simp only [Exit.inBlock, Exit.then]); refine bodyPost_ret (results3 rfl (res_tmp rfl) (res_tmp rfl) (res_tmp rfl)) rfl ?_
    rw [HR.out]
    exact .inl ⟨by decide, rfl, S.below⟩
  · have HP : Hid (parseT l = parseE (splitGo 10 [] l) 0 []) := Lib.hid (by unfold parseT; rw [if_neg hbig])
    have c1 : ¬ ((65536 : Int) < l.length) := by omega
    have HC := Lib.hid (fun w F h => split_calls tE pE l w F h hn)
    have HSZ : Hid (∀ x ∈ splitGo 10 [] l, x.length ≤ 65536) := Lib.hid fun x hx => by have h9 := split_size 10 l [] x hx; simp only [List.length_nil] at h9; omega
    have hln : (splitGo 10 [] l).length ≤ 65537 := by
      have h9 := split_len 10 l []
      have h8 : l.count 10 ≤ l.length := List.count_le_length
      omega
    have hl0 : 0 < (splitGo 10 [] l).length := by rw [split_len]; omega
    generalize splitGo 10 [] l = ls at *
    generalize parseT l = q at *
    clear hbig
    replace S := S.nil 42 docell 3
    go_enter Tryd.func7, Tryd.ntmps7
    go_wp2_with first | ((with_reducible apply wps_slen (T := 9)); (case hx => rfl); (case hT => exact Tryd.underlying9)) | (go_at_call 13; refine Calls.mono (HC.out _ _ (S.get (i := 1) rfl).choose_spec) ?_; rintro e wz ⟨Rs, rfl, T⟩; replace S := S.join T rfl; clear T; simp only [List.cons_append, List.nil_append] at S) | ((with_reducible refine tot_done ?ht ?_); (case ht => kernel_rfl)) | ((with_reducible apply wps_alloca (E := 42) S); (case hz => exact Tryd.zeroValue42); clear S; intro bz wz S) | ((with_reducible apply wps_load S 0); (case hx | hi | hu => rfl); (case hT => decide +kernel)) | ((with_reducible apply wps_loada (T := 42) (k := 3) S 0); (case hx | hi => rfl); (case hk => exact Nat.le_of_ble_eq_true rfl); (case hT => decide +kernel))
    replace S := (S.freeze true 0 strcells rfl).pick [1, 0, 2, 3] rfl
    simp only [List.set_cons_zero, pick, nth] at S
    go_loopw [5, 17] (fun out i wr => PaRel _ ls q w out i [LibA tE pE, FormsT] wr) (fun _ i _ => ls.length - (intOf i).toNat)
    case atStart => exact ⟨0, [], Nat.zero_le _, rfl, Lib.hid (by rw [List.drop_zero]; exact HP.out.symm), by simp, S⟩
    case round =>
      clear S
      obtain ⟨k, acc, hk, rfl, HQ, hac, S⟩ := hrel
      obtain ⟨ao, co, rfl, _⟩ := (S.ownsl docells 0 rfl).elim fun _ h => h.form
      by_cases hlt : k < ls.length
      · have hlt2 : (k : Int) < ls.length := by omega
        obtain ⟨x, hx⟩ : ∃ x, ls[k]? = some x := ⟨_, List.getElem?_eq_getElem hlt⟩
        have hd : ls.drop k = x :: ls.drop (k + 1) := by rw [← (List.getElem?_eq_some_iff.1 hx).2]; exact List.drop_eq_getElem_cons hlt
        have HX := Lib.hid hx
        have HL := Lib.hid (fun w F F2 h h2 => line_calls tE pE x w F F2 h h2 (HSZ.out x (List.mem_of_getElem? hx)))
        have hnt := line_times (wordsOf x)
        have HQ2 := HQ.out
        rw [hd] at HQ2
        by_cases he : (lineE (wordsOf x)).2.2 = 0
        · by_cases hf : 4096 < acc.length + (lineE (wordsOf x)).2.1
          · rw [parse_full he hf] at HQ2
            have HR := Lib.hid HQ2.symm
            rw [he] at HL
            clear HQ2 HQ hd hx he
            generalize (lineE (wordsOf x)).1 = d at *
            generalize (lineE (wordsOf x)).2.1 = n at *
            have c2 : (4096 : Int) < acc.length + n := by omega
            as_aux_lemma =>
              go_wp2_with first | ((with_reducible apply wps_load_el S 1 (hj := HX.out) (q := 0) (u := strV x)); (case hx | hi => rfl); (case hn => omega); (case hu => rfl); (case hT => decide +kernel)) | (go_at_call 14; refine Calls.mono (HL.out _ _ _ (S.get (i := 2) rfl).choose_spec (S.get (i := 3) rfl).choose_spec) ?_; rintro e wz ⟨rfl, hE⟩; replace S := S.ext (Keep.of_below hE); clear hE) | ((with_reducible apply wps_alloca (E := 42) S); (case hz => exact Tryd.zeroValue42); clear S; intro bd wz S) | ((with_reducible apply wps_storea (T := 42) S 0 (vs := [.int .i64 d.what, .int .i64 d.a, .int .i64 d.b]) (m := 3)); (case hx | hy | hi | hm | h1 => rfl); (case hn => exact Nat.le_of_ble_eq_true rfl); (case hT => decide +kernel); clear S; intro wz S; simp only [List.set_cons_zero, List.set_cons_succ, setAll, List.setIfInBounds_toArray] at S) | ((with_reducible refine tot_done ?ht ?_); (case ht => kernel_rfl)) | ((with_reducible apply wps_alloca (E := 42) S); (case hz => exact Tryd.zeroValue42); clear S; intro bz wz S) | ((with_reducible apply wps_load S 0); (case hx | hi | hu => rfl); (case hT => decide +kernel)) | ((with_reducible apply wps_loada (T := 42) (k := 3) S 0); (case hx | hi => rfl); (case hk => exact Nat.le_of_ble_eq_true rfl); (case hT => decide +kernel))
              (try simp only [Exit.inBlock, Exit.then]); refine bodyPost_ret (results3 rfl (res_tmp rfl) (res_tmp rfl) (res_tmp rfl)) rfl ?_
              rw [HR.out]
              exact .inl ⟨(show (11 : Int) ≠ 0 by decide), rfl, S.below⟩
          · rw [parse_next he hf] at HQ2
            have HN := Lib.hid HQ2
            rw [he] at HL
            clear HQ2 HQ hd hx he
            generalize (lineE (wordsOf x)).1 = d at *
            generalize (lineE (wordsOf x)).2.1 = n at *
            have c2 : ¬ ((4096 : Int) < acc.length + n) := by omega
            have hln2 : acc.length + n ≤ 4096 := by omega
            clear hf
            as_aux_lemma =>
              go_wp2_with first | ((with_reducible apply wps_load_el S 1 (hj := HX.out) (q := 0) (u := strV x)); (case hx | hi => rfl); (case hn => omega); (case hu => rfl); (case hT => decide +kernel)) | (go_at_call 14; refine Calls.mono (HL.out _ _ _ (S.get (i := 2) rfl).choose_spec (S.get (i := 3) rfl).choose_spec) ?_; rintro e wz ⟨rfl, hE⟩; replace S := S.ext (Keep.of_below hE); clear hE) | ((with_reducible apply wps_alloca (E := 42) S); (case hz => exact Tryd.zeroValue42); clear S; intro bd wz S) | ((with_reducible apply wps_storea (T := 42) S 0 (vs := [.int .i64 d.what, .int .i64 d.a, .int .i64 d.b]) (m := 3)); (case hx | hy | hi | hm | h1 => rfl); (case hn => exact Nat.le_of_ble_eq_true rfl); (case hT => decide +kernel); clear S; intro wz S; simp only [List.set_cons_zero, List.set_cons_succ, setAll, List.setIfInBounds_toArray] at S) | ((with_reducible refine tot_done ?ht ?_); (case ht => kernel_rfl)) | ((with_reducible apply wps_alloca (E := 42) S); (case hz => exact Tryd.zeroValue42); clear S; intro bz wz S) | ((with_reducible apply wps_load S 0); (case hx | hi | hu => rfl); (case hT => decide +kernel)) | ((with_reducible apply wps_loada (T := 42) (k := 3) S 0); (case hx | hi => rfl); (case hk => exact Nat.le_of_ble_eq_true rfl); (case hT => decide +kernel))
              replace S := S.pick [1, 0, 2, 3, 4] rfl
              simp only [pick, nth] at S
              go_loopw [5, 41] (fun out i wr => PaRel2 acc d n w out i _ wr) (fun _ i _ => n - (intOf i).toNat)
              case atStart => exact ⟨0, Nat.zero_le _, rfl, by rw [List.replicate_zero, List.append_nil]; exact S⟩
              case round =>
                clear S
                obtain ⟨j, hj, rfl, S⟩ := hrel
                obtain ⟨ap, cp, rfl, _⟩ := (S.ownsl docells 0 rfl).elim fun _ h => h.form
                by_cases hjt : j < n
                · have hjt2 : (j : Int) < n := by omega
                  have HRS := Lib.hid (rep_snoc acc d j)
                  have hrl : (acc ++ List.replicate j d).length < 4294967296 := by simp; omega
                  generalize acc ++ List.replicate j d = ac2 at *
                  go_wp2_with first | ((with_reducible apply wps_loada (T := 42) (k := 3) S 1); (case hx | hi => rfl); (case hk => exact Nat.le_of_ble_eq_true rfl); (case hT => decide +kernel)) | ((with_reducible apply wps_build1a (T := 23) (E := 42) S); (case hx => rfl); (case hr => intro w; kernel_rfl); clear S; intro bz wz S) | ((with_reducible apply wps_append1 elem_KD docells doone (by decide) S 1 (j := 0) (e := d)); (case hx | hy | hi | hj | he => rfl); (case hl => first | omega | (simp; omega)); clear S; intro az nz cz wz hnz S; simp only [List.set_cons_succ, List.set_cons_zero] at S) | ((with_reducible refine tot_done ?ht ?_); (case ht => kernel_rfl)) | ((with_reducible apply wps_alloca (E := 42) S); (case hz => exact Tryd.zeroValue42); clear S; intro bz wz S) | ((with_reducible apply wps_load S 0); (case hx | hi | hu => rfl); (case hT => decide +kernel)) | ((with_reducible apply wps_loada (T := 42) (k := 3) S 0); (case hx | hi => rfl); (case hk => exact Nat.le_of_ble_eq_true rfl); (case hT => decide +kernel)) | ((with_reducible apply wps_load S 1); (case hx | hi | hu => rfl); (case hT => decide +kernel)) | ((with_reducible apply wps_loada (T := 42) (k := 3) S 1); (case hx | hi => rfl); (case hk => exact Nat.le_of_ble_eq_true rfl); (case hT => decide +kernel))
                  go_roundw
                  case rel => exact ⟨j + 1, by omega, by go_num, by rw [← HRS.out]; exact S.pick [1, 2, 3, 4, 5] rfl⟩
                  case measure => first | (simp [intOf]; done) | (simp [intOf]; omega)
                · obtain rfl : j = n := by omega
                  have hrl : (acc ++ List.replicate j d).length ≤ 4096 := by simp; omega
                  go_wp2_with first | ((with_reducible refine tot_done ?ht ?_); (case ht => kernel_rfl)) | ((with_reducible apply wps_alloca (E := 42) S); (case hz => exact Tryd.zeroValue42); clear S; intro bz wz S) | ((with_reducible apply wps_load S 0); (case hx | hi | hu => rfl); (case hT => decide +kernel)) | ((with_reducible apply wps_loada (T := 42) (k := 3) S 0); (case hx | hi => rfl); (case hk => exact Nat.le_of_ble_eq_true rfl); (case hT => decide +kernel))
                  go_roundw
                  case rel => exact ⟨k + 1, acc ++ List.replicate j d, by omega, by go_num, HN, hrl, S.pick [0, 2, 3, 4] rfl⟩
                  case measure => first | (simp [intOf]; done) | (simp [intOf]; omega)
        · rw [parse_bad he] at HQ2
          have HR := Lib.hid HQ2.symm
          have c2 : ((lineE (wordsOf x)).2.2 != 0) = true := by rw [bne_iff_ne]; exact he
          have HE0 := Lib.hid he
          clear HQ2 HQ hd hx he
          generalize (lineE (wordsOf x)).1 = d at *
          generalize (lineE (wordsOf x)).2.1 = n at *
          generalize (lineE (wordsOf x)).2.2 = er at *
          as_aux_lemma =>
            go_wp2_with first | ((with_reducible apply wps_load_el S 1 (hj := HX.out) (q := 0) (u := strV x)); (case hx | hi => rfl); (case hn => omega); (case hu => rfl); (case hT => decide +kernel)) | (go_at_call 14; refine Calls.mono (HL.out _ _ _ (S.get (i := 2) rfl).choose_spec (S.get (i := 3) rfl).choose_spec) ?_; rintro e wz ⟨rfl, hE⟩; replace S := S.ext (Keep.of_below hE); clear hE) | ((with_reducible apply wps_alloca (E := 42) S); (case hz => exact Tryd.zeroValue42); clear S; intro bd wz S) | ((with_reducible apply wps_storea (T := 42) S 0 (vs := [.int .i64 d.what, .int .i64 d.a, .int .i64 d.b]) (m := 3)); (case hx | hy | hi | hm | h1 => rfl); (case hn => exact Nat.le_of_ble_eq_true rfl); (case hT => decide +kernel); clear S; intro wz S; simp only [List.set_cons_zero, List.set_cons_succ, setAll, List.setIfInBounds_toArray] at S) | ((with_reducible refine tot_done ?ht ?_); (case ht => kernel_rfl)) | ((with_reducible apply wps_alloca (E := 42) S); (case hz => exact Tryd.zeroValue42); clear S; intro bz wz S) | ((with_reducible apply wps_load S 0); (case hx | hi | hu => rfl); (case hT => decide +kernel)) | ((with_reducible apply wps_loada (T := 42) (k := 3) S 0); (case hx | hi => rfl); (case hk => exact Nat.le_of_ble_eq_true rfl); (case hT => decide +kernel))
            (try simp only [Exit.inBlock, Exit.then]); refine bodyPost_ret (results3 rfl (res_tmp rfl) (res_tmp rfl) (res_tmp rfl)) rfl ?_
            rw [HR.out]
            exact .inl ⟨HE0.out, rfl, S.below⟩
      · obtain rfl : k = ls.length := by omega
        have HQ2 := HQ.out
        rw [List.drop_length, parseE] at HQ2
        clear HQ
        subst HQ2
        go_wp2_with first | ((with_reducible refine tot_done ?ht ?_); (case ht => kernel_rfl)) | ((with_reducible apply wps_alloca (E := 42) S); (case hz => exact Tryd.zeroValue42); clear S; intro bz wz S) | ((with_reducible apply wps_load S 0); (case hx | hi | hu => rfl); (case hT => decide +kernel)) | ((with_reducible apply wps_loada (T := 42) (k := 3) S 0); (case hx | hi => rfl); (case hk => exact Nat.le_of_ble_eq_true rfl); (case hT => decide +kernel))
        (try simp only [Exit.inBlock, Exit.then]); refine bodyPost_ret (results3 rfl (res_tmp rfl) (res_tmp rfl) (res_tmp rfl)) rfl ?_
        exact .inr ⟨rfl, _, _, rfl, S.pick [0] rfl⟩
def RaRel (v : Value) (ls : List (List UInt8)) (q : List DoE × Nat × Int) (w : World) (out i : Value) (wr : World) : Prop :=
  ∃ (k : Nat) (acc : List DoE), k ≤ ls.length ∧ i = .int .i64 k ∧ Hid (parseE (ls.drop k) k acc = q) ∧ acc.length ≤ 4096 ∧ St (fun _ => False) w wr [Own 39 docell 3 out acc, Sl true strcell 1 v ls]
def RaRel2 (acc : List DoE) (d : DoE) (n : Nat) (w : World) (out i : Value) (L : List Asn) (wr : World) : Prop :=
  ∃ j : Nat, j ≤ n ∧ i = .int .i64 j ∧ St (fun _ => False) w wr (Own 39 docell 3 out (acc ++ List.replicate j d) :: L)
end Go.Proofs.YtkcnbejpmknaoaaDoor
/- The walks of the laws ScriptReads and ScriptLines. -/
namespace Go.Proofs.YtkcnbejpmknaoaaDoor
open Go Go.RowKit Reg Mem

theorem parseT_wrong {l : List UInt8} (h : (parseT l).2.2 ≠ 0) : (parseT l).1 = [] := by
  unfold parseT at *
  split
  · rfl
  · rename_i g; rw [if_neg g] at h; exact (parse_wrong _ _ _ h).1
theorem parseT_right {l : List UInt8} (h : (parseT l).2.2 = 0) : (parseT l).2.1 = 0 := by
  unfold parseT at *
  split
  · rfl
  · rename_i g; rw [if_neg g] at h; exact parse_right _ _ _ h
def PaPost2 (E : TypeId) (q : List DoE × Nat × Int) (w : World) (e : Ending) (w' : World) : Prop :=
  ∃ a c, e = .returned (.tuple #[.slice a q.1.length c, .int .i64 q.2.1, .int .i64 q.2.2]) ∧ St (fun _ => False) w w' [Own E docell 3 (.slice a q.1.length c) q.1]
theorem pa_two {E : TypeId} {l : List UInt8} {w : World} {e : Ending} {w' : World} (h : PaPost E (parseT l) w e w') : PaPost2 E (parseT l) w e w' := by
  rcases h with ⟨h0, rfl, hE⟩ | ⟨h0, a, c, rfl, S⟩
  · refine ⟨none, 0, ?_, ?_⟩
    · rw [parseT_wrong h0]; rfl
    · rw [parseT_wrong h0]
      exact ((St.init _ w).nil E docell 3).ext (Keep.of_below hE)
  · refine ⟨a, c, ?_, S⟩
    rw [parseT_right h0, h0]; rfl
theorem Mem.St.ownThree {b : Nat} {E : TypeId} {G : Nat → Prop} {w0 w : World} {L : List Asn} (x y z : DoE) (S : St G w0 w (Blk false b #[.int .i64 x.what, .int .i64 x.a, .int .i64 x.b, .int .i64 y.what, .int .i64 y.a, .int .i64 y.b, .int .i64 z.what, .int .i64 z.a, .int .i64 z.b] E :: L)) :
    St G w0 w (Own E docell 3 (.slice (some ⟨b, 0, none⟩) 3 3) [x, y, z] :: L) := by
  have := S.same (i := 0) (A' := Own E docell 3 (.slice (some ⟨b, 0, none⟩) 3 3) [x, y, z]) rfl (fun F h => ⟨⟨by simp [flatE, docell], .inr ⟨b, 3, _, rfl, Nat.zero_le _, h.1, Nat.le_refl _, by simp [maxLen], by simp, by simp [flatE, docell]⟩⟩, fun x => by rw [h.2 x]; simp [Value.ownBlock, eq_comm]⟩) rfl
  simpa using this
theorem aw_one : parseT [115, 116, 101, 112, 32, 48, 32, 120, 51] = ([⟨0, 0, 0⟩, ⟨0, 0, 0⟩, ⟨0, 0, 0⟩], 0, 0) := by kernel_rfl
theorem aw_v1 : strV [115, 116, 101, 112, 32, 48, 32, 120, 51] = Value.string { data := #[115, 116, 101, 112, 32, 48, 32, 120, 51] } := by kernel_rfl
theorem aw_v2 : strV [114, 111, 117, 110, 100, 10, 100, 101, 108, 105, 118, 101, 114, 32, 50] = Value.string { data := #[114, 111, 117, 110, 100, 10, 100, 101, 108, 105, 118, 101, 114, 32, 50] } := by kernel_rfl
theorem dsame_self (v1 v2 : Value) (xs : List DoE) (w : World) (F1 F2 : Nat → Prop) (h1 : (Sl true docell 3 v1 xs).at_ w F1) (h2 : (Sl true docell 3 v2 xs).at_ w F2) (hn : xs.length ≤ 65536) :
    Calls Tryd.prog 9 #[v1, v2] w fun r w' => r = .returned (.bool true) ∧ Below w.heap.size w w' :=
  (dsame_calls v1 v2 xs xs w F1 F2 h1 h2 hn hn).mono fun _ _ h => ⟨by rw [h.1, decide_eq_true rfl], h.2⟩
theorem aw_two : parseT [114, 111, 117, 110, 100, 10, 100, 101, 108, 105, 118, 101, 114, 32, 50] = ([], 2, 15) := by kernel_rfl
set_option maxRecDepth 100000 in
set_option maxHeartbeats 16000000 in
theorem awake21_calls (tE : TypeId) (pE : Value) (w : World) (F F2 : Nat → Prop) (h : (LibA tE pE).at_ w F) (h2 : FormsT.at_ w F2) : Calls Tryd.prog 6 #[] w fun e w' => e = .returned (.bool true) ∧ Below w.heap.size w w' := by
  have S : St (fun _ => False) w w [LibA tE pE, FormsT] := ((St.init _ w).share (A := FormsT) rfl rfl h2).share (A := LibA tE pE) rfl rfl h
  clear h h2
  have H1 := Lib.hid (fun w F F2 h h2 => Calls.mono (parse_calls tE pE [115, 116, 101, 112, 32, 48, 32, 120, 51] w F F2 h h2 (by decide)) fun e w' h => pa_two h)
  have H2 := Lib.hid (fun w F F2 h h2 => Calls.mono (parse_calls tE pE [114, 111, 117, 110, 100, 10, 100, 101, 108, 105, 118, 101, 114, 32, 50] w F F2 h h2 (by decide)) fun e w' h => pa_two h)
  rw [aw_one, aw_v1] at H1
  rw [aw_two, aw_v2] at H2
  go_enter Tryd.func6, Tryd.ntmps6
  go_upto_region 3 with first | go_skip | ((with_reducible refine wpList_skip ?hw ?_); (case hw => with_unfolding_all rfl); simp only [Act.put, List.setIfInBounds_toArray, List.set_cons_succ, List.set_cons_zero]) | (go_at_call 7; obtain ⟨Fl, hLi⟩ := S.get (i := 0) rfl; obtain ⟨Ff, hFo⟩ := S.get (i := 1) rfl; (with_reducible refine Calls.mono (H1.out _ _ _ hLi hFo) ?_); clear hLi hFo; rintro e wz ⟨aa, ca, rfl, T⟩; replace S := (S.join T rfl).freeze true 0 docells rfl; clear T; simp only [List.cons_append, List.nil_append, List.set_cons_zero] at S) | (go_at_call 7; obtain ⟨Fl, hLi⟩ := S.get (i := 1) rfl; obtain ⟨Ff, hFo⟩ := S.get (i := 2) rfl; (with_reducible refine Calls.mono (H2.out _ _ _ hLi hFo) ?_); clear hLi hFo; rintro e wz ⟨ab, cb, rfl, T⟩; replace S := (S.join T rfl); clear T; simp only [List.cons_append, List.nil_append] at S) | ((with_reducible refine tot_done ?ht ?_); (case ht => kernel_rfl))
  go_wp2_with first | go_skip | ((with_reducible refine wpList_skip ?hw ?_); (case hw => with_unfolding_all rfl); simp only [Act.put, List.setIfInBounds_toArray, List.set_cons_succ, List.set_cons_zero]) | ((with_reducible apply wps_buildSlice (T := 27) (E := 39) (cs := #[.int .i64 0, .int .i64 0, .int .i64 0, .int .i64 0, .int .i64 0, .int .i64 0, .int .i64 0, .int .i64 0, .int .i64 0]) S); (case hr => intro w; kernel_rfl); clear S; intro bz wz S) | (go_at_call 9; replace S := (Mem.St.ownThree ⟨0, 0, 0⟩ ⟨0, 0, 0⟩ ⟨0, 0, 0⟩ S).freeze true 0 docells rfl; simp only [List.set_cons_zero] at S; refine Calls.mono (dsame_self _ _ [⟨0, 0, 0⟩, ⟨0, 0, 0⟩, ⟨0, 0, 0⟩] _ _ _ (S.get (i := 2) rfl).choose_spec (S.get (i := 0) rfl).choose_spec (by decide)) ?_; rintro e wz ⟨rfl, hE⟩; replace S := S.ext (Keep.of_below hE); clear hE) | ((with_reducible refine tot_done ?ht ?_); (case ht => kernel_rfl))
  go_ret
  exact ⟨rfl, S.below⟩
def LiRel (s : List UInt8) (w : World) (n x : Value) (L : List Asn) (wr : World) : Prop :=
  ∃ k : Nat, k ≤ s.length ∧ x = .int .i64 k ∧ n = .int .i64 ((s.take k).count 10 + 1 : Nat) ∧ St (fun _ => False) w wr L
end Go.Proofs.YtkcnbejpmknaoaaDoor
