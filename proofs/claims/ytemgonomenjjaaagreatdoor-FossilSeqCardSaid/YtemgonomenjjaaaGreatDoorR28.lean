import Derived.Test.YtemgonomenjjaaaGreatDoorR27
import Derived.Deep.Cut
import Derived.Test.YtemgonomenjjaaaGreatDoorR29
import Derived.Test.YtemgonomenjjaaaGreatDoorR17
import Derived.Test.YtemgonomenjjaaaGreatDoorR25
import Derived.WalkSpells
import Derived.Laws.Externs
import Derived.MapKept
import Derived.Test.YtemgonomenjjaaaGreatDoorProg
import Derived.Shelf.SlLaysF0
import Derived.KernelRfl
/- The walk of a simulation's Step. -/
namespace Go.Proofs.YtemgonomenjjaaaGreatDoor
open Go Go.RowKit Reg Mem

theorem tE_cells : tE = Event.cells := rfl
def batchVal (b : BatE) (vi vs : Value) : Value := .agg #[.int .i64 b.at_, .int .i64 b.lp, vi, .int .i64 b.thn.n0, .int .i64 b.thn.n1, .int .i64 b.thn.n2, .int .i64 b.thn.n3, vs]
def zeroBatch : Value := .agg #[.int .i64 0, .int .i64 0, .slice none 0 0, .int .i64 0, .int .i64 0, .int .i64 0, .int .i64 0, .slice none 0 0]
def SStepPost (F : Nat → Prop) (X R : Nat) (c : Cfg) (s : SimE) (w : World) (e : Ending) (w' : World) : Prop :=
  (simStep c s = none ∧ e = .returned (.tuple #[zeroBatch, .bool false]) ∧ St F w w' [simA X R s]) ∨
  (∃ b s' vi vs, simStep c s = some (b, s') ∧ e = .returned (.tuple #[batchVal b vi vs, .bool true]) ∧ St F w w' [simA X R s', Own 78 Event.cells 7 vi b.ins, Own 78 Event.cells 7 vs b.sent])
set_option maxRecDepth 100000 in
set_option maxHeartbeats 4000000 in
theorem step_none (X R : Nat) (c : Cfg) (s : SimE) (w : World) (F : Nat → Prop) (h : (simA X R s).at_ w F) (hok : SimOk c s) (hf : CfgFine c) (hx : nextE s.ws = none) :
    Calls Tryz.prog 40 #[.pointer (some ⟨X, 0, none⟩)] w (SStepPost F X R c s w) := by
  have S := St.one w h
  have hn1 : s.ws.length ≤ 65536 := by have := hf.sizes; unfold sizesOk at this; have := hok.len; omega
  have hn0 : 0 < s.ws.length := by have := hf.sizes; unfold sizesOk at this; have := hok.len; omega
  have HN : Hid (∀ w F, (simA X R s).at_ w F → Calls Tryz.prog 67 #[.pointer (some ⟨X, 0, none⟩)] w fun e w' => e = .returned (.tuple #[.int .i64 0, .int .i64 0, .bool false]) ∧ Below w.heap.size w w') := Lib.hid fun w F h => by
    have := next_calls X R s w F h hn1 hn0
    rw [hx] at this
    exact this
  have HS : Hid (simStep c s = none) := Lib.hid (by unfold simStep; rw [hx])
  clear h hok hf hx hn1 hn0
  go_enter Tryz.func40, Tryz.ntmps40
  go_wp2_with first | (go_at_call 67; refine Calls.mono (HN.out _ _ (S.get (i := 1) rfl).choose_spec) ?_; rintro e wz ⟨rfl, hE⟩; replace S := S.ext (Keep.of_below hE); clear hE) | ((with_reducible apply wps_storea (T := 54) S 0 (vs := [.int .i64 0, .int .i64 0, .slice none 0 0, .int .i64 0, .int .i64 0, .int .i64 0, .int .i64 0, .slice none 0 0]) (m := 8)); (case hx | hy | hi | hm | h1 => rfl); (case hn => exact Nat.le_of_ble_eq_true rfl); (case hT => decide +kernel); clear S; intro wz S; simp only [List.set_cons_zero, List.set_cons_succ, setAll, List.setIfInBounds_toArray] at S) | ((with_reducible apply wps_alloca (E := 54) S); (case hz => exact Tryz.zeroValue54); clear S; intro bz wz S)
  (try simp only [Exit.inBlock, Exit.then]); refine bodyPost_ret (results2 rfl (S.resA 0 rfl rfl (by kernel_rfl)) (res_tmp rfl)) rfl ?_
  exact .inl ⟨HS.out, rfl, S.pick [1] rfl⟩
set_option maxRecDepth 100000 in
set_option maxHeartbeats 8000000 in
theorem step_some (X R : Nat) (vs hs : List Value) (c : Cfg) (s : SimE) (n : Nat) (a : Int) (lp : Nat) (w : World) (F : Nat → Prop) (S0 : St F w w [simA X R s, ModA true 84 R vs hs c, Tab]) (hc : cfgE c = 0) (hok : SimOk c s) (hB : SimB s.ws s.many n) (hn : n ≤ 65536)
    (hx : nextE s.ws = some (a, lp)) : Calls Tryz.prog 40 #[.pointer (some ⟨X, 0, none⟩)] w (SStepPost F X R c s w) := by
  have hf := cfg_isfine hc
  have S := S0
  clear S0
  have hn1 : s.ws.length ≤ 65536 := by have := hf.sizes; unfold sizesOk at this; have := hok.len; omega
  have hn0 : 0 < s.ws.length := by have := hf.sizes; unfold sizesOk at this; have := hok.len; omega
  have HN : Hid (∀ w F, (simA X R s).at_ w F → Calls Tryz.prog 67 #[.pointer (some ⟨X, 0, none⟩)] w fun e w' => e = .returned (.tuple #[.int .i64 a, .int .i64 lp, .bool true]) ∧ Below w.heap.size w w') := Lib.hid fun w F h => by
    have := next_calls X R s w F h hn1 hn0
    rw [hx] at this
    exact this
  obtain ⟨hwr, hat, ha0, ha1, hlp⟩ := ins_fine hok hx
  obtain ⟨r, t, hw, hra⟩ := next_is hx
  subst hra
  have hhA : hAt s lp = r :: t := by unfold hAt; rw [hw]; rfl
  have hsr : HSorted (r :: t) := (hok.each lp _ hw).1
  have hlen1 : (r :: t).length ≤ n := hB.each _ (List.mem_of_getElem? hw)
  have hlenT : (toldE s r.key.at_ lp).length ≤ n := by
    unfold toldE; rw [List.length_map, hhA]; exact Nat.le_trans (List.takeWhile_sublist _).length_le hlen1
  have HST : Hid (s.ss[lp]? = some (stOf s lp)) := Lib.hid (by
    have : lp < s.ss.length := by rw [hok.lens]; exact hlp
    unfold stOf; rw [List.getElem?_eq_getElem this]; rfl)
  have hbl := batch_len c lp (stOf s lp) (toldE s r.key.at_ lp) (by have := hf.sizes; unfold sizesOk at this; omega)
  have hse := batch_sent c lp (stOf s lp) (toldE s r.key.at_ lp)
  have hat2 : 0 ≤ atE (toldE s r.key.at_ lp) ∧ atE (toldE s r.key.at_ lp) ≤ 1073741824 := by rw [hat]; have := hf.sizes; unfold sizesOk at this; omega
  have HEQ : Hid (simStep c s = some (⟨r.key.at_, lp, toldE s r.key.at_ lp, (batchC c lp (stOf s lp) (toldE s r.key.at_ lp)).1, (batchC c lp (stOf s lp) (toldE s r.key.at_ lp)).2⟩,
      putE ⟨s.ws.set lp ((hAt s lp).dropWhile (same_at r.key.at_)), s.ss.set lp (batchC c lp (stOf s lp) (toldE s r.key.at_ lp)).1, s.many - (toldE s r.key.at_ lp).length, s.peak⟩ (batchC c lp (stOf s lp) (toldE s r.key.at_ lp)).2)) := Lib.hid (by unfold simStep; rw [hx])
  have HR : Hid (∀ (v : Value) (w : World) (F F2 F3 : Nat → Prop), (ModA true 84 R vs hs c).at_ w F → (Sl true Event.cells 7 v (toldE s r.key.at_ lp)).at_ w F2 → Tab.at_ w F3 → Calls Tryz.prog 36 #[.pointer (some ⟨R, 0, none⟩), .int .i64 lp, .agg #[.int .i64 (stOf s lp).n0, .int .i64 (stOf s lp).n1, .int .i64 (stOf s lp).n2, .int .i64 (stOf s lp).n3], v] w fun e w' =>
      ∃ v', e = .returned (.tuple #[.agg #[.int .i64 ((batchC c lp (stOf s lp) (toldE s r.key.at_ lp)).1).n0, .int .i64 ((batchC c lp (stOf s lp) (toldE s r.key.at_ lp)).1).n1, .int .i64 ((batchC c lp (stOf s lp) (toldE s r.key.at_ lp)).1).n2, .int .i64 ((batchC c lp (stOf s lp) (toldE s r.key.at_ lp)).1).n3], v', .int .i64 0]) ∧ St (fun _ => False) w w' [Own 78 Event.cells 7 v' (batchC c lp (stOf s lp) (toldE s r.key.at_ lp)).2]) := Lib.hid fun v w F F2 F3 h h2 h3 => by
    refine (brun_calls R vs hs c lp (stOf s lp) v (toldE s r.key.at_ lp) w F F2 F3 h h2 h3 (by omega) hc fun _ => hat2).mono fun e w' hp => ?_
    rcases hp with ⟨h, _⟩ | ⟨_, h⟩
    · exact absurd hwr h
    · exact h
  have HB2 : Hid (SimB (s.ws.set lp ((hAt s lp).dropWhile (same_at r.key.at_))) (s.many - (toldE s r.key.at_ lp).length) (2 * n)) := Lib.hid ⟨by have := hB.lo; omega, by have := hB.hi; omega, fun h hh => by
    rcases List.mem_or_eq_of_mem_set hh with hh | rfl
    · exact Nat.le_trans (hB.each h hh) (by omega)
    · rw [hhA]; exact Nat.le_trans (List.dropWhile_sublist _).length_le (by omega)⟩
  have HDST : Hid (∀ x ∈ (batchC c lp (stOf s lp) (toldE s r.key.at_ lp)).2, 0 ≤ x.dst ∧ x.dst < (s.ws.set lp ((hAt s lp).dropWhile (same_at r.key.at_))).length) := Lib.hid fun x hx => by
    obtain ⟨i, hi, he⟩ := List.mem_iff_getElem.1 hx
    have := hse.each i x (by rw [List.getElem?_eq_getElem hi, he])
    rw [List.length_set, hok.len]
    exact ⟨this.2.2.2.2.2.1, this.2.2.2.2.2.2⟩
  have hn2 : 2 * n + (batchC c lp (stOf s lp) (toldE s r.key.at_ lp)).2.length ≤ 1073741824 := by
    have h8 : c.fan ≤ 8 := by have := hf.sizes; unfold sizesOk at this; omega
    have h9 : c.fan * ((toldE s r.key.at_ lp).length : Int) ≤ 8 * (toldE s r.key.at_ lp).length := Int.mul_le_mul_of_nonneg_right h8 (by omega)
    omega
  have hlps : lp < s.ss.length := by rw [hok.lens]; exact hlp
  have hlpw : lp < s.ws.length := by rw [hok.len]; exact hlp
  have hm0 : -65536 ≤ s.many := by have := hB.lo; omega
  have hm1 : s.many ≤ 65536 := by have := hB.hi; omega
  have htn : ((toldE s r.key.at_ lp).length : Int) ≤ 65536 := by omega
  have HSR := Lib.hid hsr
  have hlen4 : (r :: t).length ≤ 4294967296 := by omega
  have HH := Lib.hid hw
  have HHA := Lib.hid hhA
  have HTO : Hid (toldE s r.key.at_ lp = ((r :: t).takeWhile (same_at r.key.at_)).map (·.v)) := Lib.hid (by unfold toldE; rw [hhA])
  generalize hbt : batchC c lp (stOf s lp) (toldE s r.key.at_ lp) = bt at *
  obtain ⟨s2, out⟩ := bt
  generalize hto : toldE s r.key.at_ lp = told at *
  simp only at HR HB2 HDST hn2 HEQ
  rw [HHA.out] at HB2 HDST HEQ
  clear hx hwr hat hse hbl hbt hto hw hhA hok hB hf hc hat2 hsr hlen1
  go_enter Tryz.func40, Tryz.ntmps40
  go_upto_region 4 with first | (go_at_call 67; refine Calls.mono (HN.out _ _ (S.get (i := 1) rfl).choose_spec) ?_; rintro e wz ⟨rfl, hE⟩; replace S := S.ext (Keep.of_below hE); clear hE) | ((with_reducible apply wps_alloca (E := 54) S); (case hz => exact Tryz.zeroValue54); clear S; intro bz wz S)
  replace S := S.pick [1, 0, 2, 3] rfl
  simp only [pick, nth] at S
  obtain ⟨v1, v2, Bs, hlen, S2⟩ := sim_open S
  clear S
  have S := S2
  clear S2
  obtain ⟨RB, cB, rfl⟩ := own_hd 1 S rfl (by omega)
  have hlpB : (lp : Int) < Bs.length := by omega
  obtain ⟨B, hBd⟩ : ∃ B, Bs[lp]? = some B := ⟨_, List.getElem?_eq_getElem (by omega)⟩
  have HK := Lib.hid (zipWith_at hBd HH.out)
  have HZ := Lib.hid fun h' => zipWith_put (ws := s.ws) (h := h') hBd
  have HLEN := Lib.hid hlen
  have HBd := Lib.hid hBd
  clear hBd
  clear hlen
  go_upto_region 5 with first | ((with_reducible apply wps_load_own hpElen S 1 (hj := HBd.out) (q := 0) (u := (.pointer (some ⟨B, 0, none⟩)))); (case hx | hi => rfl); (case hn => omega); (case hu => rfl); (case hT => decide +kernel)) | (go_at_call 68; obtain ⟨Fz, hF, hBk⟩ := S.starLend 0 rfl _ HK.out; refine Calls.mono (hbatch_some B r t _ _ hF HSR.out hlen4) ?_; rintro e wz ⟨v, rfl, T⟩; replace S := hBk _ _ rfl (T.close_sep rfl rfl); clear hBk hF T; simp only [List.set_cons_zero] at S) | ((with_reducible apply wps_load S 3); (case hx | hi | hu => rfl); (case hT => decide +kernel))
  replace S := S.starTake (List.getElem?_set_self (List.getElem?_eq_some_iff.1 HK.out).1) rfl
  rw [List.set_set, HZ.out, tE_cells, ← HTO.out] at S
  obtain ⟨av, cv, rfl, _⟩ := (S.ownsl ecells 1 rfl).elim fun _ h => h.form
  replace S := S.pick [0, 2, 3, 4, 5, 6, 7, 1] rfl
  simp only [pick, nth] at S
  go_upto_region 6 with first | ((with_reducible apply wps_store (u := (.int .i64 (s.many - told.length))) S 3); (case hx | hy | hi | h1 => rfl); (case hn => exact Nat.le_of_ble_eq_true rfl); (case hT => decide +kernel); clear S; intro wz S; simp only [List.set_cons_succ, List.set_cons_zero, List.setIfInBounds_toArray] at S) | ((with_reducible apply wps_load S 3); (case hx | hi | hu => rfl); (case hT => decide +kernel))
  (refine wp_region_w (soft := [0, 1, 2, 3, 4, 5, 6, 7, 8, 9, 10]) S ?hm ?hB ?_); (case hm => kernel_rfl); (case hB => decide +kernel); clear S
  iterate 11
    (with_reducible apply softs_cons)
    (case hw =>
      (with_reducible apply soft_of); (case hi => rfl)
      intro T wz S
      simp only [List.cons_append, List.nil_append] at S
      go_wp2_with first | (go_at_call 69; refine Calls.mono (of_calls X _ _ _ _ _ s.ss lp (stOf s lp) _ _ _ (S.get (i := 3) rfl).choose_spec (S.get (i := 2) rfl).choose_spec HST.out) ?_; rintro e wz ⟨rfl, hE⟩; replace S := S.ext (Keep.of_below hE); clear hE) | ((with_reducible refine tot_done ?ht ?_); (case ht => kernel_rfl)) | ((with_reducible apply wps_load S 3); (case hx | hi | hu => rfl); (case hT => decide +kernel))
      exact ⟨rfl, S⟩)
    (case hs => exact ⟨_, rfl, by kernel_rfl⟩)
  refine softs_nil ?_
  (with_reducible apply W_hard2 (i := 11) (i' := 16)); (case hn => rfl); (case hr => decide +kernel)
  focus
    intro wz S
    (with_reducible apply hard_of); (case hi => rfl)
    simp only [List.cons_append, List.nil_append] at S
    go_wp2_with first | (go_at_call 36; refine Calls.mono (HR.out _ _ _ _ _ (S.get (i := 5) rfl).choose_spec (own_sl (sh := true) ecells (S.get (i := 7) rfl).choose_spec) (S.get (i := 6) rfl).choose_spec) ?_; rintro e wz ⟨vs2, rfl, T⟩; replace S := S.join T rfl; clear T; simp only [List.cons_append, List.nil_append] at S) | ((with_reducible refine tot_done ?ht ?_); (case ht => kernel_rfl))
    refine ⟨_, S.pick [1, 2, 3, 4, 5, 6, 7, 8, 0] rfl, ?_⟩
    clear S
    (refine W_mid (f := 4) (soft := [12, 13, 14, 15]) rfl ?hB ?_); (case hB => decide +kernel)
    iterate 4
      (with_reducible apply softs_cons)
      (case hw =>
        (with_reducible apply soft_of); (case hi => rfl)
        intro T wz S
        simp only [List.cons_append, List.nil_append] at S
        go_wp2_with first | ((with_reducible refine tot_done ?ht ?_); (case ht => kernel_rfl))
        exact ⟨rfl, S⟩)
      (case hs => exact ⟨_, rfl, by kernel_rfl⟩)
    refine softs_nil ?_
    (with_reducible apply W_hard1 (i := 16)); (case hn => rfl); (case hr => decide +kernel)
    intro wz S
    (with_reducible apply hard_of); (case hi => rfl)
    simp only [List.cons_append, List.nil_append] at S
    go_wp2_with first | ((with_reducible apply wps_alloca (E := 52) S); (case hz => exact Tryz.zeroValue52); clear S; intro b10 wz S) | ((with_reducible refine tot_done ?ht ?_); (case ht => kernel_rfl))
    refine ⟨_, S.pick [1, 2, 3, 4, 5, 6, 7, 8, 9, 0] rfl, ?_⟩
    clear S
    (with_reducible apply W_hard1 (i := 17)); (case hn => rfl); (case hr => decide +kernel)
    intro wz S
    (with_reducible apply hard_of); (case hi => rfl)
    simp only [List.cons_append, List.nil_append] at S
    go_wp2_with first | ((with_reducible apply wps_storea (T := 52) S 9 (vs := [.int .i64 s2.n0, .int .i64 s2.n1, .int .i64 s2.n2, .int .i64 s2.n3]) (m := 4)); (case hx | hy | hi | hm | h1 => rfl); (case hn => exact Nat.le_of_ble_eq_true rfl); (case hT => decide +kernel); clear S; intro wz S; simp only [List.set_cons_zero, List.set_cons_succ, setAll, List.setIfInBounds_toArray] at S) | ((with_reducible refine tot_done ?ht ?_); (case ht => kernel_rfl))
    refine ⟨_, S, ?_⟩
    clear S
    (refine W_mid (f := 0) (soft := [18, 19]) rfl ?hB ?_); (case hB => decide +kernel)
    iterate 2
      (with_reducible apply softs_cons)
      (case hw =>
        (with_reducible apply soft_of); (case hi => rfl)
        intro T wz S
        simp only [List.cons_append, List.nil_append] at S
        go_wp2_with first | ((with_reducible refine tot_done ?ht ?_); (case ht => kernel_rfl))
        exact ⟨rfl, S⟩)
      (case hs => exact ⟨_, rfl, by kernel_rfl⟩)
    refine softs_nil ?_
    (with_reducible apply W_done); (case hn => rfl); (case hr => decide +kernel)
    intro wz S
    repeat (first | simp only at S | simp only [pick] at S | simp only [nth] at S | simp only [List.set_cons_succ] at S | simp only [List.set_cons_zero] at S | simp only [List.setIfInBounds_toArray] at S | simp only [setAll] at S | simp only [List.cons_append] at S | simp only [List.nil_append] at S | simp only [List.append_nil] at S)
  rotate_left 1
  focus
    intro wz S
    (with_reducible apply hard_of); (case hi => rfl)
    simp only [List.cons_append, List.nil_append] at S
    go_wp2_with first | ((with_reducible apply wps_alloca (E := 52) S); (case hz => exact Tryz.zeroValue52); clear S; intro b10 wz S) | ((with_reducible refine tot_done ?ht ?_); (case ht => kernel_rfl))
    refine ⟨_, S.pick [1, 2, 3, 4, 5, 6, 7, 8, 0] rfl, ?_⟩
    clear S
    (with_reducible apply W_hard1 (i := 11)); (case hn => rfl); (case hr => decide +kernel)
    intro wz S
    (with_reducible apply hard_of); (case hi => rfl)
    simp only [List.cons_append, List.nil_append] at S
    go_wp2_with first | (go_at_call 36; refine Calls.mono (HR.out _ _ _ _ _ (S.get (i := 5) rfl).choose_spec (own_sl (sh := true) ecells (S.get (i := 7) rfl).choose_spec) (S.get (i := 6) rfl).choose_spec) ?_; rintro e wz ⟨vs2, rfl, T⟩; replace S := S.join T rfl; clear T; simp only [List.cons_append, List.nil_append] at S) | ((with_reducible refine tot_done ?ht ?_); (case ht => kernel_rfl))
    refine ⟨_, S.pick [1, 2, 3, 4, 5, 6, 7, 8, 0, 9] rfl, ?_⟩
    clear S
    (refine W_mid (f := 3) (soft := [12, 13, 14, 15]) rfl ?hB ?_); (case hB => decide +kernel)
    iterate 4
      (with_reducible apply softs_cons)
      (case hw =>
        (with_reducible apply soft_of); (case hi => rfl)
        intro T wz S
        simp only [List.cons_append, List.nil_append] at S
        go_wp2_with first | ((with_reducible refine tot_done ?ht ?_); (case ht => kernel_rfl))
        exact ⟨rfl, S⟩)
      (case hs => exact ⟨_, rfl, by kernel_rfl⟩)
    refine softs_nil ?_
    (with_reducible apply W_hard1 (i := 17)); (case hn => rfl); (case hr => decide +kernel)
    intro wz S
    (with_reducible apply hard_of); (case hi => rfl)
    simp only [List.cons_append, List.nil_append] at S
    go_wp2_with first | ((with_reducible apply wps_storea (T := 52) S 9 (vs := [.int .i64 s2.n0, .int .i64 s2.n1, .int .i64 s2.n2, .int .i64 s2.n3]) (m := 4)); (case hx | hy | hi | hm | h1 => rfl); (case hn => exact Nat.le_of_ble_eq_true rfl); (case hT => decide +kernel); clear S; intro wz S; simp only [List.set_cons_zero, List.set_cons_succ, setAll, List.setIfInBounds_toArray] at S) | ((with_reducible refine tot_done ?ht ?_); (case ht => kernel_rfl))
    refine ⟨_, S, ?_⟩
    clear S
    (refine W_mid (f := 0) (soft := [18, 19]) rfl ?hB ?_); (case hB => decide +kernel)
    iterate 2
      (with_reducible apply softs_cons)
      (case hw =>
        (with_reducible apply soft_of); (case hi => rfl)
        intro T wz S
        simp only [List.cons_append, List.nil_append] at S
        go_wp2_with first | ((with_reducible refine tot_done ?ht ?_); (case ht => kernel_rfl))
        exact ⟨rfl, S⟩)
      (case hs => exact ⟨_, rfl, by kernel_rfl⟩)
    refine softs_nil ?_
    (with_reducible apply W_done); (case hn => rfl); (case hr => decide +kernel)
    intro wz S
    repeat (first | simp only at S | simp only [pick] at S | simp only [nth] at S | simp only [List.set_cons_succ] at S | simp only [List.set_cons_zero] at S | simp only [List.setIfInBounds_toArray] at S | simp only [setAll] at S | simp only [List.cons_append] at S | simp only [List.nil_append] at S | simp only [List.append_nil] at S)
  all_goals
    replace S := sim_close (s := ⟨s.ws.set lp ((r :: t).dropWhile (same_at r.key.at_)), s.ss, s.many - told.length, s.peak⟩) (by rw [List.length_set]; exact HLEN.out) S
    obtain ⟨ao, co, rfl, _⟩ := (S.ownsl ecells 5 rfl).elim fun _ h => h.form
    go_wp2_with first | (go_at_call 70; obtain ⟨Fz, hF, hBk⟩ := S.lend1 0 rfl rfl; refine Calls.mono (become_calls _ R _ lp s2 _ _ hF hlps) ?_; rintro e wz ⟨rfl, T⟩; replace S := hBk _ _ rfl T; clear hBk hF T; simp only [List.set_cons_zero] at S) | (go_at_call 65; obtain ⟨Fz, hF, hBk⟩ := S.lendR 0 5 rfl rfl (by decide) rfl rfl (fun _ h => own_sl (sh := true) ecells h); refine Calls.mono (put_calls X R _ _ _ (2 * n) _ _ hF HB2.out hn2 HDST.out) ?_; rintro e wz ⟨rfl, T⟩; replace S := hBk _ _ rfl T; clear hBk hF T; simp only [List.set_cons_zero] at S) | ((with_reducible apply wps_storea (T := 54) S 1 (vs := [.int .i64 r.key.at_, .int .i64 lp, .slice av told.length cv, .int .i64 s2.n0, .int .i64 s2.n1, .int .i64 s2.n2, .int .i64 s2.n3, .slice ao out.length co]) (m := 8)); (case hx | hy | hi | hm | h1 => rfl); (case hn => exact Nat.le_of_ble_eq_true rfl); (case hT => decide +kernel); clear S; intro wz S; simp only [List.set_cons_zero, List.set_cons_succ, setAll, List.setIfInBounds_toArray] at S) | ((with_reducible refine tot_done ?ht ?_); (case ht => kernel_rfl)) | ((with_reducible apply wps_text S); (case hm => kernel_rfl); (case hB => decide +kernel); clear S; intro wz S) | ((with_reducible apply wps_loada (T := 52) (k := 4) S 6); (case hx | hi => rfl); (case hk => exact Nat.le_of_ble_eq_true rfl); (case hT => decide +kernel))
    (try simp only [Exit.inBlock, Exit.then]); refine bodyPost_ret (results2 rfl (S.resA 1 rfl rfl (by kernel_rfl)) (res_tmp rfl)) rfl ?_
    exact .inr ⟨_, _, _, _, HEQ.out, rfl, S.pick [0, 4, 5] rfl⟩
end Go.Proofs.YtemgonomenjjaaaGreatDoor
/- The walks of a simulation's Until and States, and of seq.All. -/
namespace Go.Proofs.YtemgonomenjjaaaGreatDoor
open Go Go.RowKit Reg Mem

/-- The batches ahead of a time, if they are no more than so many. -/
def untilE (c : Cfg) (t : Int) : Nat → SimE → Option (List BatE × SimE)
  | 0, s => match nextE s.ws with
    | none => some ([], s)
    | some p => if t ≤ p.1 then some ([], s) else none
  | k + 1, s => match nextE s.ws with
    | none => some ([], s)
    | some p => if t ≤ p.1 then some ([], s) else
      match simStep c s with
      | none => some ([], s)
      | some q => (untilE c t k q.2).map fun r => (q.1 :: r.1, r.2)
/-- On the way it is no more than so much. -/
def fitsE (c : Cfg) (t : Int) (n : Nat) : Nat → SimE → Bool
  | 0, s => decide (-(n : Int) ≤ s.many ∧ s.many ≤ n ∧ ∀ h ∈ s.ws, h.length ≤ n)
  | k + 1, s => decide (-(n : Int) ≤ s.many ∧ s.many ≤ n ∧ ∀ h ∈ s.ws, h.length ≤ n) &&
      match simStep c s with
      | none => true
      | some q => match nextE s.ws with
        | none => true
        | some p => if t ≤ p.1 then true else fitsE c t n k q.2
theorem step_next {c : Cfg} {s : SimE} {p : Int × Nat} (h : nextE s.ws = some p) : ∃ q, simStep c s = some q := by
  unfold simStep; rw [h]; exact ⟨_, rfl⟩
/-- Batches as they lie. -/
def batsL (v : Value) (l : List BatV) : List Asn := [Own 54 BatV.cells 8 v l, Sls false Event.cells 7 (l.map (·.vi)) (l.map (·.b.ins)), Sls false Event.cells 7 (l.map (·.vo)) (l.map (·.b.sent))]
def UntilRel (F : Nat → Prop) (X R : Nat) (vs hs : List Value) (c : Cfg) (t : Int) (n most : Nat) (bs : List BatE) (s' : SimE) (w : World) (v : Value) (wr : World) : Prop :=
  ∃ (k : Nat) (s1 : SimE) (l : List BatV) (rest : List BatE), Hid (untilE c t k s1 = some (rest, s')) ∧ Hid (fitsE c t n k s1 = true) ∧ Hid (l.map (·.b) ++ rest = bs) ∧ Hid (k + l.length = most) ∧ Hid (SimOk c s1) ∧
    St F w wr [simA X R s1, Own 54 BatV.cells 8 v l, Sls false Event.cells 7 (l.map (·.vi)) (l.map (·.b.ins)), Sls false Event.cells 7 (l.map (·.vo)) (l.map (·.b.sent)), ModA true 84 R vs hs c, Tab]
def UntilPost (F : Nat → Prop) (X R : Nat) (bs : List BatE) (s' : SimE) (w : World) (e : Ending) (w' : World) : Prop :=
  ∃ a cp l, e = .returned (.tuple #[.slice a bs.length cp, .int .i64 0]) ∧ l.map (·.b) = bs ∧
    St F w w' [simA X R s', Own 54 BatV.cells 8 (.slice a bs.length cp) l, Sls false Event.cells 7 (l.map (·.vi)) (l.map (·.b.ins)), Sls false Event.cells 7 (l.map (·.vo)) (l.map (·.b.sent))]
set_option maxRecDepth 100000 in
theorem states_calls (X R : Nat) (s : SimE) (w : World) (F : Nat → Prop) (h : (simA X R s).at_ w F) (hn : s.ss.length ≤ 65536) :
    Calls Tryz.prog 41 #[.pointer (some ⟨X, 0, none⟩)] w fun e w' => ∃ ad c, e = .returned (.slice ad s.ss.length c) ∧ St (fun _ => False) w w' [Own 52 State.cells 4 (.slice ad s.ss.length c) s.ss] := by
  obtain ⟨v1, v2, Bs, hlen, S⟩ := simR_st h
  clear h
  obtain ⟨a1, c1, rfl, _⟩ := (S.sl 2 rfl).elim fun _ h => h.form
  have hn2 : s.ss.length ≤ 4294967296 := by omega
  go_enter Tryz.func41, Tryz.ntmps41
  go_wp2_with first | (go_at_call 27; refine Calls.mono (clone_Sst _ _ (S.get (i := 2) rfl).choose_spec hn2) ?_; rintro e wz ⟨ad2, c2, rfl, _, T⟩; replace S := S.join T rfl; clear T; simp only [List.cons_append, List.nil_append] at S) | ((with_reducible apply wps_load S 3); (case hx | hi | hu => rfl); (case hT => decide +kernel))
  go_ret
  exact ⟨_, _, rfl, S.pick [0] rfl⟩
end Go.Proofs.YtemgonomenjjaaaGreatDoor
/- The walk of a heap's Copy, with maps.Clone and slices.Clone. -/
namespace Go.Proofs.YtemgonomenjjaaaGreatDoor
open Go.RowKit Reg Mem
set_option maxRecDepth 100000 in
/-- slices.Clone. -/
theorem clone_Row {ad : Option Addr} {n c : Nat} {xs : List _} (w : World) (F : Nat → Prop) (h : (Sl true Row.cells 11 (.slice ad n c) xs).at_ w F) (hn : xs.length ≤ 4294967296) :
    Calls Tryz.prog 102 #[.slice ad n c] w fun e w' => ∃ ad' c', e = .returned (.slice ad' xs.length c') ∧ (0 < xs.length → ∃ R, ad' = some ⟨R, 0, none⟩) ∧ St (fun _ => False) w w' [Own 186 Row.cells 11 (.slice ad' xs.length c') xs] := by
  have S : St (fun _ => False) w w [Sl true Row.cells 11 (.slice ad n c) xs] := (St.init _ w).share rfl rfl h
  have hq : ∀ (w : World) (a : Option Addr) (n c n' c' : Nat), (binOp .eql 179 (.slice a n c) (.slice none n' c')).run Tryz.prog w = .ok (.bool a.isNone) w := fun w a n c n' c' => Lib.run_eql_slice_nil w _ _ a n c n' c' Tryz.underlying179
  cases ad with
  | none =>
    have hx : xs = [] := by
      obtain ⟨a, c', e, h1, h2, _⟩ := h.1
      simp only [Value.slice.injEq] at e
      obtain ⟨rfl, rfl, rfl⟩ := e
      exact List.eq_nil_of_length_eq_zero (by have := h2 rfl; omega)
    subst hx
    go_enter Tryz.func102, Tryz.ntmps102
    go_wp2_with first | ((with_reducible refine tot_done ?ht ?_); (case ht => kernel_rfl))
    go_ret
    exact ⟨_, _, rfl, fun h => absurd h (by simp), ((S.nil 186 Row.cells 11).pick [0] rfl)⟩
  | some a0 =>
    go_enter Tryz.func102, Tryz.ntmps102
    go_wp2_with first | ((with_reducible apply wps_build0 (T := 179) (E := 186) Row.cells 11 S); (case hr => intro w; kernel_rfl); clear S; intro bz wz S) | ((with_reducible apply wps_appends elem_Row hcells hone (by decide) S 0 (j := 1)); (case hx | hy | hi | hj => rfl); (case hl => first | omega | (simp; omega)); clear S; intro az nz cz wz hnz S; simp only [List.set_cons_zero] at S)
    go_ret
    obtain rfl : nz = xs.length := by have := hnz.out; simp at this; omega
    simp only [List.nil_append] at S
    refine ⟨_, _, rfl, fun h0 => ?_, S.pick [0] rfl⟩
    obtain ⟨F, hF⟩ := S.get (i := 0) rfl
    rcases hF.1.2 with ⟨_, e⟩ | ⟨g, cap, cur, e, _⟩
    · omega
    · simp only [Value.slice.injEq] at e; exact ⟨g, e.1⟩
end Go.Proofs.YtemgonomenjjaaaGreatDoor
namespace Go.Proofs.YtemgonomenjjaaaGreatDoor
open Go Go.Shelf

set_option maxRecDepth 100000
def sortRows_ren : Go.Shelf.Ren := ⟨fun | 6 => 103 | 14 => 122 | 15 => 51 | 20 => 132 | 21 => 133 | 22 => 134 | 23 => 135 | 24 => 136 | 25 => 137 | 26 => 138 | 27 => 139 | 28 => 87 | 29 => 88 | 46 => 141 | 47 => 112 | 48 => 113 | 49 => 142 | 50 => 143 | 57 => 145 | n => n, fun | 0 => 0 | 1 => 1 | 2 => 2 | 3 => 3 | 4 => 4 | 5 => 5 | 6 => 6 | 7 => 7 | 8 => 8 | 9 => 9 | 10 => 10 | 11 => 11 | 12 => 12 | 13 => 13 | 14 => 14 | 15 => 15 | 16 => 16 | 17 => 17 | 18 => 18 | 19 => 19 | 20 => 20 | 21 => 21 | 22 => 179 | 23 => 189 | 24 => 186 | 25 => 190 | 27 => 64 | 29 => 124 | 37 => 210 | 38 => 120 | 39 => 121 | 42 => 118 | 44 => 226 | 45 => 157 | 46 => 158 | 47 => 227 | 48 => 228 | 49 => 229 | 50 => 162 | 51 => 230 | 52 => 164 | 53 => 165 | 54 => 166 | 55 => 167 | 66 => 197 | 67 => 198 | 68 => 199 | 69 => 231 | 70 => 201 | 71 => 232 | 76 => 212 | 77 => 213 | 78 => 233 | 81 => 234 | 82 => 235 | 83 => 236 | 84 => 237 | 85 => 238 | 86 => 239 | 87 => 46 | 88 => 240 | 89 => 241 | 90 => 242 | 91 => 243 | 92 => 244 | 93 => 245 | 94 => 246 | 95 => 247 | 96 => 248 | n => n, fun n => n⟩
theorem sortRows : SlLaysF0.n6 Tryz.prog sortRows_ren := {
  mixed := by kernel_rfl,
  f6 := ⟨Tryz.f103.name, by decide, Tryz.func103.trans (congrArg some (by kernel_rfl))⟩,
  f14 := ⟨Tryz.f122.name, by decide, Tryz.func122.trans (congrArg some (by kernel_rfl))⟩,
  f15 := Tryz.func51.trans (congrArg some (by kernel_rfl)),
  f20 := ⟨Tryz.f132.name, by decide, Tryz.func132.trans (congrArg some (by kernel_rfl))⟩,
  f21 := ⟨Tryz.f133.name, by decide, Tryz.func133.trans (congrArg some (by kernel_rfl))⟩,
  f22 := ⟨Tryz.f134.name, by decide, Tryz.func134.trans (congrArg some (by kernel_rfl))⟩,
  f23 := ⟨Tryz.f135.name, by decide, Tryz.func135.trans (congrArg some (by kernel_rfl))⟩,
  f24 := ⟨Tryz.f136.name, by decide, Tryz.func136.trans (congrArg some (by kernel_rfl))⟩,
  f25 := ⟨Tryz.f137.name, by decide, Tryz.func137.trans (congrArg some (by kernel_rfl))⟩,
  f26 := ⟨Tryz.f138.name, by decide, Tryz.func138.trans (congrArg some (by kernel_rfl))⟩,
  f27 := ⟨Tryz.f139.name, by decide, Tryz.func139.trans (congrArg some (by kernel_rfl))⟩,
  f28 := Tryz.func87.trans (congrArg some (by kernel_rfl)),
  f29 := Tryz.func88.trans (congrArg some (by kernel_rfl)),
  f46 := ⟨Tryz.f141.name, by decide, Tryz.func141.trans (congrArg some (by kernel_rfl))⟩,
  f47 := Tryz.func112.trans (congrArg some (by kernel_rfl)),
  f48 := Tryz.func113.trans (congrArg some (by kernel_rfl)),
  f49 := ⟨Tryz.f142.name, by decide, Tryz.func142.trans (congrArg some (by kernel_rfl))⟩,
  f50 := ⟨Tryz.f143.name, by decide, Tryz.func143.trans (congrArg some (by kernel_rfl))⟩,
  f57 := ⟨Tryz.f145.name, by decide, Tryz.func145.trans (congrArg some (by kernel_rfl))⟩,
  t0 := Tryz.underlying0,
  a0 := Tryz.isAgg0,
  z0 := Tryz.sizeOf0,
  v0 := Tryz.zeroValue0,
  t3 := Tryz.underlying3,
  a3 := Tryz.isAgg3,
  z3 := Tryz.sizeOf3,
  v3 := Tryz.zeroValue3,
  t4 := Tryz.underlying4,
  a4 := Tryz.isAgg4,
  z4 := Tryz.sizeOf4,
  v4 := Tryz.zeroValue4,
  t5 := Tryz.underlying5,
  a5 := Tryz.isAgg5,
  z5 := Tryz.sizeOf5,
  v5 := Tryz.zeroValue5,
  t9 := Tryz.underlying9,
  a9 := Tryz.isAgg9,
  z9 := Tryz.sizeOf9,
  v9 := Tryz.zeroValue9,
  t22 := Tryz.underlying179,
  a22 := Tryz.isAgg179,
  z22 := Tryz.sizeOf179,
  v22 := Tryz.zeroValue179,
  t25 := Tryz.underlying190,
  a25 := Tryz.isAgg190,
  z25 := Tryz.sizeOf190,
  v25 := Tryz.zeroValue190,
  t39 := Tryz.underlying121,
  a39 := Tryz.isAgg121,
  z39 := Tryz.sizeOf121,
  v39 := Tryz.zeroValue121,
  t45 := Tryz.underlying157,
  a45 := Tryz.isAgg157,
  z45 := Tryz.sizeOf157,
  v45 := Tryz.zeroValue157,
  t46 := Tryz.underlying158,
  a46 := Tryz.isAgg158,
  z46 := Tryz.sizeOf158,
  v46 := Tryz.zeroValue158,
  t50 := Tryz.underlying162,
  a50 := Tryz.isAgg162,
  z50 := Tryz.sizeOf162,
  v50 := Tryz.zeroValue162,
  t53 := Tryz.underlying165,
  a53 := Tryz.isAgg165,
  z53 := Tryz.sizeOf165,
  v53 := Tryz.zeroValue165,
  t55 := Tryz.underlying167,
  a55 := Tryz.isAgg167,
  z55 := Tryz.sizeOf167,
  v55 := Tryz.zeroValue167,
  t66 := Tryz.underlying197,
  a66 := Tryz.isAgg197,
  z66 := Tryz.sizeOf197,
  v66 := Tryz.zeroValue197,
  t70 := Tryz.underlying201,
  a70 := Tryz.isAgg201,
  z70 := Tryz.sizeOf201,
  v70 := Tryz.zeroValue201,
  t76 := Tryz.underlying212,
  a76 := Tryz.isAgg212,
  z76 := Tryz.sizeOf212,
  v76 := Tryz.zeroValue212,
  t77 := Tryz.underlying213,
  a77 := Tryz.isAgg213,
  z77 := Tryz.sizeOf213,
  v77 := Tryz.zeroValue213 }
end Go.Proofs.YtemgonomenjjaaaGreatDoor
/- Plain: the batches of a simulation are those of the commits of their events. No program in sight. -/
namespace Go.Proofs.YtemgonomenjjaaaGreatDoor
open Go Go.RowKit Mem

theorem nextFrom_min : ∀ (l : List (List Row)) (i : Nat) (b : Option (Int × Nat)) (a : Int) (lp : Nat), nextFrom i l b = some (a, lp) → (∀ a0 j0, b = some (a0, j0) → j0 < i) →
    (∀ a0 j0, b = some (a0, j0) → a < a0 ∨ (a = a0 ∧ lp = j0)) ∧ (∀ (k : Nat) (r : Row) (t : List Row), l[k]? = some (r :: t) → a < r.key.at_ ∨ (a = r.key.at_ ∧ lp ≤ i + k))
  | [], i, b, a, lp, h, hb => by
    simp only [nextFrom] at h
    exact ⟨fun a0 j0 e => by rw [h] at e; cases e; exact .inr ⟨rfl, rfl⟩, fun k r t hk => by simp at hk⟩
  | s :: l, i, b, a, lp, h, hb => by
    simp only [nextFrom] at h
    have hb' : ∀ a0 j0, better i s b = some (a0, j0) → j0 < i + 1 := fun a0 j0 e => by
      rcases better_le i s b a0 j0 e with e | ⟨e, _⟩
      · have := hb a0 j0 e; omega
      · omega
    obtain ⟨h1, h2⟩ := nextFrom_min l (i + 1) (better i s b) a lp h hb'
    have h3 : ∀ a0 j0, b = some (a0, j0) → a < a0 ∨ (a = a0 ∧ lp = j0) := fun a0 j0 e => by
      subst e
      cases s with
      | nil => exact h1 a0 j0 rfl
      | cons r t =>
        by_cases hr : r.key.at_ < a0
        · have := h1 r.key.at_ i (by simp only [better, if_pos hr]); omega
        · exact h1 a0 j0 (by simp only [better, if_neg hr])
    refine ⟨h3, fun k r t hk => ?_⟩
    cases k with
    | succ k => have := h2 k r t (by simpa using hk); omega
    | zero =>
      simp only [List.getElem?_cons_zero, Option.some.injEq] at hk
      subst hk
      cases b with
      | none => have := h1 r.key.at_ i rfl; omega
      | some p =>
        obtain ⟨a0, j0⟩ := p
        have h4 := hb a0 j0 rfl
        by_cases hr : r.key.at_ < a0
        · have := h1 r.key.at_ i (by simp only [better, if_pos hr]); omega
        · have := h3 a0 j0 rfl; omega
theorem next_min {ws : List (List Row)} {a : Int} {lp : Nat} (h : nextE ws = some (a, lp)) (hs : ∀ (i : Nat) (h : List Row), ws[i]? = some h → HSorted h) : ∀ (i : Nat) (h : List Row), ws[i]? = some h → ∀ r ∈ h, a < r.key.at_ ∨ (a = r.key.at_ ∧ lp ≤ i) := by
  intro i h0 hi r hr
  have hm := (nextFrom_min ws 0 none a lp h (fun _ _ e => by cases e)).2
  have hso := hs i h0 hi
  cases h0 with
  | nil => simp at hr
  | cons x t =>
    have h1 := hm i x t hi
    have h2 : x.key.at_ ≤ r.key.at_ := by
      rcases List.mem_cons.1 hr with rfl | hr
      · exact Int.le_refl _
      · have := (Key.lt_iff _ _).1 ((List.pairwise_cons.1 hso).1 r hr); omega
    omega
/-- All that waits is behind a batch. -/
def After (a : Int) (lp : Int) (ws : List (List Row)) : Prop := ∀ (i : Nat) (h : List Row), ws[i]? = some h → ∀ r ∈ h, a < r.key.at_ ∨ (a = r.key.at_ ∧ lp < i)
theorem putOne_after {a lp : Int} {p : List (List Row) × Int} (h : After a lp p.1) {x : Event} (hx : a < x.key.at_) : After a lp (putOne p x).1 := by
  intro i h0 hi r hr
  unfold putOne at hi
  split at hi
  · rename_i s hs
    simp only at hi
    rw [List.getElem?_set] at hi
    split at hi
    · rename_i e
      split at hi
      · simp only [Option.some.injEq] at hi
        subst hi
        rcases pushed_mem hr with rfl | hr
        · exact .inl hx
        · subst e; exact h _ s hs r hr
      · cases hi
    · exact h i h0 hi r hr
  · exact h i h0 hi r hr
theorem puts_after {a lp : Int} : ∀ (l : List Event) {p : List (List Row) × Int}, After a lp p.1 → (∀ x ∈ l, a < x.key.at_) → After a lp (l.foldl putOne p).1
  | [], _, h, _ => h
  | x :: l, _, h, hl => puts_after l (putOne_after h (hl x (by simp))) (fun y hy => hl y (List.mem_cons_of_mem _ hy))
theorem rows_later {a : Int} : ∀ (l : List Row), HSorted l → (∀ x ∈ l, a ≤ x.key.at_) → ∀ x ∈ l.dropWhile (same_at a), a < x.key.at_
  | [], _, _, x, hx => by simp at hx
  | y :: l, hs, hl, x, hx => by
    have hs' := List.pairwise_cons.1 hs
    rw [List.dropWhile_cons] at hx
    split at hx
    · exact rows_later l hs'.2 (fun z hz => hl z (List.mem_cons_of_mem _ hz)) x hx
    · rename_i hy
      have h0 := hl y (by simp)
      have h1 : a < y.key.at_ := by
        simp only [same_at, beq_iff_eq] at hy
        omega
      rcases List.mem_cons.1 hx with rfl | hx
      · exact h1
      · have := (Key.lt_iff _ _).1 (hs'.1 x hx); omega
/-- What a step's batch is like. -/
structure StepOk (c : Cfg) (s : SimE) (b : BatE) (s' : SimE) : Prop where
  lp0 : 0 ≤ b.lp
  lp1 : b.lp < c.lps.length
  some : 0 < b.ins.length
  evs : ∀ x ∈ b.ins, x.dst = b.lp ∧ x.key.at_ = b.at_
  up : UpT b.ins
  keys : (b.ins.map (·.key)).Nodup
  lo : 0 ≤ b.at_
  hi : b.at_ ≤ c.fin
  run : batchC c b.lp (stAt s.ss b.lp) b.ins = (b.thn, b.sent)
  st : s'.ss = setst s.ss b
  aft : After b.at_ b.lp s'.ws
  ok : SimOk c s'
theorem step_is {c : Cfg} {s s' : SimE} {b : BatE} (hs : SimOk c s) (h : simStep c s = some (b, s')) : StepOk c s b s' ∧ nextE s.ws = some (b.at_, b.lp.toNat) := by
  have hok := step_ok hs h
  unfold simStep at h
  cases hn : nextE s.ws with
  | none => rw [hn] at h; cases h
  | some p =>
    obtain ⟨a, lp⟩ := p
    rw [hn] at h
    simp only [Option.some.injEq, Prod.mk.injEq] at h
    obtain ⟨rfl, rfl⟩ := h
    obtain ⟨hw, hat, ha0, ha1, hlp⟩ := ins_fine hs hn
    obtain ⟨r, t, hwl, hra⟩ := next_is hn
    have hk := hs.each lp _ hwl
    have hh : hAt s lp = r :: t := by unfold hAt; rw [hwl]; rfl
    have hall := next_min hn (fun i h hi => (hs.each i h hi).1)
    have hle : ∀ x ∈ hAt s lp, a ≤ x.key.at_ := fun x hx => by rw [hh] at hx; have := hall lp _ hwl x hx; omega
    have hmem : ∀ x ∈ toldE s a lp, x.dst = (lp : Int) ∧ x.key.at_ = a := fun x hx => by
      obtain ⟨y, hy, rfl⟩ := List.mem_map.1 hx
      have h1 := twh_mem (same_at a) _ y hy
      rw [hh] at h1
      have h2 := hk.2 y h1.2
      have h3 : y.key.at_ = a := by simpa [same_at] using h1.1
      exact ⟨h2.2.1, by rw [h2.1, h3]⟩
    refine ⟨⟨by simp only; omega, by simp only; omega, wrong_len hw, hmem, ?_, wrong_nodup hw, ha0, ha1, ?_, by simp [putE, setst], ?_, hok⟩, by simp⟩
    · have hp : ((hAt s lp).takeWhile (same_at a)).Pairwise Row.lt := by rw [hh]; exact hk.1.sublist (List.takeWhile_sublist _)
      show List.Pairwise _ (List.map _ _)
      rw [List.pairwise_map]
      refine (List.Pairwise.and_mem.1 hp).imp fun {x y} h hlt => ?_
      have hx := hk.2 x (by have := (twh_mem (same_at a) _ x h.1).2; rwa [hh] at this)
      have hy := hk.2 y (by have := (twh_mem (same_at a) _ y h.2.1).2; rwa [hh] at this)
      have h3 := (Key.lt_iff _ _).1 h.2.2
      unfold evLt at hlt
      rw [hx.1, hy.1] at hlt
      omega
    · show batchC c lp (stAt s.ss lp) _ = _
      have e : stAt s.ss (lp : Int) = stOf s lp := by unfold stAt stOf; rw [Int.toNat_natCast]
      rw [e]
    · refine puts_after _ (fun i h hi x hx => ?_) (fun x hx => ?_)
      · simp only at hi
        rw [List.getElem?_set] at hi
        split at hi
        · rename_i e
          subst e
          split at hi
          · simp only [Option.some.injEq] at hi
            subst hi
            exact .inl (rows_later _ (by rw [hh]; exact hk.1) hle x hx)
          · cases hi
        · rename_i e
          have := hall i h hi x hx
          simp only
          omega
      · obtain ⟨i, hi, he⟩ := List.mem_iff_getElem.1 hx
        have := (batch_sent c lp (stOf s lp) (toldE s a lp)).each i x (by rw [List.getElem?_eq_getElem hi, he])
        rw [hat] at this
        exact this.2.2.2.1
def waitsE (s : SimE) : List Row := s.ws.flatten
/-- A simulation that is not too much: its batches, and how it ends. -/
def smallE (c : Cfg) : Nat → SimE → Option (List BatE × SimE)
  | 0, _ => none
  | k + 1, s => match simStep c s with
    | none => some ([], s)
    | some q => if 30 < (waitsE q.2).length then none else (smallE c k q.2).map fun r => (q.1 :: r.1, r.2)
theorem small_fuel {c : Cfg} : ∀ {k : Nat} {s s' : SimE} {bs : List BatE}, smallE c k s = some (bs, s') → bs.length < k
  | 0, s, s', bs, h => by cases h
  | k + 1, s, s', bs, h => by
    unfold smallE at h
    split at h
    · simp only [Option.some.injEq, Prod.mk.injEq] at h; rw [← h.1]; simp
    · split at h
      · cases h
      · obtain ⟨r, h1, h2⟩ := Option.map_eq_some_iff.1 h
        simp only [Prod.mk.injEq] at h2
        rw [← h2.1]
        have := small_fuel h1
        simp; omega
/-- What is known of a simulation's batches. -/
structure SmallOk (c : Cfg) (ss : List State) (bs : List BatE) (ss' : List State) : Prop where
  runs : BRuns c ss bs ss'
  ord : bs.Pairwise BefE
  keys : ∀ b ∈ bs, (b.ins.map (·.key)).Nodup
  times : ∀ b ∈ bs, 0 ≤ b.at_ ∧ b.at_ ≤ c.fin
theorem BRuns.cons {c : Cfg} {ss ss' : List State} {b : BatE} {bs : List BatE} (h1 : 0 ≤ b.lp ∧ b.lp < c.lps.length ∧ 0 < b.ins.length ∧ (∀ x ∈ b.ins, x.dst = b.lp ∧ x.key.at_ = b.at_) ∧ UpT b.ins ∧ batchC c b.lp (stAt ss b.lp) b.ins = (b.thn, b.sent))
    (h : BRuns c (setst ss b) bs ss') : BRuns c ss (b :: bs) ss' := by
  have := BRuns.append (bs := [b]) (ss := ss) (c := c) ⟨rfl, fun k d hk => by
    cases k with
    | zero => simp at hk; subst hk; exact h1
    | succ k => simp at hk⟩ h
  exact this
theorem small_ok {c : Cfg} : ∀ {k : Nat} {s s' : SimE} {bs : List BatE}, SimOk c s → smallE c k s = some (bs, s') → SmallOk c s.ss bs s'.ss ∧ (∀ a lp, After a lp s.ws → ∀ b ∈ bs, a < b.at_ ∨ (a = b.at_ ∧ lp < b.lp)) ∧ simStep c s' = none
  | 0, s, s', bs, _, h => by cases h
  | k + 1, s, s', bs, hs, h => by
    unfold smallE at h
    cases hq : simStep c s with
    | none =>
      rw [hq] at h
      simp only [Option.some.injEq, Prod.mk.injEq] at h
      obtain ⟨rfl, rfl⟩ := h
      exact ⟨⟨BRuns.nil _ _, List.Pairwise.nil, by simp, by simp⟩, by simp, hq⟩
    | some q =>
      obtain ⟨b, s2⟩ := q
      rw [hq] at h
      simp only at h
      split at h
      · cases h
      · obtain ⟨r, h1, h2⟩ := Option.map_eq_some_iff.1 h
        obtain ⟨r1, r2⟩ := r
        simp only [Prod.mk.injEq] at h2
        obtain ⟨rfl, rfl⟩ := h2
        obtain ⟨so, hn⟩ := step_is hs hq
        obtain ⟨ih, ih2, ih3⟩ := small_ok so.ok h1
        have hb : ∀ d ∈ r1, BefE b d := fun d hd => ih2 b.at_ b.lp so.aft d hd
        refine ⟨⟨BRuns.cons ⟨so.lp0, so.lp1, so.some, so.evs, so.up, so.run⟩ (so.st ▸ ih.runs), List.pairwise_cons.2 ⟨hb, ih.ord⟩, fun d hd => ?_, fun d hd => ?_⟩, fun a lp ha d hd => ?_, ih3⟩
        · rcases List.mem_cons.1 hd with rfl | hd
          · exact so.keys
          · exact ih.keys d hd
        · rcases List.mem_cons.1 hd with rfl | hd
          · exact ⟨so.lo, so.hi⟩
          · exact ih.times d hd
        · have hb0 : a < b.at_ ∨ (a = b.at_ ∧ lp < b.lp) := by
            obtain ⟨x, t, hw, hx⟩ := next_is hn
            have := ha _ _ hw x (by simp)
            have := so.lp0
            omega
          rcases List.mem_cons.1 hd with rfl | hd
          · exact hb0
          · have := hb d hd
            unfold BefE at this
            omega
/-- Batches are told by their events. -/
def tri (b : BatE) : Int × Int × List Event := (b.at_, b.lp, b.ins)
def GoodE (b : BatE) : Prop := 0 < b.ins.length ∧ (∀ x ∈ b.ins, x.dst = b.lp ∧ x.key.at_ = b.at_) ∧ UpT b.ins
def hereE (a lp : Int) (x : Event) : Bool := decide (x.dst = lp ∧ x.key.at_ = a)
theorem here_filter {b : BatE} {bs : List BatE} (hg : ∀ d ∈ b :: bs, GoodE d) (ho : ∀ d ∈ bs, BefE b d) : ((b :: bs).flatMap (·.ins)).filter (hereE b.at_ b.lp) = b.ins := by
  rw [List.flatMap_cons, List.filter_append, List.filter_eq_self.2 (fun x hx => by have := (hg b (by simp)).2.1 x hx; simp [hereE, this.1, this.2])]
  have : (bs.flatMap (·.ins)).filter (hereE b.at_ b.lp) = [] := by
    rw [List.filter_eq_nil_iff]
    intro x hx
    obtain ⟨d, hd, hx⟩ := List.mem_flatMap.1 hx
    have h1 := (hg d (List.mem_cons_of_mem _ hd)).2.1 x hx
    have h2 := ho d hd
    unfold BefE at h2
    simp only [hereE, decide_eq_true_eq]
    omega
  rw [this, List.append_nil]
theorem tri_eq : ∀ (bs ds : List BatE), (∀ b ∈ bs, GoodE b) → (∀ b ∈ ds, GoodE b) → bs.Pairwise BefE → ds.Pairwise BefE → (bs.flatMap (·.ins)).Perm (ds.flatMap (·.ins)) → bs.map tri = ds.map tri
  | [], [], _, _, _, _, _ => rfl
  | [], d :: ds, _, hd, _, _, hp => by
    have := hp.symm.eq_nil
    have h0 := (hd d (by simp)).1
    simp only [List.flatMap_cons, List.append_eq_nil_iff] at this
    rw [this.1] at h0; simp at h0
  | b :: bs, [], hb, _, _, _, hp => by
    have := hp.eq_nil
    have h0 := (hb b (by simp)).1
    simp only [List.flatMap_cons, List.append_eq_nil_iff] at this
    rw [this.1] at h0; simp at h0
  | b :: bs, d :: ds, hb, hd, ob, od, hp => by
    have ob' := List.pairwise_cons.1 ob
    have od' := List.pairwise_cons.1 od
    have first : ∀ (b d : BatE) (bs ds : List BatE), GoodE b → (∀ e ∈ d :: ds, GoodE e) → (∀ e ∈ ds, BefE d e) → ((b :: bs).flatMap (·.ins)).Perm ((d :: ds).flatMap (·.ins)) → (d.at_ < b.at_ ∨ (d.at_ = b.at_ ∧ d.lp ≤ b.lp)) := by
      intro b d bs ds hb hd od hp
      obtain ⟨x, hx⟩ : ∃ x, x ∈ b.ins := ⟨b.ins[0]'hb.1, List.getElem_mem _⟩
      have hx2 := hp.mem_iff.1 (show x ∈ (b :: bs).flatMap (·.ins) by rw [List.flatMap_cons]; exact List.mem_append_left _ hx)
      obtain ⟨e, he, hxe⟩ := List.mem_flatMap.1 hx2
      have h1 := hb.2.1 x hx
      have h2 := (hd e he).2.1 x hxe
      rcases List.mem_cons.1 he with rfl | he
      · omega
      · have := od e he; unfold BefE at this; omega
    have h1 := first b d bs ds (hb b (by simp)) hd od'.1 hp
    have h2 := first d b ds bs (hd d (by simp)) hb ob'.1 hp.symm
    have ha : b.at_ = d.at_ := by omega
    have hl : b.lp = d.lp := by omega
    have hi : b.ins = d.ins := by
      have := hp.filter (hereE b.at_ b.lp)
      rw [here_filter hb ob'.1, ha, hl, here_filter hd od'.1] at this
      exact upT_eq this (hb b (by simp)).2.2 (hd d (by simp)).2.2
    have hp2 : (bs.flatMap (·.ins)).Perm (ds.flatMap (·.ins)) := by
      rw [List.flatMap_cons, List.flatMap_cons, hi] at hp
      exact (List.perm_append_left_iff _).1 hp
    rw [List.map_cons, List.map_cons, tri_eq bs ds (fun e he => hb e (List.mem_cons_of_mem _ he)) (fun e he => hd e (List.mem_cons_of_mem _ he)) ob'.2 od'.2 hp2]
    unfold tri
    rw [ha, hl, hi]
theorem BRuns.head {c : Cfg} {ss ss' : List State} {b : BatE} {bs : List BatE} (h : BRuns c ss (b :: bs) ss') : batchC c b.lp (stAt ss b.lp) b.ins = (b.thn, b.sent) ∧ GoodE b ∧ BRuns c (setst ss b) bs ss' := by
  obtain ⟨h1, h2, h3, h4, h5, h6⟩ := h.each 0 b rfl
  refine ⟨h6, ⟨h3, h4, h5⟩, h.fin, fun k d hk => ?_⟩
  exact h.each (k + 1) d (by simpa using hk)
theorem runs_eq {c : Cfg} : ∀ (bs ds : List BatE) {ss s1 s2 : List State}, BRuns c ss bs s1 → BRuns c ss ds s2 → bs.map tri = ds.map tri → bs = ds ∧ s1 = s2
  | [], [], _, _, _, h1, h2, _ => ⟨rfl, h1.fin.symm.trans h2.fin⟩
  | [], _ :: _, _, _, _, _, _, h => by simp at h
  | _ :: _, [], _, _, _, _, _, h => by simp at h
  | b :: bs, d :: ds, ss, s1, s2, h1, h2, h => by
    rw [List.map_cons, List.map_cons] at h
    simp only [List.cons.injEq, tri, Prod.mk.injEq] at h
    obtain ⟨⟨ha, hl, hi⟩, ht⟩ := h
    obtain ⟨e1, _, g1⟩ := h1.head
    obtain ⟨e2, _, g2⟩ := h2.head
    have e : b = d := by
      rw [hl, hi, e2] at e1
      obtain ⟨b1, b2, b3, b4, b5⟩ := b
      obtain ⟨d1, d2, d3, d4, d5⟩ := d
      simp only at ha hl hi
      simp only [Prod.mk.injEq] at e1
      obtain ⟨e1, e3⟩ := e1
      subst ha; subst hl; subst hi; subst e1; subst e3; rfl
    subst e
    obtain ⟨k1, k2⟩ := runs_eq bs ds g1 g2 ht
    exact ⟨by rw [k1], k2⟩
theorem runs_good {c : Cfg} {ss ss' : List State} {bs : List BatE} (h : BRuns c ss bs ss') : ∀ b ∈ bs, GoodE b ∧ 0 ≤ b.lp ∧ b.lp < c.lps.length := by
  intro b hb
  obtain ⟨k, hk, e⟩ := List.mem_iff_getElem.1 hb
  obtain ⟨h1, h2, h3, h4, h5, _⟩ := h.each k b (by rw [List.getElem?_eq_getElem hk, e])
  exact ⟨⟨h3, h4, h5⟩, h1, h2⟩
/-- A commit of batches' events does these batches. -/
theorem times_of {c : Cfg} {ss ss' : List State} {bs : List BatE} (h : BRuns c ss bs ss') (ho : bs.Pairwise BefE) {l : List Event} (hp : l.Perm (bs.flatMap (·.ins))) : timesL c (sortT l) ss = (ss', bs) := by
  have hd : ∀ x ∈ sortT l, 0 ≤ x.dst ∧ x.dst < c.lps.length := fun x hx => by
    have := hp.mem_iff.1 ((sortT_perm l).mem_iff.1 hx)
    obtain ⟨b, hb, hx⟩ := List.mem_flatMap.1 this
    obtain ⟨⟨_, h2, _⟩, h3, h4⟩ := runs_good h b hb
    rw [(h2 x hx).1]; exact ⟨h3, h4⟩
  obtain ⟨g1, _, g3, g4⟩ := times_runs c _ (sortT l) ss (Nat.le_refl _) (sortT_up l) hd
  have hq := g4.trans ((sortT_perm l).trans hp)
  obtain ⟨k1, k2⟩ := runs_eq _ _ g1 h (tri_eq _ _ (fun b hb => (runs_good g1 b hb).1) (fun b hb => (runs_good h b hb).1) g3 ho hq)
  exact Prod.ext k2 k1
/-- The batches of times from one on, below another. -/
def partB (was below : Int) (bs : List BatE) : List BatE := bs.filter fun b => decide (was ≤ b.at_ ∧ b.at_ < below)
theorem runs_split {c : Cfg} : ∀ (bs ds : List BatE) {ss ss' : List State}, BRuns c ss (bs ++ ds) ss' → BRuns c ss bs (bs.foldl setst ss) ∧ BRuns c (bs.foldl setst ss) ds ss'
  | [], ds, ss, ss', h => ⟨BRuns.nil _ _, h⟩
  | b :: bs, ds, ss, ss', h => by
    obtain ⟨h1, ⟨g1, g2, g3⟩, h3⟩ := BRuns.head (bs := bs ++ ds) h
    obtain ⟨k1, k2⟩ := runs_split bs ds h3
    obtain ⟨e1, e2, _⟩ := h.each 0 b rfl
    exact ⟨BRuns.cons ⟨e1, e2, g1, g2, g3, h1⟩ k1, k2⟩
/-- Sorted batches: those below a time come first. -/
theorem part_split {bs : List BatE} (ho : bs.Pairwise BefE) (was below : Int) (hw : was ≤ below) : ∀ (lo : Int), lo ≤ was → partB lo below bs = partB lo was bs ++ partB was below bs := by
  intro lo hlo
  unfold partB
  induction bs with
  | nil => rfl
  | cons b bs ih =>
    have ho' := List.pairwise_cons.1 ho
    by_cases h1 : lo ≤ b.at_ ∧ b.at_ < was
    · rw [List.filter_cons_of_pos (by simp; omega), List.filter_cons_of_pos (by simp; omega), List.filter_cons_of_neg (by simp; omega), ih ho'.2]; rfl
    · by_cases h2 : was ≤ b.at_ ∧ b.at_ < below
      · have hn : (bs.filter fun b => decide (lo ≤ b.at_ ∧ b.at_ < was)) = [] := by
          rw [List.filter_eq_nil_iff]
          intro d hd
          have := ho'.1 d hd
          unfold BefE at this
          simp only [decide_eq_true_eq]
          omega
        have := ih ho'.2
        rw [hn, List.nil_append] at this
        rw [List.filter_cons_of_pos (by simp; omega), List.filter_cons_of_neg (by simp; omega), List.filter_cons_of_pos (by simp; omega), hn, this]; rfl
      · rw [List.filter_cons_of_neg (by simp; omega), List.filter_cons_of_neg (by simp; omega), List.filter_cons_of_neg (by simp; omega), ih ho'.2]
theorem part_all {bs : List BatE} {fin : Int} (h : ∀ b ∈ bs, 0 ≤ b.at_ ∧ b.at_ ≤ fin) : partB 0 (fin + 1) bs = bs := by
  unfold partB
  exact List.filter_eq_self.2 fun b hb => by have := h b hb; simp; omega
theorem part_nil (bs : List BatE) (t : Int) : partB t t bs = [] := by
  unfold partB
  rw [List.filter_eq_nil_iff]; intro b _; simp only [decide_eq_true_eq]; omega
theorem bat_dup {bs : List BatE} (hg : ∀ b ∈ bs, GoodE b) (ho : bs.Pairwise BefE) (hk : ∀ b ∈ bs, (b.ins.map (·.key)).Nodup) : dupB (bs.flatMap (·.ins)) = false := by
  unfold dupB
  rw [Bool.not_eq_false', decide_eq_true_eq]
  induction bs with
  | nil => exact List.nodup_nil
  | cons b bs ih =>
    have ho' := List.pairwise_cons.1 ho
    rw [List.flatMap_cons, List.map_append, List.nodup_append]
    refine ⟨?_, ih (fun d hd => hg d (List.mem_cons_of_mem _ hd)) ho'.2 (fun d hd => hk d (List.mem_cons_of_mem _ hd)), ?_⟩
    · have h1 := hk b (by simp)
      have : (b.ins.map (·.key)) = ((b.ins.map fun x => (x.key, x.dst)).map (·.1)) := by rw [List.map_map]; rfl
      rw [this] at h1
      exact List.Pairwise.of_map (·.1) (fun a b h e => h (by rw [e])) h1
    · intro p hp q hq e
      obtain ⟨x, hx, rfl⟩ := List.mem_map.1 hp
      obtain ⟨y, hy, rfl⟩ := List.mem_map.1 hq
      obtain ⟨d, hd, hy⟩ := List.mem_flatMap.1 hy
      simp only [Prod.mk.injEq] at e
      have h1 := (hg b (by simp)).2.1 x hx
      have h2 := (hg d (List.mem_cons_of_mem _ hd)).2.1 y hy
      have h3 := ho'.1 d hd
      unfold BefE at h3
      have h4 : x.key.at_ = y.key.at_ := by rw [e.1]
      omega
/-- A part of a simulation's events may be committed, and does what the simulation did. -/
theorem seq_part {c : Cfg} {bs : List BatE} {ss ss' : List State} (h : SmallOk c ss bs ss') (hfin : c.fin ≤ 1073741824) {was below : Int} (h0 : 0 ≤ was) (h1 : was ≤ below) (h2 : below ≤ c.fin + 1) {l : List Event} (hp : l.Perm ((partB was below bs).flatMap (·.ins))) :
    Fine c.lps.length was below l ∧ ∀ g : LogE, g.ss = (partB 0 was bs).foldl setst ss → g.done = partB 0 was bs → comL c g below l = ⟨(partB 0 below bs).foldl setst ss, below, partB 0 below bs⟩ ∧ (timesL c (sortT l) g.ss).2 = partB was below bs := by
  have hsub : (partB was below bs).Sublist bs := List.filter_sublist
  have hg : ∀ b ∈ bs, GoodE b ∧ 0 ≤ b.lp ∧ b.lp < c.lps.length := runs_good h.runs
  have hev : ∀ x ∈ l, ∃ b ∈ partB was below bs, x ∈ b.ins := fun x hx => List.mem_flatMap.1 (hp.mem_iff.1 hx)
  refine ⟨⟨h1, by omega, fun x hx => ?_, fun x hx => ?_, ?_⟩, fun g hs hd => ?_⟩
  · obtain ⟨b, hb, hx⟩ := hev x hx
    have := (hg b (hsub.subset hb)).1.2.1 x hx
    have h3 := List.mem_filter.1 hb
    simp only [decide_eq_true_eq] at h3
    omega
  · obtain ⟨b, hb, hx⟩ := hev x hx
    have := hg b (hsub.subset hb)
    have h3 := this.1.2.1 x hx
    omega
  · rw [dup_perm hp]
    exact bat_dup (fun b hb => (hg b (hsub.subset hb)).1) (h.ord.sublist hsub) (fun b hb => h.keys b (hsub.subset hb))
  · have hsplit := part_split h.ord was below h1 0 h0
    have hall := part_split h.ord below (c.fin + 1) h2 0 (by omega)
    rw [part_all h.times] at hall
    have hr := h.runs
    rw [hall, hsplit] at hr
    obtain ⟨r1, _⟩ := runs_split _ _ hr
    obtain ⟨_, r3⟩ := runs_split _ _ r1
    have ht := times_of r3 (h.ord.sublist hsub) hp
    unfold comL
    rw [hs, ht, hd, hsplit, List.foldl_append]
    exact ⟨rfl, rfl⟩
end Go.Proofs.YtemgonomenjjaaaGreatDoor
