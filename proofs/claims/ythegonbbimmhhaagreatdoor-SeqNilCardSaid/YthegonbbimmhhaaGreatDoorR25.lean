import Derived.Test.YthegonbbimmhhaaGreatDoorR24
import Derived.Deep.Cut
import Derived.Test.YthegonbbimmhhaaGreatDoorR26
import Derived.Test.YthegonbbimmhhaaGreatDoorR14
/- The walk of a simulation's Step. -/
namespace Go.Proofs.YthegonbbimmhhaaGreatDoor
open Go Go.RowKit Reg Mem

theorem tE_cells : tE = Event.cells := rfl
def batchVal (b : BatE) (vi vs : Value) : Value := .agg #[.int .i64 b.at_, .int .i64 b.lp, vi, .int .i64 b.thn.n0, .int .i64 b.thn.n1, .int .i64 b.thn.n2, .int .i64 b.thn.n3, vs]
def zeroBatch : Value := .agg #[.int .i64 0, .int .i64 0, .slice none 0 0, .int .i64 0, .int .i64 0, .int .i64 0, .int .i64 0, .slice none 0 0]
def SStepPost (F : Nat → Prop) (X R : Nat) (c : Cfg) (s : SimE) (w : World) (e : Ending) (w' : World) : Prop :=
  (simStep c s = none ∧ e = .returned (.tuple #[zeroBatch, .bool false]) ∧ St F w w' [simA X R s]) ∨
  (∃ b s' vi vs, simStep c s = some (b, s') ∧ e = .returned (.tuple #[batchVal b vi vs, .bool true]) ∧ St F w w' [simA X R s', Own 52 Event.cells 7 vi b.ins, Own 52 Event.cells 7 vs b.sent])
set_option maxRecDepth 100000 in
set_option maxHeartbeats 8000000 in
theorem step_some (X R : Nat) (vs hs : List Value) (c : Cfg) (s : SimE) (n : Nat) (a : Int) (lp : Nat) (w : World) (F : Nat → Prop) (S0 : St F w w [simA X R s, ModA true 106 R vs hs c, Tab]) (hc : cfgE c = 0) (hok : SimOk c s) (hB : SimB s.ws s.many n) (hn : n ≤ 65536)
    (hx : nextE s.ws = some (a, lp)) : Calls Tryz.prog 13 #[.pointer (some ⟨X, 0, none⟩)] w (SStepPost F X R c s w) := by
  have hf := cfg_isfine hc
  have S := S0
  clear S0
  have hn1 : s.ws.length ≤ 65536 := by have := hf.sizes; unfold sizesOk at this; have := hok.len; omega
  have hn0 : 0 < s.ws.length := by have := hf.sizes; unfold sizesOk at this; have := hok.len; omega
  have HN : Hid (∀ w F, (simA X R s).at_ w F → Calls Tryz.prog 31 #[.pointer (some ⟨X, 0, none⟩)] w fun e w' => e = .returned (.tuple #[.int .i64 a, .int .i64 lp, .bool true]) ∧ Below w.heap.size w w') := Lib.hid fun w F h => by
    have := next_calls X R s w F h hn1 hn0
    rw [hx] at this
    exact this
  obtain ⟨hwr, hat, ha0, ha1, hlp⟩ := ins_fine hok hx
  obtain ⟨r, t, hw, hra⟩ := next_is hx
  subst hra
  have hhA : hAt s lp = r :: t := by unfold hAt; rw [hw]; rfl
  have hsr : HSorted (r :: t) := (hok.each lp _ hw).1
  have hlen1 : (r :: t).length ≤ n := hB.each _ (List.mem_of_getElem? hw)
  have hlenT : (toldE s r.key.at_ lp).length ≤ n := by
    unfold toldE; rw [List.length_map, hhA]; exact Nat.le_trans (List.takeWhile_sublist _).length_le hlen1
  have HST : Hid (s.ss[lp]? = some (stOf s lp)) := Lib.hid (by
    have : lp < s.ss.length := by rw [hok.lens]; exact hlp
    unfold stOf; rw [List.getElem?_eq_getElem this]; rfl)
  have hbl := batch_len c lp (stOf s lp) (toldE s r.key.at_ lp) (by have := hf.sizes; unfold sizesOk at this; omega)
  have hse := batch_sent c lp (stOf s lp) (toldE s r.key.at_ lp)
  have hat2 : 0 ≤ atE (toldE s r.key.at_ lp) ∧ atE (toldE s r.key.at_ lp) ≤ 1073741824 := by rw [hat]; have := hf.sizes; unfold sizesOk at this; omega
  have HEQ : Hid (simStep c s = some (⟨r.key.at_, lp, toldE s r.key.at_ lp, (batchC c lp (stOf s lp) (toldE s r.key.at_ lp)).1, (batchC c lp (stOf s lp) (toldE s r.key.at_ lp)).2⟩,
      putE ⟨s.ws.set lp ((hAt s lp).dropWhile (same_at r.key.at_)), s.ss.set lp (batchC c lp (stOf s lp) (toldE s r.key.at_ lp)).1, s.many - (toldE s r.key.at_ lp).length, s.peak⟩ (batchC c lp (stOf s lp) (toldE s r.key.at_ lp)).2)) := Lib.hid (by unfold simStep; rw [hx])
  have HR : Hid (∀ (v : Value) (w : World) (F F2 F3 : Nat → Prop), (ModA true 106 R vs hs c).at_ w F → (Sl true Event.cells 7 v (toldE s r.key.at_ lp)).at_ w F2 → Tab.at_ w F3 → Calls Tryz.prog 41 #[.pointer (some ⟨R, 0, none⟩), .int .i64 lp, .agg #[.int .i64 (stOf s lp).n0, .int .i64 (stOf s lp).n1, .int .i64 (stOf s lp).n2, .int .i64 (stOf s lp).n3], v] w fun e w' =>
      ∃ v', e = .returned (.tuple #[.agg #[.int .i64 ((batchC c lp (stOf s lp) (toldE s r.key.at_ lp)).1).n0, .int .i64 ((batchC c lp (stOf s lp) (toldE s r.key.at_ lp)).1).n1, .int .i64 ((batchC c lp (stOf s lp) (toldE s r.key.at_ lp)).1).n2, .int .i64 ((batchC c lp (stOf s lp) (toldE s r.key.at_ lp)).1).n3], v', .int .i64 0]) ∧ St (fun _ => False) w w' [Own 52 Event.cells 7 v' (batchC c lp (stOf s lp) (toldE s r.key.at_ lp)).2]) := Lib.hid fun v w F F2 F3 h h2 h3 => by
    refine (brun_calls R vs hs c lp (stOf s lp) v (toldE s r.key.at_ lp) w F F2 F3 h h2 h3 (by omega) hc fun _ => hat2).mono fun e w' hp => ?_
    rcases hp with ⟨h, _⟩ | ⟨_, h⟩
    · exact absurd hwr h
    · exact h
  have HB2 : Hid (SimB (s.ws.set lp ((hAt s lp).dropWhile (same_at r.key.at_))) (s.many - (toldE s r.key.at_ lp).length) (2 * n)) := Lib.hid ⟨by have := hB.lo; omega, by have := hB.hi; omega, fun h hh => by
    rcases List.mem_or_eq_of_mem_set hh with hh | rfl
    · exact Nat.le_trans (hB.each h hh) (by omega)
    · rw [hhA]; exact Nat.le_trans (List.dropWhile_sublist _).length_le (by omega)⟩
  have HDST : Hid (∀ x ∈ (batchC c lp (stOf s lp) (toldE s r.key.at_ lp)).2, 0 ≤ x.dst ∧ x.dst < (s.ws.set lp ((hAt s lp).dropWhile (same_at r.key.at_))).length) := Lib.hid fun x hx => by
    obtain ⟨i, hi, he⟩ := List.mem_iff_getElem.1 hx
    have := hse.each i x (by rw [List.getElem?_eq_getElem hi, he])
    rw [List.length_set, hok.len]
    exact ⟨this.2.2.2.2.2.1, this.2.2.2.2.2.2⟩
  have hn2 : 2 * n + (batchC c lp (stOf s lp) (toldE s r.key.at_ lp)).2.length ≤ 1073741824 := by
    have h8 : c.fan ≤ 8 := by have := hf.sizes; unfold sizesOk at this; omega
    have h9 : c.fan * ((toldE s r.key.at_ lp).length : Int) ≤ 8 * (toldE s r.key.at_ lp).length := Int.mul_le_mul_of_nonneg_right h8 (by omega)
    omega
  have hlps : lp < s.ss.length := by rw [hok.lens]; exact hlp
  have hlpw : lp < s.ws.length := by rw [hok.len]; exact hlp
  have hm0 : -65536 ≤ s.many := by have := hB.lo; omega
  have hm1 : s.many ≤ 65536 := by have := hB.hi; omega
  have htn : ((toldE s r.key.at_ lp).length : Int) ≤ 65536 := by omega
  have HSR := Lib.hid hsr
  have hlen4 : (r :: t).length ≤ 4294967296 := by omega
  have HH := Lib.hid hw
  have HHA := Lib.hid hhA
  have HTO : Hid (toldE s r.key.at_ lp = ((r :: t).takeWhile (same_at r.key.at_)).map (·.v)) := Lib.hid (by unfold toldE; rw [hhA])
  generalize hbt : batchC c lp (stOf s lp) (toldE s r.key.at_ lp) = bt at *
  obtain ⟨s2, out⟩ := bt
  generalize hto : toldE s r.key.at_ lp = told at *
  simp only at HR HB2 HDST hn2 HEQ
  rw [HHA.out] at HB2 HDST HEQ
  clear hx hwr hat hse hbl hbt hto hw hhA hok hB hf hc hat2 hsr hlen1
  go_enter Tryz.func13, Tryz.ntmps13
  go_upto_region 4 with first | (go_at_call 31; refine Calls.mono (HN.out _ _ (S.get (i := 1) rfl).choose_spec) ?_; rintro e wz ⟨rfl, hE⟩; replace S := S.ext (Keep.of_below hE); clear hE) | ((with_reducible apply wps_alloca (E := 45) S); (case hz => exact Tryz.zeroValue45); clear S; intro bz wz S)
  replace S := S.pick [1, 0, 2, 3] rfl
  simp only [pick, nth] at S
  obtain ⟨v1, v2, Bs, hlen, S2⟩ := sim_open S
  clear S
  have S := S2
  clear S2
  obtain ⟨RB, cB, rfl⟩ := own_hd 1 S rfl (by omega)
  have hlpB : (lp : Int) < Bs.length := by omega
  obtain ⟨B, hBd⟩ : ∃ B, Bs[lp]? = some B := ⟨_, List.getElem?_eq_getElem (by omega)⟩
  have HK := Lib.hid (zipWith_at hBd HH.out)
  have HZ := Lib.hid fun h' => zipWith_put (ws := s.ws) (h := h') hBd
  have HLEN := Lib.hid hlen
  have HBd := Lib.hid hBd
  clear hBd
  clear hlen
  go_upto_region 5 with first | ((with_reducible apply wps_load_own hpElen S 1 (hj := HBd.out) (q := 0) (u := (.pointer (some ⟨B, 0, none⟩)))); (case hx | hi => rfl); (case hn => omega); (case hu => rfl); (case hT => decide +kernel)) | (go_at_call 40; obtain ⟨Fz, hF, hBk⟩ := S.starLend 0 rfl _ HK.out; refine Calls.mono (hbatch_some B r t _ _ hF HSR.out hlen4) ?_; rintro e wz ⟨v, rfl, T⟩; replace S := hBk _ _ rfl (T.close_sep rfl rfl); clear hBk hF T; simp only [List.set_cons_zero] at S) | ((with_reducible apply wps_load S 3); (case hx | hi | hu => rfl); (case hT => decide +kernel))
  replace S := S.starTake (List.getElem?_set_self (List.getElem?_eq_some_iff.1 HK.out).1) rfl
  rw [List.set_set, HZ.out, tE_cells, ← HTO.out] at S
  obtain ⟨av, cv, rfl, _⟩ := (S.ownsl ecells 1 rfl).elim fun _ h => h.form
  replace S := S.pick [0, 2, 3, 4, 5, 6, 7, 1] rfl
  simp only [pick, nth] at S
  go_upto_region 6 with first | ((with_reducible apply wps_store (u := (.int .i64 (s.many - told.length))) S 3); (case hx | hy | hi | h1 => rfl); (case hn => exact Nat.le_of_ble_eq_true rfl); (case hT => decide +kernel); clear S; intro wz S; simp only [List.set_cons_succ, List.set_cons_zero, List.setIfInBounds_toArray] at S) | ((with_reducible apply wps_load S 3); (case hx | hi | hu => rfl); (case hT => decide +kernel))
  (refine wp_region_w (soft := [0, 1, 2, 3, 4, 5, 6, 7, 8, 9, 10]) S ?hm ?hB ?_); (case hm => kernel_rfl); (case hB => decide +kernel); clear S
  iterate 11
    (with_reducible apply softs_cons)
    (case hw =>
      (with_reducible apply soft_of); (case hi => rfl)
      intro T wz S
      simp only [List.cons_append, List.nil_append] at S
      go_wp2_with first | (go_at_call 42; refine Calls.mono (of_calls X _ _ _ _ _ s.ss lp (stOf s lp) _ _ _ (S.get (i := 3) rfl).choose_spec (S.get (i := 2) rfl).choose_spec HST.out) ?_; rintro e wz ⟨rfl, hE⟩; replace S := S.ext (Keep.of_below hE); clear hE) | ((with_reducible refine tot_done ?ht ?_); (case ht => kernel_rfl)) | ((with_reducible apply wps_load S 3); (case hx | hi | hu => rfl); (case hT => decide +kernel))
      exact ⟨rfl, S⟩)
    (case hs => exact ⟨_, rfl, by kernel_rfl⟩)
  refine softs_nil ?_
  (with_reducible apply W_hard2 (i := 11) (i' := 16)); (case hn => rfl); (case hr => decide +kernel)
  focus
    intro wz S
    (with_reducible apply hard_of); (case hi => rfl)
    simp only [List.cons_append, List.nil_append] at S
    go_wp2_with first | (go_at_call 41; refine Calls.mono (HR.out _ _ _ _ _ (S.get (i := 5) rfl).choose_spec (own_sl (sh := true) ecells (S.get (i := 7) rfl).choose_spec) (S.get (i := 6) rfl).choose_spec) ?_; rintro e wz ⟨vs2, rfl, T⟩; replace S := S.join T rfl; clear T; simp only [List.cons_append, List.nil_append] at S) | ((with_reducible refine tot_done ?ht ?_); (case ht => kernel_rfl))
    refine ⟨_, S.pick [1, 2, 3, 4, 5, 6, 7, 8, 0] rfl, ?_⟩
    clear S
    (refine W_mid (f := 4) (soft := [12, 13, 14, 15]) rfl ?hB ?_); (case hB => decide +kernel)
    iterate 4
      (with_reducible apply softs_cons)
      (case hw =>
        (with_reducible apply soft_of); (case hi => rfl)
        intro T wz S
        simp only [List.cons_append, List.nil_append] at S
        go_wp2_with first | ((with_reducible refine tot_done ?ht ?_); (case ht => kernel_rfl))
        exact ⟨rfl, S⟩)
      (case hs => exact ⟨_, rfl, by kernel_rfl⟩)
    refine softs_nil ?_
    (with_reducible apply W_hard1 (i := 16)); (case hn => rfl); (case hr => decide +kernel)
    intro wz S
    (with_reducible apply hard_of); (case hi => rfl)
    simp only [List.cons_append, List.nil_append] at S
    go_wp2_with first | ((with_reducible apply wps_alloca (E := 43) S); (case hz => exact Tryz.zeroValue43); clear S; intro b10 wz S) | ((with_reducible refine tot_done ?ht ?_); (case ht => kernel_rfl))
    refine ⟨_, S.pick [1, 2, 3, 4, 5, 6, 7, 8, 9, 0] rfl, ?_⟩
    clear S
    (with_reducible apply W_hard1 (i := 17)); (case hn => rfl); (case hr => decide +kernel)
    intro wz S
    (with_reducible apply hard_of); (case hi => rfl)
    simp only [List.cons_append, List.nil_append] at S
    go_wp2_with first | ((with_reducible apply wps_storea (T := 43) S 9 (vs := [.int .i64 s2.n0, .int .i64 s2.n1, .int .i64 s2.n2, .int .i64 s2.n3]) (m := 4)); (case hx | hy | hi | hm | h1 => rfl); (case hn => exact Nat.le_of_ble_eq_true rfl); (case hT => decide +kernel); clear S; intro wz S; simp only [List.set_cons_zero, List.set_cons_succ, setAll, List.setIfInBounds_toArray] at S) | ((with_reducible refine tot_done ?ht ?_); (case ht => kernel_rfl))
    refine ⟨_, S, ?_⟩
    clear S
    (refine W_mid (f := 0) (soft := [18, 19]) rfl ?hB ?_); (case hB => decide +kernel)
    iterate 2
      (with_reducible apply softs_cons)
      (case hw =>
        (with_reducible apply soft_of); (case hi => rfl)
        intro T wz S
        simp only [List.cons_append, List.nil_append] at S
        go_wp2_with first | ((with_reducible refine tot_done ?ht ?_); (case ht => kernel_rfl))
        exact ⟨rfl, S⟩)
      (case hs => exact ⟨_, rfl, by kernel_rfl⟩)
    refine softs_nil ?_
    (with_reducible apply W_done); (case hn => rfl); (case hr => decide +kernel)
    intro wz S
    repeat (first | simp only at S | simp only [pick] at S | simp only [nth] at S | simp only [List.set_cons_succ] at S | simp only [List.set_cons_zero] at S | simp only [List.setIfInBounds_toArray] at S | simp only [setAll] at S | simp only [List.cons_append] at S | simp only [List.nil_append] at S | simp only [List.append_nil] at S)
  rotate_left 1
  focus
    intro wz S
    (with_reducible apply hard_of); (case hi => rfl)
    simp only [List.cons_append, List.nil_append] at S
    go_wp2_with first | ((with_reducible apply wps_alloca (E := 43) S); (case hz => exact Tryz.zeroValue43); clear S; intro b10 wz S) | ((with_reducible refine tot_done ?ht ?_); (case ht => kernel_rfl))
    refine ⟨_, S.pick [1, 2, 3, 4, 5, 6, 7, 8, 0] rfl, ?_⟩
    clear S
    (with_reducible apply W_hard1 (i := 11)); (case hn => rfl); (case hr => decide +kernel)
    intro wz S
    (with_reducible apply hard_of); (case hi => rfl)
    simp only [List.cons_append, List.nil_append] at S
    go_wp2_with first | (go_at_call 41; refine Calls.mono (HR.out _ _ _ _ _ (S.get (i := 5) rfl).choose_spec (own_sl (sh := true) ecells (S.get (i := 7) rfl).choose_spec) (S.get (i := 6) rfl).choose_spec) ?_; rintro e wz ⟨vs2, rfl, T⟩; replace S := S.join T rfl; clear T; simp only [List.cons_append, List.nil_append] at S) | ((with_reducible refine tot_done ?ht ?_); (case ht => kernel_rfl))
    refine ⟨_, S.pick [1, 2, 3, 4, 5, 6, 7, 8, 0, 9] rfl, ?_⟩
    clear S
    (refine W_mid (f := 3) (soft := [12, 13, 14, 15]) rfl ?hB ?_); (case hB => decide +kernel)
    iterate 4
      (with_reducible apply softs_cons)
      (case hw =>
        (with_reducible apply soft_of); (case hi => rfl)
        intro T wz S
        simp only [List.cons_append, List.nil_append] at S
        go_wp2_with first | ((with_reducible refine tot_done ?ht ?_); (case ht => kernel_rfl))
        exact ⟨rfl, S⟩)
      (case hs => exact ⟨_, rfl, by kernel_rfl⟩)
    refine softs_nil ?_
    (with_reducible apply W_hard1 (i := 17)); (case hn => rfl); (case hr => decide +kernel)
    intro wz S
    (with_reducible apply hard_of); (case hi => rfl)
    simp only [List.cons_append, List.nil_append] at S
    go_wp2_with first | ((with_reducible apply wps_storea (T := 43) S 9 (vs := [.int .i64 s2.n0, .int .i64 s2.n1, .int .i64 s2.n2, .int .i64 s2.n3]) (m := 4)); (case hx | hy | hi | hm | h1 => rfl); (case hn => exact Nat.le_of_ble_eq_true rfl); (case hT => decide +kernel); clear S; intro wz S; simp only [List.set_cons_zero, List.set_cons_succ, setAll, List.setIfInBounds_toArray] at S) | ((with_reducible refine tot_done ?ht ?_); (case ht => kernel_rfl))
    refine ⟨_, S, ?_⟩
    clear S
    (refine W_mid (f := 0) (soft := [18, 19]) rfl ?hB ?_); (case hB => decide +kernel)
    iterate 2
      (with_reducible apply softs_cons)
      (case hw =>
        (with_reducible apply soft_of); (case hi => rfl)
        intro T wz S
        simp only [List.cons_append, List.nil_append] at S
        go_wp2_with first | ((with_reducible refine tot_done ?ht ?_); (case ht => kernel_rfl))
        exact ⟨rfl, S⟩)
      (case hs => exact ⟨_, rfl, by kernel_rfl⟩)
    refine softs_nil ?_
    (with_reducible apply W_done); (case hn => rfl); (case hr => decide +kernel)
    intro wz S
    repeat (first | simp only at S | simp only [pick] at S | simp only [nth] at S | simp only [List.set_cons_succ] at S | simp only [List.set_cons_zero] at S | simp only [List.setIfInBounds_toArray] at S | simp only [setAll] at S | simp only [List.cons_append] at S | simp only [List.nil_append] at S | simp only [List.append_nil] at S)
  all_goals
    replace S := sim_close (s := ⟨s.ws.set lp ((r :: t).dropWhile (same_at r.key.at_)), s.ss, s.many - told.length, s.peak⟩) (by rw [List.length_set]; exact HLEN.out) S
    obtain ⟨ao, co, rfl, _⟩ := (S.ownsl ecells 5 rfl).elim fun _ h => h.form
    go_wp2_with first | (go_at_call 43; obtain ⟨Fz, hF, hBk⟩ := S.lend1 0 rfl rfl; refine Calls.mono (become_calls _ R _ lp s2 _ _ hF hlps) ?_; rintro e wz ⟨rfl, T⟩; replace S := hBk _ _ rfl T; clear hBk hF T; simp only [List.set_cons_zero] at S) | (go_at_call 39; obtain ⟨Fz, hF, hBk⟩ := S.lendR 0 5 rfl rfl (by decide) rfl rfl (fun _ h => own_sl (sh := true) ecells h); refine Calls.mono (put_calls X R _ _ _ (2 * n) _ _ hF HB2.out hn2 HDST.out) ?_; rintro e wz ⟨rfl, T⟩; replace S := hBk _ _ rfl T; clear hBk hF T; simp only [List.set_cons_zero] at S) | ((with_reducible apply wps_storea (T := 45) S 1 (vs := [.int .i64 r.key.at_, .int .i64 lp, .slice av told.length cv, .int .i64 s2.n0, .int .i64 s2.n1, .int .i64 s2.n2, .int .i64 s2.n3, .slice ao out.length co]) (m := 8)); (case hx | hy | hi | hm | h1 => rfl); (case hn => exact Nat.le_of_ble_eq_true rfl); (case hT => decide +kernel); clear S; intro wz S; simp only [List.set_cons_zero, List.set_cons_succ, setAll, List.setIfInBounds_toArray] at S) | ((with_reducible refine tot_done ?ht ?_); (case ht => kernel_rfl)) | ((with_reducible apply wps_text S); (case hm => kernel_rfl); (case hB => decide +kernel); clear S; intro wz S) | ((with_reducible apply wps_loada (T := 43) (k := 4) S 6); (case hx | hi => rfl); (case hk => exact Nat.le_of_ble_eq_true rfl); (case hT => decide +kernel))
    (try simp only [Exit.inBlock, Exit.then]); refine bodyPost_ret (results2 rfl (S.resA 1 rfl rfl (by kernel_rfl)) (res_tmp rfl)) rfl ?_
    exact .inr ⟨_, _, _, _, HEQ.out, rfl, S.pick [0, 4, 5] rfl⟩
end Go.Proofs.YthegonbbimmhhaaGreatDoor
/- The walks of a simulation's Until and States, and of seq.All. -/
namespace Go.Proofs.YthegonbbimmhhaaGreatDoor
open Go Go.RowKit Reg Mem

/-- A batch with where its slices lie. -/
structure BatV where
  b : BatE
  ai : Option Addr
  ci : Nat
  ao : Option Addr
  co : Nat
def BatV.vi (x : BatV) : Value := .slice x.ai x.b.ins.length x.ci
def BatV.vo (x : BatV) : Value := .slice x.ao x.b.sent.length x.co
def BatV.cells (x : BatV) : List Value := [.int .i64 x.b.at_, .int .i64 x.b.lp, .slice x.ai x.b.ins.length x.ci, .int .i64 x.b.thn.n0, .int .i64 x.b.thn.n1, .int .i64 x.b.thn.n2, .int .i64 x.b.thn.n3, .slice x.ao x.b.sent.length x.co]
theorem bvcells : ∀ x : BatV, x.cells.length = 8 := fun _ => rfl
theorem bvone : ∀ x : BatV, ∀ u ∈ x.cells, u.oneCell' = true := fun _ => by simp [BatV.cells, Value.oneCell']
set_option maxRecDepth 100000 in
theorem elem_Bat : Elem Tryz.prog 64 45 8 96 := ⟨_, .agg #[.int .i64 0, .int .i64 0, .slice none 0 0, .int .i64 0, .int .i64 0, .int .i64 0, .int .i64 0, .slice none 0 0], Tryz.underlying64, rfl, by kernel_rfl, by kernel_rfl, by kernel_rfl, by kernel_rfl, by omega⟩
/-- The batches ahead of a time, if they are no more than so many. -/
def untilE (c : Cfg) (t : Int) : Nat → SimE → Option (List BatE × SimE)
  | 0, s => match nextE s.ws with
    | none => some ([], s)
    | some p => if t ≤ p.1 then some ([], s) else none
  | k + 1, s => match nextE s.ws with
    | none => some ([], s)
    | some p => if t ≤ p.1 then some ([], s) else
      match simStep c s with
      | none => some ([], s)
      | some q => (untilE c t k q.2).map fun r => (q.1 :: r.1, r.2)
/-- On the way it is no more than so much. -/
def fitsE (c : Cfg) (t : Int) (n : Nat) : Nat → SimE → Bool
  | 0, s => decide (-(n : Int) ≤ s.many ∧ s.many ≤ n ∧ ∀ h ∈ s.ws, h.length ≤ n)
  | k + 1, s => decide (-(n : Int) ≤ s.many ∧ s.many ≤ n ∧ ∀ h ∈ s.ws, h.length ≤ n) &&
      match simStep c s with
      | none => true
      | some q => match nextE s.ws with
        | none => true
        | some p => if t ≤ p.1 then true else fitsE c t n k q.2
theorem fits_b {c : Cfg} {t : Int} {n k : Nat} {s : SimE} (h : fitsE c t n k s = true) : SimB s.ws s.many n := by
  cases k with
  | zero => simp only [fitsE, decide_eq_true_eq] at h; exact ⟨h.1, h.2.1, h.2.2⟩
  | succ k => simp only [fitsE, Bool.and_eq_true, decide_eq_true_eq] at h; exact ⟨h.1.1, h.1.2.1, h.1.2.2⟩
theorem step_next {c : Cfg} {s : SimE} {p : Int × Nat} (h : nextE s.ws = some p) : ∃ q, simStep c s = some q := by
  unfold simStep; rw [h]; exact ⟨_, rfl⟩
/-- Batches as they lie. -/
def batsL (v : Value) (l : List BatV) : List Asn := [Own 45 BatV.cells 8 v l, Sls false Event.cells 7 (l.map (·.vi)) (l.map (·.b.ins)), Sls false Event.cells 7 (l.map (·.vo)) (l.map (·.b.sent))]
def UntilRel (F : Nat → Prop) (X R : Nat) (vs hs : List Value) (c : Cfg) (t : Int) (n most : Nat) (bs : List BatE) (s' : SimE) (w : World) (v : Value) (wr : World) : Prop :=
  ∃ (k : Nat) (s1 : SimE) (l : List BatV) (rest : List BatE), Hid (untilE c t k s1 = some (rest, s')) ∧ Hid (fitsE c t n k s1 = true) ∧ Hid (l.map (·.b) ++ rest = bs) ∧ Hid (k + l.length = most) ∧ Hid (SimOk c s1) ∧
    St F w wr [simA X R s1, Own 45 BatV.cells 8 v l, Sls false Event.cells 7 (l.map (·.vi)) (l.map (·.b.ins)), Sls false Event.cells 7 (l.map (·.vo)) (l.map (·.b.sent)), ModA true 106 R vs hs c, Tab]
def UntilPost (F : Nat → Prop) (X R : Nat) (bs : List BatE) (s' : SimE) (w : World) (e : Ending) (w' : World) : Prop :=
  ∃ a cp l, e = .returned (.tuple #[.slice a bs.length cp, .int .i64 0]) ∧ l.map (·.b) = bs ∧
    St F w w' [simA X R s', Own 45 BatV.cells 8 (.slice a bs.length cp) l, Sls false Event.cells 7 (l.map (·.vi)) (l.map (·.b.ins)), Sls false Event.cells 7 (l.map (·.vo)) (l.map (·.b.sent))]
set_option maxRecDepth 100000 in
set_option maxHeartbeats 8000000 in
theorem until_calls (X R : Nat) (vs hs : List Value) (c : Cfg) (s s' : SimE) (t : Int) (n most : Nat) (bs : List BatE) (w : World) (F : Nat → Prop) (S0 : St F w w [simA X R s, ModA true 106 R vs hs c, Tab]) (hc : cfgE c = 0) (hok : SimOk c s)
    (hn : n ≤ 65536) (hm : most ≤ 65536) (hu : untilE c t most s = some (bs, s')) (hft : fitsE c t n most s = true) :
    Calls Tryz.prog 23 #[.pointer (some ⟨X, 0, none⟩), .int .i64 t, .int .i64 most] w (UntilPost F X R bs s' w) := by
  have S := S0
  clear S0
  have HF := Lib.hid (cfg_isfine hc)
  have HC := Lib.hid hc
  have Hu := Lib.hid hu
  have Hft := Lib.hid hft
  have Hok := Lib.hid hok
  clear hu hft hok
  clear hc
  have hm0 : ¬ ((most : Int) < 0) := by omega
  have hm2 : (most : Int) ≤ 65536 := by omega
  go_enter Tryz.func23, Tryz.ntmps23
  go_wp2_with first | go_skip | ((with_reducible refine wpList_skip ?hw ?_); (case hw => with_unfolding_all rfl); simp only [Act.put, List.setIfInBounds_toArray, List.set_cons_succ, List.set_cons_zero]) | ((with_reducible refine tot_done ?ht ?_); (case ht => kernel_rfl)) | ((with_reducible apply wps_alloca (E := 45) S); (case hz => exact Tryz.zeroValue45); clear S; intro bz wz S) | ((with_reducible apply wps_loada (T := 45) (k := 8) S 0); (case hx | hi => rfl); (case hk => exact Nat.le_of_ble_eq_true rfl); (case hT => decide +kernel)) | ((with_reducible apply wps_loada (T := 45) (k := 8) S 1); (case hx | hi => rfl); (case hk => exact Nat.le_of_ble_eq_true rfl); (case hT => decide +kernel)) | ((with_reducible apply wps_loada (T := 45) (k := 8) S 2); (case hx | hi => rfl); (case hk => exact Nat.le_of_ble_eq_true rfl); (case hT => decide +kernel)) | ((with_reducible apply wps_loada (T := 45) (k := 8) S 3); (case hx | hi => rfl); (case hk => exact Nat.le_of_ble_eq_true rfl); (case hT => decide +kernel))
  go_loopw [8] (fun v wr => UntilRel F X R vs hs c t n most bs s' w v wr) (fun v _ => most - slen v)
  case atStart =>
    exact ⟨most, s, [], bs, Hu, Hft, rfl, rfl, Hok, (((S.slsNil Event.cells 7).slsNil Event.cells 7).nil 45 BatV.cells 8).pick [3, 0, 1, 2, 4, 5] rfl⟩
  case round =>
    clear S
    obtain ⟨k, s1, l, rest, HU, HT, HB, HK, HOK, S⟩ := hrel
    obtain ⟨al, cl, rfl, _⟩ := (S.ownsl bvcells 1 rfl).elim fun _ h => h.form
    have hs1 : s1.ws.length = c.lps.length := HOK.out.len
    have hl1 : s1.ws.length ≤ 65536 := by have := HF.out.sizes; unfold sizesOk at this; omega
    have hl0 : 0 < s1.ws.length := by have := HF.out.sizes; unfold sizesOk at this; omega
    have HNC := Lib.hid fun (w : World) (F : Nat → Prop) (h : (simA X R s1).at_ w F) => next_calls X R s1 w F h hl1 hl0
    clear hs1 hl1 hl0
    have endit : rest = [] → s' = s1 → ∀ wr, St F w wr [simA X R s1, Own 45 BatV.cells 8 (.slice al l.length cl) l, Sls false Event.cells 7 (l.map (·.vi)) (l.map (·.b.ins)), Sls false Event.cells 7 (l.map (·.vo)) (l.map (·.b.sent)), ModA true 106 R vs hs c, Tab] →
        UntilPost F X R bs s' w (.returned (.tuple #[.slice al l.length cl, .int .i64 0])) wr := fun e1 e2 wr S => by
      subst e1; subst e2
      have hb := HB.out
      rw [List.append_nil] at hb
      have hbl : bs.length = l.length := by rw [← hb, List.length_map]
      exact ⟨al, cl, l, by rw [hbl], hb, by rw [hbl]; exact S.pick [0, 1, 2, 3] rfl⟩
    have ENDIT := Lib.hid endit
    clear endit
    cases hx : nextE s1.ws with
    | none =>
      have he : rest = [] ∧ s' = s1 := by
        have := HU.out
        cases k <;> (simp only [untilE, hx, Option.some.injEq, Prod.mk.injEq] at this; exact ⟨this.1.symm, this.2.symm⟩)
      rw [hx] at HNC
      simp only [optAt, optLp, Option.isSome_none] at HNC
      have HE := Lib.hid he
      clear he hx
      go_wp2_with first | go_skip | ((with_reducible refine wpList_skip ?hw ?_); (case hw => with_unfolding_all rfl); simp only [Act.put, List.setIfInBounds_toArray, List.set_cons_succ, List.set_cons_zero]) | (go_at_call 31; refine Calls.mono (HNC.out _ _ (S.get (i := 0) rfl).choose_spec) ?_; rintro e wz ⟨rfl, hE⟩; replace S := S.ext (Keep.of_below hE); clear hE) | ((with_reducible refine tot_done ?ht ?_); (case ht => kernel_rfl)) | ((with_reducible apply wps_alloca (E := 45) S); (case hz => exact Tryz.zeroValue45); clear S; intro bz wz S) | ((with_reducible apply wps_loada (T := 45) (k := 8) S 0); (case hx | hi => rfl); (case hk => exact Nat.le_of_ble_eq_true rfl); (case hT => decide +kernel)) | ((with_reducible apply wps_loada (T := 45) (k := 8) S 1); (case hx | hi => rfl); (case hk => exact Nat.le_of_ble_eq_true rfl); (case hT => decide +kernel)) | ((with_reducible apply wps_loada (T := 45) (k := 8) S 2); (case hx | hi => rfl); (case hk => exact Nat.le_of_ble_eq_true rfl); (case hT => decide +kernel)) | ((with_reducible apply wps_loada (T := 45) (k := 8) S 3); (case hx | hi => rfl); (case hk => exact Nat.le_of_ble_eq_true rfl); (case hT => decide +kernel))
      (try simp only [Exit.inBlock, Exit.then]); refine bodyPost_ret (results2 rfl (res_tmp rfl) (res_tmp rfl)) rfl ?_
      exact ENDIT.out HE.out.1 HE.out.2 _ S
    | some p =>
      obtain ⟨a, lp⟩ := p
      rw [hx] at HNC
      simp only [optAt, optLp, Option.isSome_some] at HNC
      by_cases hta : t ≤ a
      · have he : rest = [] ∧ s' = s1 := by
          have := HU.out
          cases k <;> (simp only [untilE, hx, if_pos hta, Option.some.injEq, Prod.mk.injEq] at this; exact ⟨this.1.symm, this.2.symm⟩)
        have HE := Lib.hid he
        clear he hx
        go_wp2_with first | go_skip | ((with_reducible refine wpList_skip ?hw ?_); (case hw => with_unfolding_all rfl); simp only [Act.put, List.setIfInBounds_toArray, List.set_cons_succ, List.set_cons_zero]) | (go_at_call 31; refine Calls.mono (HNC.out _ _ (S.get (i := 0) rfl).choose_spec) ?_; rintro e wz ⟨rfl, hE⟩; replace S := S.ext (Keep.of_below hE); clear hE) | ((with_reducible refine tot_done ?ht ?_); (case ht => kernel_rfl)) | ((with_reducible apply wps_alloca (E := 45) S); (case hz => exact Tryz.zeroValue45); clear S; intro bz wz S) | ((with_reducible apply wps_loada (T := 45) (k := 8) S 0); (case hx | hi => rfl); (case hk => exact Nat.le_of_ble_eq_true rfl); (case hT => decide +kernel)) | ((with_reducible apply wps_loada (T := 45) (k := 8) S 1); (case hx | hi => rfl); (case hk => exact Nat.le_of_ble_eq_true rfl); (case hT => decide +kernel)) | ((with_reducible apply wps_loada (T := 45) (k := 8) S 2); (case hx | hi => rfl); (case hk => exact Nat.le_of_ble_eq_true rfl); (case hT => decide +kernel)) | ((with_reducible apply wps_loada (T := 45) (k := 8) S 3); (case hx | hi => rfl); (case hk => exact Nat.le_of_ble_eq_true rfl); (case hT => decide +kernel))
        (try simp only [Exit.inBlock, Exit.then]); refine bodyPost_ret (results2 rfl (res_tmp rfl) (res_tmp rfl)) rfl ?_
        exact ENDIT.out HE.out.1 HE.out.2 _ S
      · obtain ⟨k, rfl⟩ : ∃ k', k = k' + 1 := by
          cases k with
          | zero => have := HU.out; simp [untilE, hx, hta] at this
          | succ k => exact ⟨k, rfl⟩
        obtain ⟨⟨b, s2⟩, hq⟩ := step_next (c := c) hx
        obtain ⟨rest2, rfl, HU2⟩ : ∃ r2, rest = b :: r2 ∧ Hid (untilE c t k s2 = some (r2, s')) := by
          have := HU.out
          simp only [untilE, hx, if_neg hta, hq, Option.map_eq_some_iff, Prod.mk.injEq] at this
          obtain ⟨r, h1, h2, h3⟩ := this
          exact ⟨r.1, h2.symm, Lib.hid (by rw [h1, ← h3])⟩
        have HT2 : Hid (fitsE c t n k s2 = true) := Lib.hid (by
          have := HT.out
          simp only [fitsE, hx, if_neg hta, hq, Bool.and_eq_true] at this
          exact this.2)
        have HOK2 : Hid (SimOk c s2) := Lib.hid (step_ok HOK.out hq)
        have HST : Hid (∀ (w : World) (F : Nat → Prop), St F w w [simA X R s1, ModA true 106 R vs hs c, Tab] → Calls Tryz.prog 13 #[.pointer (some ⟨X, 0, none⟩)] w fun e w' =>
            ∃ ai ci ao co, e = .returned (.tuple #[.agg #[.int .i64 b.at_, .int .i64 b.lp, .slice ai b.ins.length ci, .int .i64 b.thn.n0, .int .i64 b.thn.n1, .int .i64 b.thn.n2, .int .i64 b.thn.n3, .slice ao b.sent.length co], .bool true]) ∧ St F w w' [simA X R s2, Own 52 Event.cells 7 (.slice ai b.ins.length ci) b.ins, Own 52 Event.cells 7 (.slice ao b.sent.length co) b.sent]) := Lib.hid fun w F S => by
          refine (step_some X R vs hs c s1 n a lp w F S HC.out HOK.out (fits_b HT.out) hn hx).mono fun e w' hp => ?_
          rcases hp with ⟨h, _⟩ | ⟨b', s'', vi, vo, h1, h2, S⟩
          · rw [hq] at h; cases h
          · rw [hq] at h1
            simp only [Option.some.injEq, Prod.mk.injEq] at h1
            obtain ⟨rfl, rfl⟩ := h1
            obtain ⟨ai, ci, rfl, _⟩ := (S.ownsl ecells 1 rfl).elim fun _ h => h.form
            obtain ⟨ao, co, rfl, _⟩ := (S.ownsl ecells 2 rfl).elim fun _ h => h.form
            exact ⟨ai, ci, ao, co, h2, S⟩
        have hlm : l.length < most := by have := HK.out; omega
        have hlm2 : ¬ ((l.length : Int) = most) := by omega
        have hll : l.length < 4294967296 := by omega
        have hta2 : ¬ (a ≥ t) := by omega
        clear hq hx
        go_wp2_with first | go_skip | ((with_reducible refine wpList_skip ?hw ?_); (case hw => with_unfolding_all rfl); simp only [Act.put, List.setIfInBounds_toArray, List.set_cons_succ, List.set_cons_zero]) | (go_at_call 31; refine Calls.mono (HNC.out _ _ (S.get (i := 0) rfl).choose_spec) ?_; rintro e wz ⟨rfl, hE⟩; replace S := S.ext (Keep.of_below hE); clear hE) | (go_at_call 13; obtain ⟨Fz, hF, hBk⟩ := S.lend [0] [4, 5] [1, 2, 3, 4, 5] rfl rfl rfl; simp only [List.cons_append, List.nil_append, pick, nth] at hF hBk; refine Calls.mono (HST.out _ _ hF) ?_; rintro e wz ⟨ai, ci, ao, co, rfl, T⟩; replace S := hBk _ _ T rfl; clear hBk hF T; simp only [List.cons_append, List.nil_append] at S) | ((with_reducible apply wps_storea (T := 45) S 0 (vs := [.int .i64 b.at_, .int .i64 b.lp, .slice ai b.ins.length ci, .int .i64 b.thn.n0, .int .i64 b.thn.n1, .int .i64 b.thn.n2, .int .i64 b.thn.n3, .slice ao b.sent.length co]) (m := 8)); (case hx | hy | hi | hm | h1 => rfl); (case hn => exact Nat.le_of_ble_eq_true rfl); (case hT => decide +kernel); clear S; intro wz S; simp only [List.set_cons_zero, List.set_cons_succ, setAll, List.setIfInBounds_toArray] at S) | ((with_reducible apply wps_build1a (T := 64) (E := 45) S); (case hx => rfl); (case hr => intro w; kernel_rfl); clear S; intro bz wz S) | ((with_reducible apply wps_append1 elem_Bat bvcells bvone (by decide) S 5 (j := 0) (e := ⟨b,ai,ci,ao,co⟩)); (case hx | hy | hi | hj | he => rfl); (case hl => first | omega | (simp; omega)); clear S; intro az nz cz wz hnz S; simp only [List.set_cons_succ, List.set_cons_zero] at S) | ((with_reducible refine tot_done ?ht ?_); (case ht => kernel_rfl)) | ((with_reducible apply wps_alloca (E := 45) S); (case hz => exact Tryz.zeroValue45); clear S; intro bz wz S) | ((with_reducible apply wps_loada (T := 45) (k := 8) S 0); (case hx | hi => rfl); (case hk => exact Nat.le_of_ble_eq_true rfl); (case hT => decide +kernel)) | ((with_reducible apply wps_loada (T := 45) (k := 8) S 1); (case hx | hi => rfl); (case hk => exact Nat.le_of_ble_eq_true rfl); (case hT => decide +kernel))
        go_roundw
        case rel =>
          have S2 := S.pick [3, 6, 4, 7, 2, 5, 8, 9] rfl
          simp only [pick, nth] at S2
          have S3 := S2.freeze false 0 ecells rfl
          simp only [List.set_cons_zero] at S3
          have S4 := S3.slsSnoc.pick [1, 2, 0, 3, 4, 5, 6] rfl
          simp only [pick, nth] at S4
          have S5 := S4.freeze false 0 ecells rfl
          simp only [List.set_cons_zero] at S5
          have S6 := S5.slsSnoc
          refine ⟨k, s2, l ++ [⟨b, ai, ci, ao, co⟩], rest2, HU2, HT2, Lib.hid (by rw [← HB.out, List.map_append, List.append_assoc]; rfl), Lib.hid (by have := HK.out; rw [List.length_append]; simp only [List.length_cons, List.length_nil]; omega), HOK2, ?_⟩
          simp only [List.map_append, List.map_cons, List.map_nil]
          exact S6.pick [2, 3, 1, 0, 4, 5] rfl
        case measure => have h1 := hnz.out; simp only [slen]; omega
set_option maxRecDepth 100000 in
/-- slices.Clone. -/
theorem clone_Sst {ad : Option Addr} {n c : Nat} {xs : List _} (w : World) (F : Nat → Prop) (h : (Sl true State.cells 4 (.slice ad n c) xs).at_ w F) (hn : xs.length ≤ 4294967296) :
    Calls Tryz.prog 54 #[.slice ad n c] w fun e w' => ∃ ad' c', e = .returned (.slice ad' xs.length c') ∧ (0 < xs.length → ∃ R, ad' = some ⟨R, 0, none⟩) ∧ St (fun _ => False) w w' [Own 43 State.cells 4 (.slice ad' xs.length c') xs] := by
  have S : St (fun _ => False) w w [Sl true State.cells 4 (.slice ad n c) xs] := (St.init _ w).share rfl rfl h
  have hq : ∀ (w : World) (a : Option Addr) (n c n' c' : Nat), (binOp .eql 67 (.slice a n c) (.slice none n' c')).run Tryz.prog w = .ok (.bool a.isNone) w := fun w a n c n' c' => Lib.run_eql_slice_nil w _ _ a n c n' c' Tryz.underlying67
  cases ad with
  | none =>
    have hx : xs = [] := by
      obtain ⟨a, c', e, h1, h2, _⟩ := h.1
      simp only [Value.slice.injEq] at e
      obtain ⟨rfl, rfl, rfl⟩ := e
      exact List.eq_nil_of_length_eq_zero (by have := h2 rfl; omega)
    subst hx
    go_enter Tryz.func54, Tryz.ntmps54
    go_wp2_with first | ((with_reducible refine tot_done ?ht ?_); (case ht => kernel_rfl))
    go_ret
    exact ⟨_, _, rfl, fun h => absurd h (by simp), ((S.nil 43 State.cells 4).pick [0] rfl)⟩
  | some a0 =>
    go_enter Tryz.func54, Tryz.ntmps54
    go_wp2_with first | ((with_reducible apply wps_build0 (T := 67) (E := 43) State.cells 4 S); (case hr => intro w; kernel_rfl); clear S; intro bz wz S) | ((with_reducible apply wps_appends elem_Sst sacells saone (by decide) S 0 (j := 1)); (case hx | hy | hi | hj => rfl); (case hl => first | omega | (simp; omega)); clear S; intro az nz cz wz hnz S; simp only [List.set_cons_zero] at S) | ((with_reducible refine tot_done ?ht ?_); (case ht => kernel_rfl))
    go_ret
    obtain rfl : nz = xs.length := by have := hnz.out; simp at this; omega
    simp only [List.nil_append] at S
    refine ⟨_, _, rfl, fun h0 => ?_, S.pick [0] rfl⟩
    obtain ⟨F, hF⟩ := S.get (i := 0) rfl
    rcases hF.1.2 with ⟨_, e⟩ | ⟨g, cap, cur, e, _⟩
    · omega
    · simp only [Value.slice.injEq] at e; exact ⟨g, e.1⟩
set_option maxRecDepth 100000 in
theorem states_calls (X R : Nat) (s : SimE) (w : World) (F : Nat → Prop) (h : (simA X R s).at_ w F) (hn : s.ss.length ≤ 65536) :
    Calls Tryz.prog 30 #[.pointer (some ⟨X, 0, none⟩)] w fun e w' => ∃ ad c, e = .returned (.slice ad s.ss.length c) ∧ St (fun _ => False) w w' [Own 43 State.cells 4 (.slice ad s.ss.length c) s.ss] := by
  obtain ⟨v1, v2, Bs, hlen, S⟩ := simR_st h
  clear h
  obtain ⟨a1, c1, rfl, _⟩ := (S.sl 2 rfl).elim fun _ h => h.form
  have hn2 : s.ss.length ≤ 4294967296 := by omega
  go_enter Tryz.func30, Tryz.ntmps30
  go_wp2_with first | (go_at_call 54; refine Calls.mono (clone_Sst _ _ (S.get (i := 2) rfl).choose_spec hn2) ?_; rintro e wz ⟨ad2, c2, rfl, _, T⟩; replace S := S.join T rfl; clear T; simp only [List.cons_append, List.nil_append] at S) | ((with_reducible refine tot_done ?ht ?_); (case ht => kernel_rfl)) | ((with_reducible apply wps_load S 0); (case hx | hi | hu => rfl); (case hT => decide +kernel)) | ((with_reducible apply wps_load S 1); (case hx | hi | hu => rfl); (case hT => decide +kernel)) | ((with_reducible apply wps_load S 2); (case hx | hi | hu => rfl); (case hT => decide +kernel)) | ((with_reducible apply wps_load S 3); (case hx | hi | hu => rfl); (case hT => decide +kernel))
  go_ret
  exact ⟨_, _, rfl, S.pick [0] rfl⟩
set_option maxRecDepth 100000 in
theorem all_calls (R : Nat) (vs hs : List Value) (c : Cfg) (n most : Nat) (bs : List BatE) (s' : SimE) (w : World) (F F3 : Nat → Prop) (h : (ModA true 106 R vs hs c).at_ w F) (ht : Tab.at_ w F3) (hc : cfgE c = 0)
    (hn : n ≤ 65536) (hm : most ≤ 65536) (hu : untilE c (c.fin + 1) most (newE c) = some (bs, s')) (hft : fitsE c (c.fin + 1) n most (newE c) = true) (hss : s'.ss.length ≤ 65536) :
    Calls Tryz.prog 24 #[.pointer (some ⟨R, 0, none⟩), .int .i64 most] w fun e w' => ∃ a cp l a2 c2, e = .returned (.tuple #[.slice a bs.length cp, .slice a2 s'.ss.length c2, .int .i64 0]) ∧ l.map (·.b) = bs ∧
      St (fun _ => False) w w' [Own 43 State.cells 4 (.slice a2 s'.ss.length c2) s'.ss, Own 45 BatV.cells 8 (.slice a bs.length cp) l, Sls false Event.cells 7 (l.map (·.vi)) (l.map (·.b.ins)), Sls false Event.cells 7 (l.map (·.vo)) (l.map (·.b.sent))] := by
  have S : St (fun _ => False) w w [ModA true 106 R vs hs c, Tab] := ((St.init _ w).share rfl rfl ht).share rfl rfl h
  clear h ht
  have hf := cfg_isfine hc
  have hfin : c.fin ≤ 1073741824 := by have := hf.sizes; unfold sizesOk at this; omega
  have hfin0 : 0 ≤ c.fin := by have := hf.sizes; unfold sizesOk at this; omega
  have HF := Lib.hid hf
  have HU := Lib.hid fun (X : Nat) (w : World) (F : Nat → Prop) (S : St F w w [simA X R (newE c), ModA true 106 R vs hs c, Tab]) => until_calls X R vs hs c (newE c) s' (c.fin + 1) n most bs w F S hc (new_ok hf) hn hm hu hft
  clear hf hu hft hc
  go_enter Tryz.func24, Tryz.ntmps24
  go_wp2_with first | (go_at_call 11; refine Calls.mono (snew_calls R vs hs c _ _ (S.get (i := 0) rfl).choose_spec HF.out) ?_; rintro e wz ⟨X, rfl, T⟩; replace S := S.join T rfl; clear T; simp only [List.cons_append, List.nil_append] at S) | (go_at_call 14; refine Calls.mono (end_calls _ _ _ _ _ _ (S.get (i := 1) rfl).choose_spec) ?_; rintro e wz ⟨rfl, hE⟩; replace S := S.ext (Keep.of_below hE); clear hE) | (go_at_call 23; obtain ⟨Fz, hF, hBk⟩ := S.lend [0] [1, 2] [1, 2] rfl rfl rfl; simp only [List.cons_append, List.nil_append, pick, nth] at hF hBk; refine Calls.mono (HU.out _ _ _ hF) ?_; rintro e wz ⟨a, cp, l, rfl, hlb, T⟩; replace S := hBk _ _ T rfl; clear hBk hF T; simp only [List.cons_append, List.nil_append] at S) | (go_at_call 30; refine Calls.mono (states_calls X R _ _ _ (S.get (i := 0) rfl).choose_spec hss) ?_; rintro e wz ⟨a2, c2, rfl, T⟩; replace S := S.join T rfl; clear T; simp only [List.cons_append, List.nil_append] at S) | ((with_reducible refine tot_done ?ht ?_); (case ht => kernel_rfl))
  (try simp only [Exit.inBlock, Exit.then]); refine bodyPost_ret (results3 rfl (res_tmp rfl) (res_tmp rfl) (res_tmp rfl)) rfl ?_
  exact ⟨_, _, l, _, _, rfl, hlb, S.pick [0, 2, 3, 4] rfl⟩
end Go.Proofs.YthegonbbimmhhaaGreatDoor
/- A configuration out of its parts. -/
namespace Go.Proofs.YthegonbbimmhhaaGreatDoor
open Go Go.RowKit Reg Mem

theorem cfg_any {vP vL vS : Value} {hs : List Value} {c : Cfg} {w : World} {F1 F2 F3 F4 : Nat → Prop} (h1 : (Sl true vcell 1 vP hs).at_ w F1) (h2 : (Sl true Place.cells 5 vL c.lps).at_ w F2) (h3 : (Sl true Start.cells 4 vS c.starts).at_ w F3) (h4 : (Sls true Instr.cells 5 hs c.programs).at_ w F4) :
    (CfgA true [vP, vL, vS, .int .i64 c.fin, .int .i64 c.fuel, .int .i64 c.fan] hs c).at_ w (fun b => b < w.heap.size) :=
  ⟨⟨⟨vP, vL, vS, rfl, h1.1.mono h1.2, h2.1.mono h2.2, h3.1.mono h3.2⟩, h4.1.mono h4.2⟩, fun _ h => h⟩
theorem sls_one {α : Type} {enc : α → List Value} {k : Nat} {v : Value} {xs : List α} {w : World} {F : Nat → Prop} (h : (Sl true enc k v xs).at_ w F) : (Sls true enc k [v] [xs]).at_ w F :=
  ⟨⟨rfl, fun i u ys hu hy => by
    cases i with
    | zero => simp at hu hy; subst hu; subst hy; exact h.1
    | succ i => simp at hu⟩, h.2⟩
end Go.Proofs.YthegonbbimmhhaaGreatDoor
/- The walk of the law's awake (chapter 9). -/
namespace Go.Proofs.YthegonbbimmhhaaGreatDoor
open Go Go.RowKit Reg Mem

def wk9 : Cfg := ⟨[[⟨13, 4, 0, 0, 0⟩, ⟨1, 5, 1, 0, 0⟩, ⟨4, 4, 5, 4, 0⟩, ⟨1, 5, 2, 0, 0⟩, ⟨12, 6, 0, 0, 0⟩, ⟨14, 4, 5, 6, 0⟩]], [⟨0, ⟨0, 0, 0, 0⟩⟩, ⟨0, ⟨0, 0, 0, 0⟩⟩], [⟨0, 1, 0, 0⟩], 7, 9, 1⟩
theorem wk9_ok : cfgE wk9 = 0 := by decide +kernel
theorem wk9_mid : Mid wk9 := ⟨by decide, by decide, by decide⟩
theorem wk9_mid2 : ∀ p ∈ wk9.programs, p.length ≤ 65536 := by decide
theorem wk9_fits : fitsE wk9 (wk9.fin + 1) 16 9 (newE wk9) = true := by decide +kernel
def chk9 : Bool := match untilE wk9 (wk9.fin + 1) 9 (newE wk9) with
  | none => false
  | some p => decide (p.1.map (fun b => (b.at_, b.lp)) = [(1, 0), (3, 1), (5, 0), (7, 1)]) && decide (p.2.ss.length = 2)
theorem chk9_ok : chk9 = true := by decide +kernel
theorem wk9_run : ∃ bs s', untilE wk9 (wk9.fin + 1) 9 (newE wk9) = some (bs, s') ∧ bs.map (fun b => (b.at_, b.lp)) = [(1, 0), (3, 1), (5, 0), (7, 1)] ∧ s'.ss.length = 2 := by
  have h := chk9_ok
  unfold chk9 at h
  split at h
  · cases h
  · rename_i p hp
    simp only [Bool.and_eq_true, decide_eq_true_eq] at h
    exact ⟨p.1, p.2, hp, h.1, h.2⟩
def Awk9Rel (v : Value) (l : List BatV) (w : World) (i : Value) (wr : World) : Prop :=
  ∃ j : Nat, j ≤ 4 ∧ i = .int .i64 j ∧ St (fun _ => False) w wr [Own 45 BatV.cells 8 v l]
set_option maxRecDepth 100000 in
set_option maxHeartbeats 8000000 in
theorem awake9_calls (w : World) (F : Nat → Prop) (ht : Tab.at_ w F) : Calls Tryz.prog 10 #[] w fun r w' => r = .returned (.bool true) ∧ Below w.heap.size w w' := by
  have S : St (fun _ => False) w w [Tab] := (St.init _ w).share rfl rfl ht
  clear ht
  obtain ⟨bs, s', hu, hm, hss⟩ := wk9_run
  have hbl : bs.length = 4 := by have := congrArg List.length hm; simpa using this
  have HA := Lib.hid fun (R : Nat) (vs hs : List Value) (w : World) (F F3 : Nat → Prop) (h : (ModA true 106 R vs hs wk9).at_ w F) (ht : Tab.at_ w F3) => all_calls R vs hs wk9 16 9 bs s' w F F3 h ht wk9_ok (by decide) (by decide) hu wk9_fits (by omega)
  rw [hbl, hss] at HA
  have HM := Lib.hid hm
  clear hu hm
  go_enter Tryz.func10, Tryz.ntmps10
  go_wp2_with first | go_skip | ((with_reducible refine wpList_skip ?hw ?_); (case hw => with_unfolding_all rfl); simp only [Act.put, List.setIfInBounds_toArray, List.set_cons_succ, List.set_cons_zero]) | ((with_reducible apply wps_buildSlice (T := 92) (E := 91) (cs := #[.int .i64 13, .int .i64 4, .int .i64 0, .int .i64 0, .int .i64 0, .int .i64 1, .int .i64 5, .int .i64 1, .int .i64 0, .int .i64 0, .int .i64 4, .int .i64 4, .int .i64 5, .int .i64 4, .int .i64 0, .int .i64 1, .int .i64 5, .int .i64 2, .int .i64 0, .int .i64 0, .int .i64 12, .int .i64 6, .int .i64 0, .int .i64 0, .int .i64 0, .int .i64 14, .int .i64 4, .int .i64 5, .int .i64 6, .int .i64 0]) S); (case hr => intro w; kernel_rfl); clear S; intro bi wz S) | ((with_reducible apply wps_buildSlice (T := 22) (E := 92) (cs := #[.slice (some ⟨bi, 0, none⟩) 6 6]) S); (case hr => intro w; kernel_rfl); clear S; intro bh wz S) | ((with_reducible apply wps_buildSlice (T := 23) (E := 94) (cs := #[.int .i64 0, .int .i64 0, .int .i64 0, .int .i64 0, .int .i64 0, .int .i64 0, .int .i64 0, .int .i64 0, .int .i64 0, .int .i64 0]) S); (case hr => intro w; kernel_rfl); clear S; intro bp wz S) | ((with_reducible apply wps_buildSlice (T := 24) (E := 96) (cs := #[.int .i64 0, .int .i64 1, .int .i64 0, .int .i64 0]) S); (case hr => intro w; kernel_rfl); clear S; intro bt wz S) | ((with_reducible refine tot_done ?ht ?_); (case ht => kernel_rfl)) | ((with_reducible apply wps_load S 0); (case hx | hi | hu => rfl); (case hT => decide +kernel))
  have hcfg : (CfgA true [.slice (some ⟨bh, 0, none⟩) 1 1, .slice (some ⟨bp, 0, none⟩) 2 2, .slice (some ⟨bt, 0, none⟩) 1 1, .int .i64 7, .int .i64 9, .int .i64 1] [.slice (some ⟨bi, 0, none⟩) 6 6] wk9).at_ wz (fun b => b < wz.heap.size) :=
    cfg_any (c := wk9) (blk_sl (n := 1) [.slice (some ⟨bi, 0, none⟩) 6 6] vcells (S.get (i := 2) rfl).choose_spec rfl rfl) (blk_sl (n := 2) wk9.lps plcells (S.get (i := 1) rfl).choose_spec rfl rfl) (blk_sl (n := 1) wk9.starts stcells (S.get (i := 0) rfl).choose_spec rfl rfl)
      (sls_one (blk_sl (n := 6) wk9.programs[0] incells (S.get (i := 3) rfl).choose_spec rfl rfl))
  refine Calls.mono (new_calls _ _ wk9 _ _ _ hcfg (S.get (i := 4) rfl).choose_spec wk9_mid wk9_mid2) ?_
  clear hcfg
  rintro e wz (⟨h, _⟩ | ⟨_, R, vs, hs, rfl, T⟩)
  · exact absurd wk9_ok h
  replace S := ((S.join T rfl).modShare 0 rfl).pick [0, 5] rfl
  repeat (first | simp only at S | simp only [pick] at S | simp only [nth] at S | simp only [List.set_cons_succ] at S | simp only [List.set_cons_zero] at S | simp only [List.setIfInBounds_toArray] at S | simp only [setAll] at S | simp only [List.cons_append] at S | simp only [List.nil_append] at S | simp only [List.append_nil] at S)
  clear T
  go_upto_region 8 with first | go_skip | ((with_reducible refine wpList_skip ?hw ?_); (case hw => with_unfolding_all rfl); simp only [Act.put, List.setIfInBounds_toArray, List.set_cons_succ, List.set_cons_zero]) | (go_at_call 24; refine Calls.mono (HA.out R vs hs _ _ _ (S.get (i := 0) rfl).choose_spec (S.get (i := 1) rfl).choose_spec) ?_; rintro e wz ⟨a, cp, l, a2, c2, rfl, hlb, T⟩; replace S := S.join T rfl; clear T; simp only [List.cons_append, List.nil_append] at S) | ((with_reducible refine tot_done ?ht ?_); (case ht => kernel_rfl)) | ((with_reducible apply wps_load S 0); (case hx | hi | hu => rfl); (case hT => decide +kernel))
  have hll : l.length = 4 := by have := congrArg List.length hlb; rw [List.length_map, hbl] at this; exact this
  replace S := S.pick [1] rfl
  simp only [pick, nth] at S
  have HX : Hid (∀ (j : Nat) (x : BatV), l[j]? = some x → ([(1, 0), (3, 1), (5, 0), (7, 1)] : List (Int × Int))[j]? = some (x.b.at_, x.b.lp)) := Lib.hid fun j x hx => by
    rw [← HM.out, ← hlb, List.map_map, List.getElem?_map, hx]; rfl
  clear hlb HA HM
  obtain ⟨RB, cB, e⟩ := own_hd 0 S rfl (by omega)
  simp only [Value.slice.injEq] at e
  obtain ⟨rfl, hq, rfl⟩ := e
  clear hq
  go_wp2_with first | go_skip | ((with_reducible refine wpList_skip ?hw ?_); (case hw => with_unfolding_all rfl); simp only [Act.put, List.setIfInBounds_toArray, List.set_cons_succ, List.set_cons_zero]) | ((with_reducible refine tot_done ?ht ?_); (case ht => kernel_rfl)) | ((with_reducible apply wps_load S 0); (case hx | hi | hu => rfl); (case hT => decide +kernel))
  go_loopw [7] (fun i wr => Awk9Rel (.slice (some ⟨RB, 0, none⟩) 4 cp) l w i wr) (fun i _ => 4 - (intOf i).toNat)
  case atStart => exact ⟨0, by omega, rfl, S⟩
  case round =>
    clear S
    obtain ⟨j, hj, rfl, S⟩ := hrel
    by_cases hlt : j < 4
    · obtain ⟨x, hx⟩ : ∃ x, l[j]? = some x := ⟨_, List.getElem?_eq_getElem (by omega)⟩
      have hb := HX.out j x hx
      have HLX := Lib.hid hx
      clear hx
      rcases (show j = 0 ∨ j = 1 ∨ j = 2 ∨ j = 3 by omega) with rfl | rfl | rfl | rfl
      all_goals
        simp only [List.getElem?_cons_zero, List.getElem?_cons_succ, Option.some.injEq, Prod.mk.injEq] at hb
        obtain ⟨ha, hb⟩ := hb
        replace ha := ha.symm
        replace hb := hb.symm
        go_wp2_with first | go_skip | ((with_reducible refine wpList_skip ?hw ?_); (case hw => with_unfolding_all rfl); simp only [Act.put, List.setIfInBounds_toArray, List.set_cons_succ, List.set_cons_zero]) | ((with_reducible apply wps_load_own bvcells S 0 (hj := HLX.out) (q := 0) (u := .int .i64 x.b.at_)); (case hx | hi => rfl); (case hn => omega); (case hu => rfl); (case hT => decide +kernel)) | ((with_reducible apply wps_load_own bvcells S 0 (hj := HLX.out) (q := 1) (u := .int .i64 x.b.lp)); (case hx | hi => rfl); (case hn => omega); (case hu => rfl); (case hT => decide +kernel)) | ((with_reducible refine tot_done ?ht ?_); (case ht => kernel_rfl)) | ((with_reducible apply wps_load S 0); (case hx | hi | hu => rfl); (case hT => decide +kernel))
        go_roundw
        case rel => first | exact ⟨1, by omega, rfl, S⟩ | exact ⟨2, by omega, rfl, S⟩ | exact ⟨3, by omega, rfl, S⟩ | exact ⟨4, by omega, rfl, S⟩
        case measure => simp [intOf]
    · obtain rfl : j = 4 := by omega
      go_wp2_with first | go_skip | ((with_reducible refine wpList_skip ?hw ?_); (case hw => with_unfolding_all rfl); simp only [Act.put, List.setIfInBounds_toArray, List.set_cons_succ, List.set_cons_zero]) | ((with_reducible refine tot_done ?ht ?_); (case ht => kernel_rfl)) | ((with_reducible apply wps_load S 0); (case hx | hi | hu => rfl); (case hT => decide +kernel))
      go_ret
      exact ⟨ret_bool rfl, S.below⟩
end Go.Proofs.YthegonbbimmhhaaGreatDoor
