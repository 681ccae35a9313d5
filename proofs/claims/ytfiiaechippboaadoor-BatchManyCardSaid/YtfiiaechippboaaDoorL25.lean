import Derived.Test.YtfiiaechippboaaDoorL24
import Derived.Test.YtfiiaechippboaaDoorL18
/- The walk of the reference's Many. -/
namespace Go.Proofs.YtfiiaechippboaaDoor
open Go Go.RowKit Reg Mem

def RMnRel (M : List Asn) (b6 : Nat) (c : Cfg) (lp : Int) (s : State) (sl : List Event) (w : World) (out i : Value) (wr : World) : Prop :=
  ∃ (j : Nat) (st : State × List Event) (pre : List (List Event)), j ≤ sl.length ∧ i = .int .i64 j ∧ Hid (batchesE sl = pre ++ batchesE (sl.drop j)) ∧ Hid (st = pre.foldl (stepM c lp) (s, [])) ∧ Hid (st.2.length ≤ 8 * j) ∧
    St (fun _ => False) w wr (Mem.Own 54 Event.cells 7 out st.2 :: Blk false b6 #[.int .i64 st.1.n0, .int .i64 st.1.n1, .int .i64 st.1.n2, .int .i64 st.1.n3] 28 :: M)
def RMn2Rel (L : List Asn) (sl : List Event) (x : Event) (j : Nat) (w : World) (i : Value) (wr : World) : Prop :=
  ∃ q : Nat, j ≤ q ∧ q ≤ sl.length ∧ i = .int .i64 q ∧ Hid (∀ (r : Nat) y, j ≤ r → r < q → sl[r]? = some y → y.key.at_ = x.key.at_) ∧ St (fun _ => False) w wr L
set_option maxRecDepth 100000 in
set_option maxHeartbeats 8000000 in
theorem rmany_calls (vs hs : List Value) (c : Cfg) (lp : Int) (s : State) (v : Value) (l : List Event) (w : World) (F F2 : Nat → Prop) (h : (CfgA true vs hs c).at_ w F) (h2 : (Sl true Event.cells 7 v l).at_ w F2) (hn : l.length ≤ 16384)
    (hc : cfgE c = 0) (hat : aloneE c.lps.length lp l = 0 → ∀ x ∈ l, 0 ≤ x.key.at_ ∧ x.key.at_ ≤ 1073741824) :
    Calls Tryd.prog 23 #[.agg vs.toArray, .int .i64 lp, .agg #[.int .i64 s.n0, .int .i64 s.n1, .int .i64 s.n2, .int .i64 s.n3], v] w (ManyPost c lp s l w) := by
  have S : St (fun _ => False) w w [CfgA true vs hs c, Sl true Event.cells 7 v l] := ((St.init _ w).share (A := Sl true Event.cells 7 v l) rfl rfl h2).share rfl rfl h
  obtain ⟨ad, cp, rfl, _⟩ := (S.sl 1 rfl).elim fun _ h => h.form
  clear h h2
  obtain ⟨aP, cP, aL, cL, aS, cS, rfl, _, _⟩ := S.cfg 0 rfl
  generalize hvP : Value.slice aP c.programs.length cP = vP at *
  generalize hvS : Value.slice aS c.starts.length cS = vS at *
  clear hvP hvS
  have HA := Lib.hid fun w F h => ralone_calls vP vS (.int .i64 c.fin) (.int .i64 c.fuel) (.int .i64 c.fan) aL c.lps.length cL lp (.slice ad l.length cp) l w F h (by omega)
  have HT := Lib.hid fun w F h => rtwice_calls (.slice ad l.length cp) l w F h (by omega)
  by_cases hk : aloneX c.lps.length lp l = 0
  case neg =>
    have hq : aloneX c.lps.length lp l = 10 := by
      unfold aloneX at hk ⊢
      split
      · rfl
      · split
        · rfl
        · rename_i k1 k2; rw [if_neg k1, if_neg k2] at hk; exact absurd rfl hk
    have he : Hid (aloneE c.lps.length lp l = 10) := by
      show _ = _
      unfold aloneX at hq
      unfold aloneE
      split at hq
      · rename_i k1; rw [if_pos k1]
      · rename_i k1
        rw [if_neg k1]
        split at hq
        · rename_i k2; rw [if_pos k2]
        · cases hq
    rw [hq] at HA
    clear hk hq hat hc HT
    go_enter Tryd.func23, Tryd.ntmps23
    go_wp2_with first | ((with_reducible apply wps_boxa (E := 37) S); (case hx => rfl); clear S; intro b4 wz S) | ((with_reducible apply wps_boxa (E := 28) S); (case hx => rfl); clear S; intro b6 wz S) | ((with_reducible apply wps_alloca (E := 28) S); (case hz => exact Tryd.zeroValue28); clear S; intro b8 wz S) | ((with_reducible apply wps_loada (T := 37) (k := 6) S 2); (case hx | hi => rfl); (case hk => exact Nat.le_of_ble_eq_true rfl); (case hT => decide +kernel)) | (go_at_call 28; refine Calls.mono (HA.out _ _ (S.get (i := 4) rfl).choose_spec) ?_; rintro e wz ⟨rfl, hE⟩; replace S := S.ext (Keep.of_below hE); clear hE) | ((with_reducible apply wps_storea (T := 28) S 0 (vs := [.int .i64 0, .int .i64 0, .int .i64 0, .int .i64 0]) (m := 4)); (case hx | hy | hi | hm | h1 => rfl); (case hn => exact Nat.le_of_ble_eq_true rfl); (case hT => decide +kernel); clear S; intro wz S; simp only [List.set_cons_zero, List.set_cons_succ, setAll, List.setIfInBounds_toArray] at S)
    (try simp only [Exit.inBlock, Exit.then]); refine bodyPost_ret (results3 rfl (S.resA 0 rfl rfl (by kernel_rfl)) (res_tmp rfl) (res_tmp rfl)) rfl ?_
    exact .inl ⟨by rw [he.out]; decide, by rw [he.out]; rfl, S.below⟩
  case pos =>
  rw [hk] at HA
  have hk1 : ¬ (lp < 0 ∨ (c.lps.length : Int) ≤ lp) := fun g => by unfold aloneX at hk; rw [if_pos g] at hk; cases hk
  have hk2 : ∀ x ∈ l, x.dst = lp := Classical.byContradiction fun g => by unfold aloneX at hk; rw [if_neg hk1, if_pos g] at hk; cases hk
  clear hk
  cases hk3 : twiceB l with
  | true =>
    have he : Hid (aloneE c.lps.length lp l = 13) := by show _ = _; unfold aloneE; rw [if_neg hk1, if_neg (fun g => g hk2), if_pos hk3]
    rw [hk3] at HT
    clear hk1 hk2 hk3 hat hc
    go_enter Tryd.func23, Tryd.ntmps23
    go_wp2_with first | ((with_reducible apply wps_boxa (E := 37) S); (case hx => rfl); clear S; intro b4 wz S) | ((with_reducible apply wps_boxa (E := 28) S); (case hx => rfl); clear S; intro b6 wz S) | ((with_reducible apply wps_alloca (E := 28) S); (case hz => exact Tryd.zeroValue28); clear S; intro b8 wz S) | ((with_reducible apply wps_loada (T := 37) (k := 6) S 2); (case hx | hi => rfl); (case hk => exact Nat.le_of_ble_eq_true rfl); (case hT => decide +kernel)) | (go_at_call 28; refine Calls.mono (HA.out _ _ (S.get (i := 4) rfl).choose_spec) ?_; rintro e wz ⟨rfl, hE⟩; replace S := S.ext (Keep.of_below hE); clear hE) | (go_at_call 29; refine Calls.mono (HT.out _ _ (S.get (i := 4) rfl).choose_spec) ?_; rintro e wz ⟨rfl, hE⟩; replace S := S.ext (Keep.of_below hE); clear hE) | ((with_reducible apply wps_storea (T := 28) S 0 (vs := [.int .i64 0, .int .i64 0, .int .i64 0, .int .i64 0]) (m := 4)); (case hx | hy | hi | hm | h1 => rfl); (case hn => exact Nat.le_of_ble_eq_true rfl); (case hT => decide +kernel); clear S; intro wz S; simp only [List.set_cons_zero, List.set_cons_succ, setAll, List.setIfInBounds_toArray] at S)
    (try simp only [Exit.inBlock, Exit.then]); refine bodyPost_ret (results3 rfl (S.resA 0 rfl rfl (by kernel_rfl)) (res_tmp rfl) (res_tmp rfl)) rfl ?_
    exact .inl ⟨by rw [he.out]; decide, by rw [he.out]; rfl, S.below⟩
  | false =>
    have h0 : aloneE c.lps.length lp l = 0 := by unfold aloneE; rw [if_neg hk1, if_neg (fun g => g hk2), if_neg (by rw [hk3]; simp)]
    rw [hk3] at HT
    have Hat := Lib.hid (hat h0)
    have H0 := Lib.hid h0
    have HC := Lib.hid hc
    have hlen := sortE_len l
    have Hbm := Lib.hid fun g hg => batches_mem _ (sortE l) (Nat.le_refl _) g hg
    have Hbw : Hid (∀ g ∈ batchesE (sortE l), wrongE c.lps.length lp g = 0) := fun g hg => batch_wrong h0 hg
    have Hba : Hid (∀ g ∈ batchesE (sortE l), 0 ≤ atE g ∧ atE g ≤ 1073741824) := fun g hg => by
      obtain ⟨x, gs, rfl⟩ : ∃ x gs, g = x :: gs := by cases g with | nil => have := (Hbm.out _ hg).1; simp at this | cons x gs => exact ⟨x, gs, rfl⟩
      exact Hat.out x ((sortE_perm l).mem_iff.1 ((Hbm.out _ hg).2.1.subset (by simp)))
    have HM : Hid (manyE c lp s l = (batchesE (sortE l)).foldl (stepM c lp) (s, [])) := rfl
    obtain ⟨B, hB⟩ : ∃ B, manyE c lp s l = B := ⟨_, rfl⟩
    have Hfin : Hid (∀ (ad : Option Addr) (cp : Nat) (w' : World), St (fun _ => False) w w' [Mem.Own 54 Event.cells 7 (.slice ad B.2.length cp) B.2] → ManyPost c lp s l w (.returned (.tuple #[.agg #[.int .i64 B.1.n0, .int .i64 B.1.n1, .int .i64 B.1.n2, .int .i64 B.1.n3], .slice ad B.2.length cp, .int .i64 0])) w') := fun ad cp w' S => .inr ⟨h0, _, by rw [hB], by rw [hB]; exact S⟩
    rw [hB] at HM
    clear hk1 hk2 hk3 h0 hat hc hB Hat
    go_enter Tryd.func23, Tryd.ntmps23
    go_wp2_with first | ((with_reducible apply wps_boxa (E := 37) S); (case hx => rfl); clear S; intro b4 wz S) | ((with_reducible apply wps_boxa (E := 28) S); (case hx => rfl); clear S; intro b6 wz S) | ((with_reducible apply wps_alloca (E := 28) S); (case hz => exact Tryd.zeroValue28); clear S; intro b8 wz S) | ((with_reducible apply wps_loada (T := 37) (k := 6) S 2); (case hx | hi => rfl); (case hk => exact Nat.le_of_ble_eq_true rfl); (case hT => decide +kernel)) | (go_at_call 28; refine Calls.mono (HA.out _ _ (S.get (i := 4) rfl).choose_spec) ?_; rintro e wz ⟨rfl, hE⟩; replace S := S.ext (Keep.of_below hE); clear hE) | (go_at_call 29; refine Calls.mono (HT.out _ _ (S.get (i := 4) rfl).choose_spec) ?_; rintro e wz ⟨rfl, hE⟩; replace S := S.ext (Keep.of_below hE); clear hE) | (go_at_call 38; refine Calls.mono (rsort_calls _ l _ _ (S.get (i := 4) rfl).choose_spec (by omega)) ?_; rintro r wz ⟨ad3, c3, rfl, T⟩; replace S := (S.join T rfl).freeze true 0 ecells rfl; clear T; simp only [List.cons_append, List.nil_append, List.set_cons_zero] at S)
    rw [← hlen] at hn S ⊢
    clear hlen
    generalize sortE l = sl at *
    replace S := (S.nil 54 Event.cells 7).pick [0, 3, 1, 4, 5, 2] rfl
    repeat (first | simp only at S | simp only [pick] at S | simp only [nth] at S | simp only [List.set_cons_succ] at S | simp only [List.set_cons_zero] at S | simp only [List.setIfInBounds_toArray] at S | simp only [setAll] at S | simp only [List.cons_append] at S | simp only [List.nil_append] at S | simp only [List.append_nil] at S)
    go_loopw [12, 13] (fun out i wr => RMnRel [Sl true Event.cells 7 (.slice ad3 sl.length c3) sl, Blk false b4 #[vP, .slice aL c.lps.length cL, vS, .int .i64 c.fin, .int .i64 c.fuel, .int .i64 c.fan] 37, CfgA true [vP, .slice aL c.lps.length cL, vS, .int .i64 c.fin, .int .i64 c.fuel, .int .i64 c.fan] hs c, Blk false b8 #[.int .i64 0, .int .i64 0, .int .i64 0, .int .i64 0] 28] b6 c lp s sl w out i wr) (fun _ i _ => sl.length - (intOf i).toNat)
    case atStart => exact ⟨0, (s, []), [], Nat.zero_le _, rfl, rfl, rfl, Nat.zero_le _, S⟩
    case round =>
      clear S
      obtain ⟨j, st, pre, hj, rfl, Hp, Hst, Hl, S⟩ := hrel
      obtain ⟨ado, co, rfl, _⟩ := (S.ownsl ecells 0 rfl).elim fun _ h => h.form
      by_cases hlt : j < sl.length
      · obtain ⟨x, hx⟩ : ∃ x, sl[j]? = some x := ⟨_, List.getElem?_eq_getElem hlt⟩
        obtain ⟨R3, o3, rfl⟩ : ∃ R o, ad3 = some ⟨R, o, none⟩ := (S.sl 2 rfl).elim fun F h => h.head (by omega)
        have hlt2 : (j : Int) < sl.length := by omega
        have Hx := Lib.hid hx
        clear hx
        go_wp2_with first | ((with_reducible apply wps_loada (T := 37) (k := 6) S 0); (case hx | hi => rfl); (case hk => exact Nat.le_of_ble_eq_true rfl); (case hT => decide +kernel))
        go_loopw [14] (fun i wr => RMn2Rel [Mem.Own 54 Event.cells 7 (.slice ado st.2.length co) st.2, Blk false b6 #[.int .i64 st.1.n0, .int .i64 st.1.n1, .int .i64 st.1.n2, .int .i64 st.1.n3] 28, Sl true Event.cells 7 (.slice (some ⟨R3, o3, none⟩) sl.length c3) sl, Blk false b4 #[vP, .slice aL c.lps.length cL, vS, .int .i64 c.fin, .int .i64 c.fuel, .int .i64 c.fan] 37, CfgA true [vP, .slice aL c.lps.length cL, vS, .int .i64 c.fin, .int .i64 c.fuel, .int .i64 c.fan] hs c, Blk false b8 #[.int .i64 0, .int .i64 0, .int .i64 0, .int .i64 0] 28] sl x j w i wr) (fun i _ => sl.length - (intOf i).toNat)
        case atStart => exact ⟨j, Nat.le_refl _, hj, rfl, fun r y h1 h2 => by omega, S⟩
        case round =>
          clear S
          obtain ⟨q, hq1, hq2, rfl, Hq, S⟩ := hrel
          have key : Hid (∀ y, q < sl.length → sl[q]? = some y → y.key.at_ = x.key.at_ → ∀ (r : Nat) z, j ≤ r → r < q + 1 → sl[r]? = some z → z.key.at_ = x.key.at_) := fun y _ hy he r z h1 h2 hz => by
            by_cases e : r = q
            · subst e; rw [hy] at hz; cases hz; exact he
            · exact Hq.out r z h1 (by omega) hz
          have stop : Hid ((∀ y, sl[q]? = some y → y.key.at_ ≠ x.key.at_) → j < q → batchesE (sl.drop j) = ((sl.take q).drop j) :: batchesE (sl.drop q)) := fun h hjq => by
            rw [(batches_step Hx.out hjq hq2 Hq.out h).1, List.drop_take]
          by_cases hlq : q < sl.length
          · obtain ⟨y, hy⟩ : ∃ y, sl[q]? = some y := ⟨_, List.getElem?_eq_getElem hlq⟩
            have hlq2 : (q : Int) < sl.length := by omega
            have Hy := Lib.hid hy
            clear hy
            by_cases he : y.key.at_ = x.key.at_
            · go_wp2_with first | ((with_reducible apply wps_load_el S 2 (hj := Hx.out) (q := 0) (u := .int .i64 x.key.at_)); (case hx | hi => rfl); (case hn => omega); (case hu => rfl); (case hT => decide +kernel)) | ((with_reducible apply wps_load_el S 2 (hj := Hy.out) (q := 0) (u := .int .i64 y.key.at_)); (case hx | hi => rfl); (case hn => omega); (case hu => rfl); (case hT => decide +kernel)) | ((with_reducible refine tot_done ?ht ?_); (case ht => kernel_rfl)) | ((with_reducible apply wps_text S); (case hm => kernel_rfl); (case hB => decide +kernel); clear S; intro wz S)
              go_roundw
              case rel => exact ⟨q + 1, by omega, by omega, by go_num, key.out y hlq Hy.out he, S⟩
              case measure => first | (simp [intOf]; done) | (simp [intOf]; omega)
            · have hjq : j < q := by
                rcases Nat.lt_or_ge j q with h | h
                · exact h
                · obtain rfl : j = q := by omega
                  rw [Hx.out] at Hy; have := Hy.out; cases this; exact absurd rfl he
              have hst2 := Lib.hid (stop.out (fun y' hy' => by rw [Hy.out] at hy'; cases hy'; exact he) hjq)
              have hQl : q ≤ sl.length := hq2
              clear key stop Hq
              go_wp2_with first | ((with_reducible apply wps_load_el S 2 (hj := Hx.out) (q := 0) (u := .int .i64 x.key.at_)); (case hx | hi => rfl); (case hn => omega); (case hu => rfl); (case hT => decide +kernel)) | ((with_reducible apply wps_load_el S 2 (hj := Hy.out) (q := 0) (u := .int .i64 y.key.at_)); (case hx | hi => rfl); (case hn => omega); (case hu => rfl); (case hT => decide +kernel)) | ((with_reducible refine tot_done ?ht ?_); (case ht => kernel_rfl)) | ((with_reducible apply wps_text S); (case hm => kernel_rfl); (case hB => decide +kernel); clear S; intro wz S)
              clear he
              generalize (y.key.at_ == x.key.at_) = bq
              obtain ⟨g, hg⟩ : ∃ g, (sl.take q).drop j = g := ⟨_, rfl⟩
              rw [hg] at hst2
              have hmem : g ∈ batchesE sl := by rw [Hp.out, hst2.out]; simp
              have hgl : g.length = q - j := by rw [← hg, List.length_drop, List.length_take]; omega
              have HBR := Lib.hid fun w F F2 v h h2 => rbrun_calls [vP, .slice aL c.lps.length cL, vS, .int .i64 c.fin, .int .i64 c.fuel, .int .i64 c.fan] hs c lp st.1 v g w F F2 h h2 (by omega) HC.out (Hbw.out g hmem) (Hba.out g hmem)
              have hbl := batchC_len (cfg_isfine HC.out) lp st.1 g
              have Hg := Lib.hid hg
              have Hn1 : Hid (batchesE sl = (pre ++ [g]) ++ batchesE (sl.drop q)) := by show _ = _; rw [Hp.out, hst2.out]; simp
              have Hn2 : Hid (((batchC c lp st.1 g).1, st.2 ++ (batchC c lp st.1 g).2) = (pre ++ [g]).foldl (stepM c lp) (s, [])) := by show _ = _; rw [List.foldl_append, ← Hst.out]; rfl
              generalize batchC c lp st.1 g = bg at *
              have hap : st.2.length + bg.2.length ≤ 8 * q := by have := Hl.out; omega
              clear hbl hgl hmem hg hst2
              (refine wp_region_w (soft := [0, 1, 2, 3, 4, 5]) S ?hm ?hB ?_); (case hm => kernel_rfl); (case hB => decide +kernel); clear S
              iterate 6
                (with_reducible apply softs_cons)
                (case hw =>
                  (with_reducible apply soft_of); (case hi => rfl)
                  intro T wz S
                  simp only [List.cons_append, List.nil_append] at S
                  go_wp2_with first | ((with_reducible apply wps_loada (T := 37) (k := 6) S 3); (case hx | hi => rfl); (case hk => exact Nat.le_of_ble_eq_true rfl); (case hT => decide +kernel)) | ((with_reducible apply wps_loada (T := 28) (k := 4) S 1); (case hx | hi => rfl); (case hk => exact Nat.le_of_ble_eq_true rfl); (case hT => decide +kernel)) | ((with_reducible refine tot_done ?ht ?_); (case ht => kernel_rfl))
                  exact ⟨rfl, S⟩)
                (case hs => exact ⟨_, rfl, by kernel_rfl⟩)
              refine softs_nil ?_
              (with_reducible apply W_hard2 (i := 6) (i' := 11)); (case hn => rfl); (case hr => decide +kernel)
              focus
                intro wz S
                (with_reducible apply hard_of); (case hi => rfl)
                simp only [List.cons_append, List.nil_append] at S
                go_wp2_with first | ((with_reducible apply wps_slice (E := 54) S 2 (l := j) (u := q)); (case hx | hi => rfl); (case hT => exact Tryd.underlying29); (case hE => intro w; kernel_rfl); (case hlo | hhi => first | exact .inr rfl | exact .inl ⟨rfl, rfl⟩); (case h1 | h2 => first | omega | (simp; omega)); clear S; intro az nz cz hnz S) | ((with_reducible refine tot_done ?ht ?_); (case ht => kernel_rfl))
                refine ⟨_, S.pick [1, 2, 3, 4, 5, 6, 0] rfl, ?_⟩
                clear S
                (with_reducible apply W_hard2 (i := 7) (i' := 11)); (case hn => rfl); (case hr => decide +kernel)
                focus
                  intro wz S
                  (with_reducible apply hard_of); (case hi => rfl)
                  simp only [List.cons_append, List.nil_append] at S
                  go_wp2_with first | (go_at_call 15; rw [Hg.out] at S; refine Calls.mono (HBR.out _ _ _ _ (S.get (i := 4) rfl).choose_spec (S.get (i := 6) rfl).choose_spec) ?_; rintro r wz ⟨v2, rfl, T⟩; replace S := S.join T rfl; clear T; simp only [List.cons_append, List.nil_append] at S) | ((with_reducible refine tot_done ?ht ?_); (case ht => kernel_rfl))
                  refine ⟨_, S.pick [1, 2, 3, 4, 5, 6, 7, 0] rfl, ?_⟩
                  clear S
                  (refine W_mid (f := 3) (soft := [8, 9, 10]) rfl ?hB ?_); (case hB => decide +kernel)
                  iterate 3
                    (with_reducible apply softs_cons)
                    (case hw =>
                      (with_reducible apply soft_of); (case hi => rfl)
                      intro T wz S
                      simp only [List.cons_append, List.nil_append] at S
                      go_wp2_with first | ((with_reducible refine tot_done ?ht ?_); (case ht => kernel_rfl))
                      exact ⟨rfl, S⟩)
                    (case hs => exact ⟨_, rfl, by kernel_rfl⟩)
                  refine softs_nil ?_
                  (with_reducible apply W_hard1 (i := 11)); (case hn => rfl); (case hr => decide +kernel)
                  intro wz S
                  (with_reducible apply hard_of); (case hi => rfl)
                  simp only [List.cons_append, List.nil_append] at S
                  go_wp2_with first | ((with_reducible apply wps_alloca (E := 28) S); (case hz => exact Tryd.zeroValue28); clear S; intro b15 wz S) | ((with_reducible refine tot_done ?ht ?_); (case ht => kernel_rfl))
                  refine ⟨_, S.pick [1, 2, 3, 4, 5, 6, 7, 8, 0] rfl, ?_⟩
                  clear S
                  (with_reducible apply W_hard1 (i := 12)); (case hn => rfl); (case hr => decide +kernel)
                  intro wz S
                  (with_reducible apply hard_of); (case hi => rfl)
                  simp only [List.cons_append, List.nil_append] at S
                  go_wp2_with first | ((with_reducible apply wps_storea (T := 28) S 8 (vs := [.int .i64 bg.1.n0, .int .i64 bg.1.n1, .int .i64 bg.1.n2, .int .i64 bg.1.n3]) (m := 4)); (case hx | hy | hi | hm | h1 => rfl); (case hn => exact Nat.le_of_ble_eq_true rfl); (case hT => decide +kernel); clear S; intro wz S; simp only [List.set_cons_zero, List.set_cons_succ, setAll, List.setIfInBounds_toArray] at S) | ((with_reducible refine tot_done ?ht ?_); (case ht => kernel_rfl))
                  refine ⟨_, S, ?_⟩
                  clear S
                  (refine W_mid (f := 0) (soft := [13]) rfl ?hB ?_); (case hB => decide +kernel)
                  iterate 1
                    (with_reducible apply softs_cons)
                    (case hw =>
                      (with_reducible apply soft_of); (case hi => rfl)
                      intro T wz S
                      simp only [List.cons_append, List.nil_append] at S
                      go_wp2_with first | ((with_reducible refine tot_done ?ht ?_); (case ht => kernel_rfl))
                      exact ⟨rfl, S⟩)
                    (case hs => exact ⟨_, rfl, by kernel_rfl⟩)
                  refine softs_nil ?_
                  (with_reducible apply W_done); (case hn => rfl); (case hr => decide +kernel)
                  intro wz S
                  repeat (first | simp only at S | simp only [pick] at S | simp only [nth] at S | simp only [List.set_cons_succ] at S | simp only [List.set_cons_zero] at S | simp only [List.setIfInBounds_toArray] at S | simp only [setAll] at S | simp only [List.cons_append] at S | simp only [List.nil_append] at S | simp only [List.append_nil] at S)
                rotate_left 1
                focus
                  intro wz S
                  (with_reducible apply hard_of); (case hi => rfl)
                  simp only [List.cons_append, List.nil_append] at S
                  go_wp2_with first | ((with_reducible apply wps_alloca (E := 28) S); (case hz => exact Tryd.zeroValue28); clear S; intro b15 wz S) | ((with_reducible refine tot_done ?ht ?_); (case ht => kernel_rfl))
                  refine ⟨_, S.pick [1, 2, 3, 4, 5, 6, 7, 0] rfl, ?_⟩
                  clear S
                  (with_reducible apply W_hard1 (i := 7)); (case hn => rfl); (case hr => decide +kernel)
                  intro wz S
                  (with_reducible apply hard_of); (case hi => rfl)
                  simp only [List.cons_append, List.nil_append] at S
                  go_wp2_with first | (go_at_call 15; rw [Hg.out] at S; refine Calls.mono (HBR.out _ _ _ _ (S.get (i := 4) rfl).choose_spec (S.get (i := 6) rfl).choose_spec) ?_; rintro r wz ⟨v2, rfl, T⟩; replace S := S.join T rfl; clear T; simp only [List.cons_append, List.nil_append] at S) | ((with_reducible refine tot_done ?ht ?_); (case ht => kernel_rfl))
                  refine ⟨_, S.pick [1, 2, 3, 4, 5, 6, 7, 0, 8] rfl, ?_⟩
                  clear S
                  (refine W_mid (f := 2) (soft := [8, 9, 10]) rfl ?hB ?_); (case hB => decide +kernel)
                  iterate 3
                    (with_reducible apply softs_cons)
                    (case hw =>
                      (with_reducible apply soft_of); (case hi => rfl)
                      intro T wz S
                      simp only [List.cons_append, List.nil_append] at S
                      go_wp2_with first | ((with_reducible refine tot_done ?ht ?_); (case ht => kernel_rfl))
                      exact ⟨rfl, S⟩)
                    (case hs => exact ⟨_, rfl, by kernel_rfl⟩)
                  refine softs_nil ?_
                  (with_reducible apply W_hard1 (i := 12)); (case hn => rfl); (case hr => decide +kernel)
                  intro wz S
                  (with_reducible apply hard_of); (case hi => rfl)
                  simp only [List.cons_append, List.nil_append] at S
                  go_wp2_with first | ((with_reducible apply wps_storea (T := 28) S 8 (vs := [.int .i64 bg.1.n0, .int .i64 bg.1.n1, .int .i64 bg.1.n2, .int .i64 bg.1.n3]) (m := 4)); (case hx | hy | hi | hm | h1 => rfl); (case hn => exact Nat.le_of_ble_eq_true rfl); (case hT => decide +kernel); clear S; intro wz S; simp only [List.set_cons_zero, List.set_cons_succ, setAll, List.setIfInBounds_toArray] at S) | ((with_reducible refine tot_done ?ht ?_); (case ht => kernel_rfl))
                  refine ⟨_, S, ?_⟩
                  clear S
                  (refine W_mid (f := 0) (soft := [13]) rfl ?hB ?_); (case hB => decide +kernel)
                  iterate 1
                    (with_reducible apply softs_cons)
                    (case hw =>
                      (with_reducible apply soft_of); (case hi => rfl)
                      intro T wz S
                      simp only [List.cons_append, List.nil_append] at S
                      go_wp2_with first | ((with_reducible refine tot_done ?ht ?_); (case ht => kernel_rfl))
                      exact ⟨rfl, S⟩)
                    (case hs => exact ⟨_, rfl, by kernel_rfl⟩)
                  refine softs_nil ?_
                  (with_reducible apply W_done); (case hn => rfl); (case hr => decide +kernel)
                  intro wz S
                  repeat (first | simp only at S | simp only [pick] at S | simp only [nth] at S | simp only [List.set_cons_succ] at S | simp only [List.set_cons_zero] at S | simp only [List.setIfInBounds_toArray] at S | simp only [setAll] at S | simp only [List.cons_append] at S | simp only [List.nil_append] at S | simp only [List.append_nil] at S)
              rotate_left 2
              focus
                intro wz S
                (with_reducible apply hard_of); (case hi => rfl)
                simp only [List.cons_append, List.nil_append] at S
                go_wp2_with first | ((with_reducible apply wps_alloca (E := 28) S); (case hz => exact Tryd.zeroValue28); clear S; intro b15 wz S) | ((with_reducible refine tot_done ?ht ?_); (case ht => kernel_rfl))
                refine ⟨_, S.pick [1, 2, 3, 4, 5, 6, 0] rfl, ?_⟩
                clear S
                (with_reducible apply W_hard1 (i := 6)); (case hn => rfl); (case hr => decide +kernel)
                intro wz S
                (with_reducible apply hard_of); (case hi => rfl)
                simp only [List.cons_append, List.nil_append] at S
                go_wp2_with first | ((with_reducible apply wps_slice (E := 54) S 2 (l := j) (u := q)); (case hx | hi => rfl); (case hT => exact Tryd.underlying29); (case hE => intro w; kernel_rfl); (case hlo | hhi => first | exact .inr rfl | exact .inl ⟨rfl, rfl⟩); (case h1 | h2 => first | omega | (simp; omega)); clear S; intro az nz cz hnz S) | ((with_reducible refine tot_done ?ht ?_); (case ht => kernel_rfl))
                refine ⟨_, S.pick [1, 2, 3, 4, 5, 6, 0, 7] rfl, ?_⟩
                clear S
                (with_reducible apply W_hard1 (i := 7)); (case hn => rfl); (case hr => decide +kernel)
                intro wz S
                (with_reducible apply hard_of); (case hi => rfl)
                simp only [List.cons_append, List.nil_append] at S
                go_wp2_with first | (go_at_call 15; rw [Hg.out] at S; refine Calls.mono (HBR.out _ _ _ _ (S.get (i := 4) rfl).choose_spec (S.get (i := 6) rfl).choose_spec) ?_; rintro r wz ⟨v2, rfl, T⟩; replace S := S.join T rfl; clear T; simp only [List.cons_append, List.nil_append] at S) | ((with_reducible refine tot_done ?ht ?_); (case ht => kernel_rfl))
                refine ⟨_, S.pick [1, 2, 3, 4, 5, 6, 7, 0, 8] rfl, ?_⟩
                clear S
                (refine W_mid (f := 2) (soft := [8, 9, 10]) rfl ?hB ?_); (case hB => decide +kernel)
                iterate 3
                  (with_reducible apply softs_cons)
                  (case hw =>
                    (with_reducible apply soft_of); (case hi => rfl)
                    intro T wz S
                    simp only [List.cons_append, List.nil_append] at S
                    go_wp2_with first | ((with_reducible refine tot_done ?ht ?_); (case ht => kernel_rfl))
                    exact ⟨rfl, S⟩)
                  (case hs => exact ⟨_, rfl, by kernel_rfl⟩)
                refine softs_nil ?_
                (with_reducible apply W_hard1 (i := 12)); (case hn => rfl); (case hr => decide +kernel)
                intro wz S
                (with_reducible apply hard_of); (case hi => rfl)
                simp only [List.cons_append, List.nil_append] at S
                go_wp2_with first | ((with_reducible apply wps_storea (T := 28) S 8 (vs := [.int .i64 bg.1.n0, .int .i64 bg.1.n1, .int .i64 bg.1.n2, .int .i64 bg.1.n3]) (m := 4)); (case hx | hy | hi | hm | h1 => rfl); (case hn => exact Nat.le_of_ble_eq_true rfl); (case hT => decide +kernel); clear S; intro wz S; simp only [List.set_cons_zero, List.set_cons_succ, setAll, List.setIfInBounds_toArray] at S) | ((with_reducible refine tot_done ?ht ?_); (case ht => kernel_rfl))
                refine ⟨_, S, ?_⟩
                clear S
                (refine W_mid (f := 0) (soft := [13]) rfl ?hB ?_); (case hB => decide +kernel)
                iterate 1
                  (with_reducible apply softs_cons)
                  (case hw =>
                    (with_reducible apply soft_of); (case hi => rfl)
                    intro T wz S
                    simp only [List.cons_append, List.nil_append] at S
                    go_wp2_with first | ((with_reducible refine tot_done ?ht ?_); (case ht => kernel_rfl))
                    exact ⟨rfl, S⟩)
                  (case hs => exact ⟨_, rfl, by kernel_rfl⟩)
                refine softs_nil ?_
                (with_reducible apply W_done); (case hn => rfl); (case hr => decide +kernel)
                intro wz S
                repeat (first | simp only at S | simp only [pick] at S | simp only [nth] at S | simp only [List.set_cons_succ] at S | simp only [List.set_cons_zero] at S | simp only [List.setIfInBounds_toArray] at S | simp only [setAll] at S | simp only [List.cons_append] at S | simp only [List.nil_append] at S | simp only [List.append_nil] at S)
              all_goals
                replace S := (S.freeze true 7 ecells rfl)
                repeat (first | simp only at S | simp only [pick] at S | simp only [nth] at S | simp only [List.set_cons_succ] at S | simp only [List.set_cons_zero] at S | simp only [List.setIfInBounds_toArray] at S | simp only [setAll] at S | simp only [List.cons_append] at S | simp only [List.nil_append] at S | simp only [List.append_nil] at S)
                go_wp2_with first | ((with_reducible apply wps_loada (T := 28) (k := 4) S 8); (case hx | hi => rfl); (case hk => exact Nat.le_of_ble_eq_true rfl); (case hT => decide +kernel)) | ((with_reducible apply wps_storea (T := 28) S 1 (vs := [.int .i64 bg.1.n0, .int .i64 bg.1.n1, .int .i64 bg.1.n2, .int .i64 bg.1.n3]) (m := 4)); (case hx | hy | hi | hm | h1 => rfl); (case hn => exact Nat.le_of_ble_eq_true rfl); (case hT => decide +kernel); clear S; intro wz S; simp only [List.set_cons_zero, List.set_cons_succ, setAll, List.setIfInBounds_toArray] at S) | ((with_reducible apply wps_appends elem_Ev ecells eone (by decide) S 0 (j := 7)); (case hx | hy | hi | hj => rfl); (case hl => first | omega | (simp; omega)); clear S; intro az nz cz wz hnz S; simp only [List.set_cons_zero] at S)
                go_roundw
                case rel => exact ⟨q, (bg.1, st.2 ++ bg.2), pre ++ [g], by omega, by go_num, Hn1.out, Hn2.out, by simpa [Hid] using hap, S.pick [0, 1, 2, 3, 4, 5] rfl⟩
                case measure => first | (simp [intOf]; done) | (simp [intOf]; omega)
          · obtain rfl : q = sl.length := by omega
            have hst2 := Lib.hid (stop.out (fun y' hy' => by rw [List.getElem?_eq_none (Nat.le_refl _)] at hy'; cases hy') hlt)
            have hjq : j < sl.length := hlt
            clear key stop Hq
            go_wp2_with first | ((with_reducible refine tot_done ?ht ?_); (case ht => kernel_rfl)) | ((with_reducible apply wps_text S); (case hm => kernel_rfl); (case hB => decide +kernel); clear S; intro wz S)
            obtain ⟨g, hg⟩ : ∃ g, (sl.take sl.length).drop j = g := ⟨_, rfl⟩
            rw [hg] at hst2
            have hmem : g ∈ batchesE sl := by rw [Hp.out, hst2.out]; simp
            have hgl : g.length = sl.length - j := by rw [← hg, List.length_drop, List.length_take]; omega
            have HBR := Lib.hid fun w F F2 v h h2 => rbrun_calls [vP, .slice aL c.lps.length cL, vS, .int .i64 c.fin, .int .i64 c.fuel, .int .i64 c.fan] hs c lp st.1 v g w F F2 h h2 (by omega) HC.out (Hbw.out g hmem) (Hba.out g hmem)
            have hbl := batchC_len (cfg_isfine HC.out) lp st.1 g
            have Hg := Lib.hid hg
            have Hn1 : Hid (batchesE sl = (pre ++ [g]) ++ batchesE (sl.drop sl.length)) := by show _ = _; rw [Hp.out, hst2.out]; simp
            have Hn2 : Hid (((batchC c lp st.1 g).1, st.2 ++ (batchC c lp st.1 g).2) = (pre ++ [g]).foldl (stepM c lp) (s, [])) := by show _ = _; rw [List.foldl_append, ← Hst.out]; rfl
            generalize batchC c lp st.1 g = bg at *
            have hap : st.2.length + bg.2.length ≤ 8 * sl.length := by have := Hl.out; omega
            clear hbl hgl hmem hg hst2
            (refine wp_region_w (soft := [0, 1, 2, 3, 4, 5]) S ?hm ?hB ?_); (case hm => kernel_rfl); (case hB => decide +kernel); clear S
            iterate 6
              (with_reducible apply softs_cons)
              (case hw =>
                (with_reducible apply soft_of); (case hi => rfl)
                intro T wz S
                simp only [List.cons_append, List.nil_append] at S
                go_wp2_with first | ((with_reducible apply wps_loada (T := 37) (k := 6) S 3); (case hx | hi => rfl); (case hk => exact Nat.le_of_ble_eq_true rfl); (case hT => decide +kernel)) | ((with_reducible apply wps_loada (T := 28) (k := 4) S 1); (case hx | hi => rfl); (case hk => exact Nat.le_of_ble_eq_true rfl); (case hT => decide +kernel)) | ((with_reducible refine tot_done ?ht ?_); (case ht => kernel_rfl))
                exact ⟨rfl, S⟩)
              (case hs => exact ⟨_, rfl, by kernel_rfl⟩)
            refine softs_nil ?_
            (with_reducible apply W_hard2 (i := 6) (i' := 11)); (case hn => rfl); (case hr => decide +kernel)
            focus
              intro wz S
              (with_reducible apply hard_of); (case hi => rfl)
              simp only [List.cons_append, List.nil_append] at S
              go_wp2_with first | ((with_reducible apply wps_slice (E := 54) S 2 (l := j) (u := sl.length)); (case hx | hi => rfl); (case hT => exact Tryd.underlying29); (case hE => intro w; kernel_rfl); (case hlo | hhi => first | exact .inr rfl | exact .inl ⟨rfl, rfl⟩); (case h1 | h2 => first | omega | (simp; omega)); clear S; intro az nz cz hnz S) | ((with_reducible refine tot_done ?ht ?_); (case ht => kernel_rfl))
              refine ⟨_, S.pick [1, 2, 3, 4, 5, 6, 0] rfl, ?_⟩
              clear S
              (with_reducible apply W_hard2 (i := 7) (i' := 11)); (case hn => rfl); (case hr => decide +kernel)
              focus
                intro wz S
                (with_reducible apply hard_of); (case hi => rfl)
                simp only [List.cons_append, List.nil_append] at S
                go_wp2_with first | (go_at_call 15; rw [Hg.out] at S; refine Calls.mono (HBR.out _ _ _ _ (S.get (i := 4) rfl).choose_spec (S.get (i := 6) rfl).choose_spec) ?_; rintro r wz ⟨v2, rfl, T⟩; replace S := S.join T rfl; clear T; simp only [List.cons_append, List.nil_append] at S) | ((with_reducible refine tot_done ?ht ?_); (case ht => kernel_rfl))
                refine ⟨_, S.pick [1, 2, 3, 4, 5, 6, 7, 0] rfl, ?_⟩
                clear S
                (refine W_mid (f := 3) (soft := [8, 9, 10]) rfl ?hB ?_); (case hB => decide +kernel)
                iterate 3
                  (with_reducible apply softs_cons)
                  (case hw =>
                    (with_reducible apply soft_of); (case hi => rfl)
                    intro T wz S
                    simp only [List.cons_append, List.nil_append] at S
                    go_wp2_with first | ((with_reducible refine tot_done ?ht ?_); (case ht => kernel_rfl))
                    exact ⟨rfl, S⟩)
                  (case hs => exact ⟨_, rfl, by kernel_rfl⟩)
                refine softs_nil ?_
                (with_reducible apply W_hard1 (i := 11)); (case hn => rfl); (case hr => decide +kernel)
                intro wz S
                (with_reducible apply hard_of); (case hi => rfl)
                simp only [List.cons_append, List.nil_append] at S
                go_wp2_with first | ((with_reducible apply wps_alloca (E := 28) S); (case hz => exact Tryd.zeroValue28); clear S; intro b15 wz S) | ((with_reducible refine tot_done ?ht ?_); (case ht => kernel_rfl))
                refine ⟨_, S.pick [1, 2, 3, 4, 5, 6, 7, 8, 0] rfl, ?_⟩
                clear S
                (with_reducible apply W_hard1 (i := 12)); (case hn => rfl); (case hr => decide +kernel)
                intro wz S
                (with_reducible apply hard_of); (case hi => rfl)
                simp only [List.cons_append, List.nil_append] at S
                go_wp2_with first | ((with_reducible apply wps_storea (T := 28) S 8 (vs := [.int .i64 bg.1.n0, .int .i64 bg.1.n1, .int .i64 bg.1.n2, .int .i64 bg.1.n3]) (m := 4)); (case hx | hy | hi | hm | h1 => rfl); (case hn => exact Nat.le_of_ble_eq_true rfl); (case hT => decide +kernel); clear S; intro wz S; simp only [List.set_cons_zero, List.set_cons_succ, setAll, List.setIfInBounds_toArray] at S) | ((with_reducible refine tot_done ?ht ?_); (case ht => kernel_rfl))
                refine ⟨_, S, ?_⟩
                clear S
                (refine W_mid (f := 0) (soft := [13]) rfl ?hB ?_); (case hB => decide +kernel)
                iterate 1
                  (with_reducible apply softs_cons)
                  (case hw =>
                    (with_reducible apply soft_of); (case hi => rfl)
                    intro T wz S
                    simp only [List.cons_append, List.nil_append] at S
                    go_wp2_with first | ((with_reducible refine tot_done ?ht ?_); (case ht => kernel_rfl))
                    exact ⟨rfl, S⟩)
                  (case hs => exact ⟨_, rfl, by kernel_rfl⟩)
                refine softs_nil ?_
                (with_reducible apply W_done); (case hn => rfl); (case hr => decide +kernel)
                intro wz S
                repeat (first | simp only at S | simp only [pick] at S | simp only [nth] at S | simp only [List.set_cons_succ] at S | simp only [List.set_cons_zero] at S | simp only [List.setIfInBounds_toArray] at S | simp only [setAll] at S | simp only [List.cons_append] at S | simp only [List.nil_append] at S | simp only [List.append_nil] at S)
              rotate_left 1
              focus
                intro wz S
                (with_reducible apply hard_of); (case hi => rfl)
                simp only [List.cons_append, List.nil_append] at S
                go_wp2_with first | ((with_reducible apply wps_alloca (E := 28) S); (case hz => exact Tryd.zeroValue28); clear S; intro b15 wz S) | ((with_reducible refine tot_done ?ht ?_); (case ht => kernel_rfl))
                refine ⟨_, S.pick [1, 2, 3, 4, 5, 6, 7, 0] rfl, ?_⟩
                clear S
                (with_reducible apply W_hard1 (i := 7)); (case hn => rfl); (case hr => decide +kernel)
                intro wz S
                (with_reducible apply hard_of); (case hi => rfl)
                simp only [List.cons_append, List.nil_append] at S
                go_wp2_with first | (go_at_call 15; rw [Hg.out] at S; refine Calls.mono (HBR.out _ _ _ _ (S.get (i := 4) rfl).choose_spec (S.get (i := 6) rfl).choose_spec) ?_; rintro r wz ⟨v2, rfl, T⟩; replace S := S.join T rfl; clear T; simp only [List.cons_append, List.nil_append] at S) | ((with_reducible refine tot_done ?ht ?_); (case ht => kernel_rfl))
                refine ⟨_, S.pick [1, 2, 3, 4, 5, 6, 7, 0, 8] rfl, ?_⟩
                clear S
                (refine W_mid (f := 2) (soft := [8, 9, 10]) rfl ?hB ?_); (case hB => decide +kernel)
                iterate 3
                  (with_reducible apply softs_cons)
                  (case hw =>
                    (with_reducible apply soft_of); (case hi => rfl)
                    intro T wz S
                    simp only [List.cons_append, List.nil_append] at S
                    go_wp2_with first | ((with_reducible refine tot_done ?ht ?_); (case ht => kernel_rfl))
                    exact ⟨rfl, S⟩)
                  (case hs => exact ⟨_, rfl, by kernel_rfl⟩)
                refine softs_nil ?_
                (with_reducible apply W_hard1 (i := 12)); (case hn => rfl); (case hr => decide +kernel)
                intro wz S
                (with_reducible apply hard_of); (case hi => rfl)
                simp only [List.cons_append, List.nil_append] at S
                go_wp2_with first | ((with_reducible apply wps_storea (T := 28) S 8 (vs := [.int .i64 bg.1.n0, .int .i64 bg.1.n1, .int .i64 bg.1.n2, .int .i64 bg.1.n3]) (m := 4)); (case hx | hy | hi | hm | h1 => rfl); (case hn => exact Nat.le_of_ble_eq_true rfl); (case hT => decide +kernel); clear S; intro wz S; simp only [List.set_cons_zero, List.set_cons_succ, setAll, List.setIfInBounds_toArray] at S) | ((with_reducible refine tot_done ?ht ?_); (case ht => kernel_rfl))
                refine ⟨_, S, ?_⟩
                clear S
                (refine W_mid (f := 0) (soft := [13]) rfl ?hB ?_); (case hB => decide +kernel)
                iterate 1
                  (with_reducible apply softs_cons)
                  (case hw =>
                    (with_reducible apply soft_of); (case hi => rfl)
                    intro T wz S
                    simp only [List.cons_append, List.nil_append] at S
                    go_wp2_with first | ((with_reducible refine tot_done ?ht ?_); (case ht => kernel_rfl))
                    exact ⟨rfl, S⟩)
                  (case hs => exact ⟨_, rfl, by kernel_rfl⟩)
                refine softs_nil ?_
                (with_reducible apply W_done); (case hn => rfl); (case hr => decide +kernel)
                intro wz S
                repeat (first | simp only at S | simp only [pick] at S | simp only [nth] at S | simp only [List.set_cons_succ] at S | simp only [List.set_cons_zero] at S | simp only [List.setIfInBounds_toArray] at S | simp only [setAll] at S | simp only [List.cons_append] at S | simp only [List.nil_append] at S | simp only [List.append_nil] at S)
            rotate_left 2
            focus
              intro wz S
              (with_reducible apply hard_of); (case hi => rfl)
              simp only [List.cons_append, List.nil_append] at S
              go_wp2_with first | ((with_reducible apply wps_alloca (E := 28) S); (case hz => exact Tryd.zeroValue28); clear S; intro b15 wz S) | ((with_reducible refine tot_done ?ht ?_); (case ht => kernel_rfl))
              refine ⟨_, S.pick [1, 2, 3, 4, 5, 6, 0] rfl, ?_⟩
              clear S
              (with_reducible apply W_hard1 (i := 6)); (case hn => rfl); (case hr => decide +kernel)
              intro wz S
              (with_reducible apply hard_of); (case hi => rfl)
              simp only [List.cons_append, List.nil_append] at S
              go_wp2_with first | ((with_reducible apply wps_slice (E := 54) S 2 (l := j) (u := sl.length)); (case hx | hi => rfl); (case hT => exact Tryd.underlying29); (case hE => intro w; kernel_rfl); (case hlo | hhi => first | exact .inr rfl | exact .inl ⟨rfl, rfl⟩); (case h1 | h2 => first | omega | (simp; omega)); clear S; intro az nz cz hnz S) | ((with_reducible refine tot_done ?ht ?_); (case ht => kernel_rfl))
              refine ⟨_, S.pick [1, 2, 3, 4, 5, 6, 0, 7] rfl, ?_⟩
              clear S
              (with_reducible apply W_hard1 (i := 7)); (case hn => rfl); (case hr => decide +kernel)
              intro wz S
              (with_reducible apply hard_of); (case hi => rfl)
              simp only [List.cons_append, List.nil_append] at S
              go_wp2_with first | (go_at_call 15; rw [Hg.out] at S; refine Calls.mono (HBR.out _ _ _ _ (S.get (i := 4) rfl).choose_spec (S.get (i := 6) rfl).choose_spec) ?_; rintro r wz ⟨v2, rfl, T⟩; replace S := S.join T rfl; clear T; simp only [List.cons_append, List.nil_append] at S) | ((with_reducible refine tot_done ?ht ?_); (case ht => kernel_rfl))
              refine ⟨_, S.pick [1, 2, 3, 4, 5, 6, 7, 0, 8] rfl, ?_⟩
              clear S
              (refine W_mid (f := 2) (soft := [8, 9, 10]) rfl ?hB ?_); (case hB => decide +kernel)
              iterate 3
                (with_reducible apply softs_cons)
                (case hw =>
                  (with_reducible apply soft_of); (case hi => rfl)
                  intro T wz S
                  simp only [List.cons_append, List.nil_append] at S
                  go_wp2_with first | ((with_reducible refine tot_done ?ht ?_); (case ht => kernel_rfl))
                  exact ⟨rfl, S⟩)
                (case hs => exact ⟨_, rfl, by kernel_rfl⟩)
              refine softs_nil ?_
              (with_reducible apply W_hard1 (i := 12)); (case hn => rfl); (case hr => decide +kernel)
              intro wz S
              (with_reducible apply hard_of); (case hi => rfl)
              simp only [List.cons_append, List.nil_append] at S
              go_wp2_with first | ((with_reducible apply wps_storea (T := 28) S 8 (vs := [.int .i64 bg.1.n0, .int .i64 bg.1.n1, .int .i64 bg.1.n2, .int .i64 bg.1.n3]) (m := 4)); (case hx | hy | hi | hm | h1 => rfl); (case hn => exact Nat.le_of_ble_eq_true rfl); (case hT => decide +kernel); clear S; intro wz S; simp only [List.set_cons_zero, List.set_cons_succ, setAll, List.setIfInBounds_toArray] at S) | ((with_reducible refine tot_done ?ht ?_); (case ht => kernel_rfl))
              refine ⟨_, S, ?_⟩
              clear S
              (refine W_mid (f := 0) (soft := [13]) rfl ?hB ?_); (case hB => decide +kernel)
              iterate 1
                (with_reducible apply softs_cons)
                (case hw =>
                  (with_reducible apply soft_of); (case hi => rfl)
                  intro T wz S
                  simp only [List.cons_append, List.nil_append] at S
                  go_wp2_with first | ((with_reducible refine tot_done ?ht ?_); (case ht => kernel_rfl))
                  exact ⟨rfl, S⟩)
                (case hs => exact ⟨_, rfl, by kernel_rfl⟩)
              refine softs_nil ?_
              (with_reducible apply W_done); (case hn => rfl); (case hr => decide +kernel)
              intro wz S
              repeat (first | simp only at S | simp only [pick] at S | simp only [nth] at S | simp only [List.set_cons_succ] at S | simp only [List.set_cons_zero] at S | simp only [List.setIfInBounds_toArray] at S | simp only [setAll] at S | simp only [List.cons_append] at S | simp only [List.nil_append] at S | simp only [List.append_nil] at S)
            all_goals
              replace S := (S.freeze true 7 ecells rfl)
              repeat (first | simp only at S | simp only [pick] at S | simp only [nth] at S | simp only [List.set_cons_succ] at S | simp only [List.set_cons_zero] at S | simp only [List.setIfInBounds_toArray] at S | simp only [setAll] at S | simp only [List.cons_append] at S | simp only [List.nil_append] at S | simp only [List.append_nil] at S)
              go_wp2_with first | ((with_reducible apply wps_loada (T := 28) (k := 4) S 8); (case hx | hi => rfl); (case hk => exact Nat.le_of_ble_eq_true rfl); (case hT => decide +kernel)) | ((with_reducible apply wps_storea (T := 28) S 1 (vs := [.int .i64 bg.1.n0, .int .i64 bg.1.n1, .int .i64 bg.1.n2, .int .i64 bg.1.n3]) (m := 4)); (case hx | hy | hi | hm | h1 => rfl); (case hn => exact Nat.le_of_ble_eq_true rfl); (case hT => decide +kernel); clear S; intro wz S; simp only [List.set_cons_zero, List.set_cons_succ, setAll, List.setIfInBounds_toArray] at S) | ((with_reducible apply wps_appends elem_Ev ecells eone (by decide) S 0 (j := 7)); (case hx | hy | hi | hj => rfl); (case hl => first | omega | (simp; omega)); clear S; intro az nz cz wz hnz S; simp only [List.set_cons_zero] at S)
              go_roundw
              case rel => exact ⟨sl.length, (bg.1, st.2 ++ bg.2), pre ++ [g], by omega, by go_num, Hn1.out, Hn2.out, by simpa [Hid] using hap, S.pick [0, 1, 2, 3, 4, 5] rfl⟩
              case measure => first | (simp [intOf]; done) | (simp [intOf]; omega)
      · obtain rfl : j = sl.length := by omega
        have HE : Hid (B = st) := by
          show _ = _
          rw [HM.out, Hp.out, List.drop_length, show batchesE [] = [] by rw [batchesE], List.append_nil, Hst.out]
        clear HM Hp Hst
        have e1 := HE.out
        subst e1
        go_wp2_with first | ((with_reducible apply wps_storea (T := 28) S 5 (vs := [.int .i64 B.1.n0, .int .i64 B.1.n1, .int .i64 B.1.n2, .int .i64 B.1.n3]) (m := 4)); (case hx | hy | hi | hm | h1 => rfl); (case hn => exact Nat.le_of_ble_eq_true rfl); (case hT => decide +kernel); clear S; intro wz S; simp only [List.set_cons_zero, List.set_cons_succ, setAll, List.setIfInBounds_toArray] at S) | ((with_reducible apply wps_loada (T := 28) (k := 4) S 1); (case hx | hi => rfl); (case hk => exact Nat.le_of_ble_eq_true rfl); (case hT => decide +kernel))
        (try simp only [Exit.inBlock, Exit.then]); refine bodyPost_ret (results3 rfl (S.resA 5 rfl rfl (by kernel_rfl)) (res_tmp rfl) (res_tmp rfl)) rfl ?_
        exact Hfin.out _ _ _ (S.pick [0] rfl)
end Go.Proofs.YtfiiaechippboaaDoor
