import Derived.Test.YtfiiaechippboaaDoorL22
import Derived.Test.YtfiiaechippboaaDoorL23
import Derived.Test.YtfiiaechippboaaDoorL17
/- The walk of the reference's Run of a batch. -/
namespace Go.Proofs.YtfiiaechippboaaDoor
open Go Go.RowKit Reg Mem

def RB1Rel (b4 b6 b8 : Nat) (cs4 cs8 : Array Value) (v vp : Value) (c : Cfg) (p : List Instr) (lp at_ : Int) (s : State) (l : List Event) (w : World) (out i : Value) (wr : World) : Prop :=
  ∃ (j : Nat) (st : State × List Event), j ≤ l.length ∧ i = .int .i64 j ∧ Hid (st = (l.take j).foldl (oneE p c.lps.length c.fin c.fuel c.fan lp at_) (s, [])) ∧
    St (fun _ => False) w wr [Own 54 Event.cells 7 out st.2, Blk false b6 #[.int .i64 st.1.n0, .int .i64 st.1.n1, .int .i64 st.1.n2, .int .i64 st.1.n3] 28, Sl true Event.cells 7 v l, Sl true Instr.cells 5 vp p, Blk false b4 cs4 37, Blk false b8 cs8 28]
def RB2Rel (b4 b6 b8 : Nat) (cs4 cs8 : Array Value) (v vp ve : Value) (c : Cfg) (p : List Instr) (lp at_ : Int) (s2 : State) (o1 : List Event) (em : List Emit) (l : List Event) (w : World) (out i : Value) (wr : World) : Prop :=
  ∃ (q : Nat) (o2 : List Event), q ≤ em.length ∧ i = .int .i64 q ∧ Hid (o2 = (em.take q).foldl (sendE c.lps.length c.fin lp at_) o1) ∧ o2.length ≤ o1.length + q ∧
    St (fun _ => False) w wr [Own 54 Event.cells 7 out o2, Sl true Emit.cells 4 ve em, Blk false b6 #[.int .i64 s2.n0, .int .i64 s2.n1, .int .i64 s2.n2, .int .i64 s2.n3] 28, Sl true Event.cells 7 v l, Sl true Instr.cells 5 vp p, Blk false b4 cs4 37, Blk false b8 cs8 28]
set_option maxRecDepth 100000 in
set_option maxHeartbeats 8000000 in
theorem rbrun_calls (vs hs : List Value) (c : Cfg) (lp : Int) (s : State) (v : Value) (l : List Event) (w : World) (F F2 : Nat → Prop) (h : (CfgA true vs hs c).at_ w F) (h2 : (Sl true Event.cells 7 v l).at_ w F2) (hn : l.length ≤ 65536)
    (hc : cfgE c = 0) (h0 : wrongE c.lps.length lp l = 0) (hat : 0 ≤ atE l ∧ atE l ≤ 1073741824) :
    Calls Tryd.prog 15 #[.agg vs.toArray, .int .i64 lp, .agg #[.int .i64 s.n0, .int .i64 s.n1, .int .i64 s.n2, .int .i64 s.n3], v] w fun r w' =>
      ∃ v, r = .returned (.tuple #[.agg #[.int .i64 (batchC c lp s l).1.n0, .int .i64 (batchC c lp s l).1.n1, .int .i64 (batchC c lp s l).1.n2, .int .i64 (batchC c lp s l).1.n3], v]) ∧ St (fun _ => False) w w' [Own 54 Event.cells 7 v (batchC c lp s l).2] := by
  have S : St (fun _ => False) w w [CfgA true vs hs c, Sl true Event.cells 7 v l] := ((St.init _ w).share (A := Sl true Event.cells 7 v l) rfl rfl h2).share rfl rfl h
  obtain ⟨ad, cp, rfl, _⟩ := (S.sl 1 rfl).elim fun _ h => h.form
  clear h h2
  obtain ⟨ha0, ha1⟩ := hat
  have hok := cfg_isfine hc
  have hlp : 0 ≤ lp ∧ lp < c.lps.length := Classical.byContradiction fun g => by
    unfold wrongE at h0; rw [if_pos (by omega)] at h0; cases h0
  have hsame : ∀ x ∈ l, x.key.at_ = atE l := by
    unfold wrongE at h0
    split at h0
    · cases h0
    · split at h0
      · cases h0
      · split at h0
        · cases h0
        · split at h0
          · cases h0
          · rename_i k; exact Decidable.not_not.1 k
  obtain ⟨lpn, rfl⟩ : ∃ n : Nat, lp = n := ⟨lp.toNat, by omega⟩
  obtain ⟨pl, k, hpl, hk, hpk⟩ := hok.prog (lp := lpn) (by omega)
  have hpn := hok.plen (List.mem_of_getElem? hpk)
  have HB : Hid (batchC c lpn s l = (sortE l).foldl (oneE (progOf c lpn) c.lps.length c.fin c.fuel c.fan lpn (atE l)) (s, [])) := rfl
  obtain ⟨B, hQ⟩ : ∃ B, batchC c lpn s l = B := ⟨_, rfl⟩
  rw [hQ] at HB ⊢
  clear hQ
  obtain ⟨p, hp⟩ : ∃ p, progOf c lpn = p := ⟨_, rfl⟩
  rw [hp] at hpk hpn HB
  have Hsame : Hid (∀ x ∈ sortE l, x.key.at_ = atE l) := fun x hx => hsame x ((sortE_perm l).mem_iff.1 hx)
  obtain ⟨aP, cP, aL, cL, aS, cS, rfl, hhs, S⟩ := S.cfg 0 rfl
  have hkl : k < c.programs.length := (List.getElem?_eq_some_iff.1 hpk).1
  obtain ⟨vp, hvp⟩ : ∃ u, hs[k]? = some u := ⟨_, List.getElem?_eq_getElem (by omega)⟩
  replace S := (S.slsEl 0 rfl hvp hpk).pick [0, 2, 3, 6] rfl
  repeat (first | simp only at S | simp only [pick] at S | simp only [nth] at S | simp only [List.set_cons_succ] at S | simp only [List.set_cons_zero] at S | simp only [List.setIfInBounds_toArray] at S | simp only [setAll] at S | simp only [List.cons_append] at S | simp only [List.nil_append] at S | simp only [List.append_nil] at S)
  obtain ⟨ap, cpp, rfl, _⟩ := (S.sl 0 rfl).elim fun _ h => h.form
  obtain ⟨RP, oP, rfl⟩ : ∃ R o, aP = some ⟨R, o, none⟩ := (S.sl 1 rfl).elim fun F h => h.head (by omega)
  obtain ⟨RL, oL, rfl⟩ : ∃ R o, aL = some ⟨R, o, none⟩ := (S.sl 2 rfl).elim fun F h => h.head (by omega)
  have hfu := hok.sizes.2.2.2.1.2
  have hfu0 := hok.sizes.2.2.2.1.1
  have hfa := hok.sizes.2.2.2.2
  have hfin := hok.sizes.2.2.1
  have hlpz := hok.sizes.1
  have hst := sortE_len l
  obtain ⟨at_, hatE⟩ : ∃ a, atE l = a := ⟨_, rfl⟩
  rw [hatE] at ha0 ha1 HB Hsame
  have Hpl := Lib.hid hpl
  have Hvp := Lib.hid hvp
  have Hk := Lib.hid hk
  have hk2 : (k : Int) < c.programs.length := by omega
  have hlpn : (lpn : Int) < c.lps.length := by omega
  have hk4 : (Value.int .i64 pl.program) = .int .i64 (k : Int) := by rw [hk]
  clear hatE hsame h0 hc hok hlp hpl hpk hp hhs hvp hk
  have Hfu := Lib.hid hfu
  have Hfa := Lib.hid hfa
  have Hfu0 := Lib.hid hfu0
  have Hfin := Lib.hid hfin
  have Hlpz := Lib.hid hlpz
  clear hfu hfa hfu0 hfin hlpz
  have Hk4 := Lib.hid hk4
  clear hk4
  go_enter Tryd.func15, Tryd.ntmps15
  go_wp2_with first | ((with_reducible apply wps_boxa (E := 37) S); (case hx => rfl); clear S; intro b4 wz S) | ((with_reducible apply wps_boxa (E := 28) S); (case hx => rfl); clear S; intro b6 wz S) | ((with_reducible apply wps_alloca (E := 28) S); (case hz => exact Tryd.zeroValue28); clear S; intro b8 wz S) | (go_at_call 38; refine Calls.mono (rsort_calls _ l _ _ (S.get (i := 6) rfl).choose_spec hn) ?_; rintro r wz ⟨ad3, c3, rfl, T⟩; replace S := (S.join T rfl).freeze true 0 ecells rfl; clear T; simp only [List.cons_append, List.nil_append, List.set_cons_zero] at S) | ((with_reducible apply wps_load S 3); (case hx | hi | hu => rfl); (case hT => decide +kernel)) | ((with_reducible apply wps_load_el S 6 (hj := Hpl.out) (q := 0) (u := .int .i64 (k : Int))); (case hx | hi => rfl); (case hn => omega); (case hu => exact congrArg some Hk4.out); (case hT => decide +kernel)) | ((with_reducible apply wps_load_el S 5 (hj := Hvp.out) (q := 0) (u := (.slice ap p.length cpp))); (case hx | hi => rfl); (case hn => omega); (case hu => rfl); (case hT => decide +kernel)) | ((with_reducible refine tot_done ?ht ?_); (case ht => kernel_rfl)) | ((with_reducible apply wps_text S); (case hm => kernel_rfl); (case hB => decide +kernel); clear S; intro wz S)
  rw [← hst] at hn S ⊢
  clear hst
  generalize sortE l = sl at *
  replace S := (S.nil 54 Event.cells 7).pick [0, 3, 1, 5, 4, 2] rfl
  repeat (first | simp only at S | simp only [pick] at S | simp only [nth] at S | simp only [List.set_cons_succ] at S | simp only [List.set_cons_zero] at S | simp only [List.setIfInBounds_toArray] at S | simp only [setAll] at S | simp only [List.cons_append] at S | simp only [List.nil_append] at S | simp only [List.append_nil] at S)
  clear Hpl Hvp Hk Hk4 hk2 hkl
  generalize Value.slice aS c.starts.length cS = vS at *
  generalize Value.slice (some ⟨RP, oP, none⟩) c.programs.length cP = vPs at *
  go_loopw [11, 12] (fun out i wr => RB1Rel b4 b6 b8 #[vPs, .slice (some ⟨RL, oL, none⟩) c.lps.length cL, vS, .int .i64 c.fin, .int .i64 c.fuel, .int .i64 c.fan] #[.int .i64 0, .int .i64 0, .int .i64 0, .int .i64 0] (.slice ad3 sl.length c3) (.slice ap p.length cpp) c p lpn at_ s sl w out i wr) (fun _ i _ => sl.length - (intOf i).toNat)
  case atStart => exact ⟨0, (s, []), Nat.zero_le _, rfl, rfl, S⟩
  case round =>
    clear S
    obtain ⟨j, st, hj, rfl, Hs, S⟩ := hrel
    by_cases hlt : j < sl.length
    · obtain ⟨x, hx⟩ : ∃ x, sl[j]? = some x := ⟨_, List.getElem?_eq_getElem hlt⟩
      obtain ⟨R3, o3, rfl⟩ : ∃ R o, ad3 = some ⟨R, o, none⟩ := (S.sl 2 rfl).elim fun F h => h.head (by omega)
      have hlt2 : (j : Int) < sl.length := by omega
      have hxa : at_ = x.key.at_ := (Hsame.out x (List.mem_of_getElem? hx)).symm
      subst hxa
      have hs2 : st.2.length ≤ 8 * j := by
        have := ones_len (p := p) (n := c.lps.length) (fin := c.fin) (fuel := c.fuel) (lp := lpn) (at_ := x.key.at_) Hfa.out.1 (sl.take j) (s, [])
        rw [← Hs.out] at this
        have h8 : c.fan * ((sl.take j).length : Int) ≤ 8 * ((sl.take j).length : Int) := Int.mul_le_mul_of_nonneg_right Hfa.out.2 (by omega)
        simp only [List.length_nil, List.length_take] at this h8
        omega
      have Hn : Hid ((sl.take (j + 1)).foldl (oneE p c.lps.length c.fin c.fuel c.fan lpn x.key.at_) (s, []) = oneE p c.lps.length c.fin c.fuel c.fan lpn x.key.at_ st x) := by
        show _ = _; rw [List.take_add_one, hx, Option.toList_some, List.foldl_append, ← Hs.out]; rfl
      have hV := fun w F h => rrun_calls ap cpp p st.1 x c.fuel c.fan w F h hpn (by have := Hfu0.out; omega)
      obtain ⟨m, hm⟩ : ∃ m, runE p st.1 x c.fuel c.fan = m := ⟨_, rfl⟩
      have hem : m.sent.length ≤ 8 := by have := runE_fan (p := p) (s := st.1) (e := x) (fuel := c.fuel) Hfa.out.1; rw [hm] at this; have := Hfa.out.2; omega
      have Hn2 : Hid (oneE p c.lps.length c.fin c.fuel c.fan lpn x.key.at_ st x = (m.state, m.sent.foldl (sendE c.lps.length c.fin lpn x.key.at_) st.2)) := by show _ = _; unfold oneE; rw [hm]
      rw [hm] at hV
      clear hm
      obtain ⟨em, he⟩ : ∃ em, m.sent = em := ⟨_, rfl⟩
      obtain ⟨ms, hms⟩ : ∃ s, m.state = s := ⟨_, rfl⟩
      unfold RRunPost at hV
      rw [he, hms] at hV Hn2
      rw [he] at hem
      clear he hms
      have Hx := Lib.hid hx
      have HV := Lib.hid hV
      clear hx hV
      go_wp2_with first | ((with_reducible apply wps_loada (T := 91) (k := 4) S 0); (case hx | hi => rfl); (case hk => exact Nat.le_of_ble_eq_true rfl); (case hT => decide +kernel))
      (refine wp_region_w (soft := [0, 1, 2, 3, 4, 5, 6, 7, 8, 9]) S ?hm ?hB ?_); (case hm => kernel_rfl); (case hB => decide +kernel); clear S
      iterate 10
        (with_reducible apply softs_cons)
        (case hw =>
          (with_reducible apply soft_of); (case hi => rfl)
          intro T wz S
          simp only [List.cons_append, List.nil_append] at S
          go_wp2_with first | ((with_reducible apply wps_load S 4); (case hx | hi | hu => rfl); (case hT => decide +kernel)) | ((with_reducible apply wps_loada_el S 2 (hj := Hx.out) (q := 0) (vs := [.int .i64 x.key.at_, .int .i64 x.key.src, .int .i64 x.key.sent, .int .i64 x.key.no, .int .i64 x.dst, .int .i64 x.kind, .int .i64 x.data]) (m := 7)); (case hx | hi => rfl); (case hn => omega); (case hm | hv => rfl); (case hT => decide +kernel)) | ((with_reducible refine tot_done ?ht ?_); (case ht => kernel_rfl)) | ((with_reducible apply wps_loada (T := 28) (k := 4) S 1); (case hx | hi => rfl); (case hk => exact Nat.le_of_ble_eq_true rfl); (case hT => decide +kernel))
          exact ⟨rfl, S⟩)
        (case hs => exact ⟨_, rfl, by kernel_rfl⟩)
      refine softs_nil ?_
      (with_reducible apply W_hard2 (i := 10) (i' := 15)); (case hn => rfl); (case hr => decide +kernel)
      focus
        intro wz S
        (with_reducible apply hard_of); (case hi => rfl)
        simp only [List.cons_append, List.nil_append] at S
        go_wp2_with first | (go_at_call 39; refine Calls.mono (HV.out _ _ (S.get (i := 3) rfl).choose_spec) ?_; rintro r wz ⟨kk, ade, ce, rfl, T⟩; replace S := S.join T rfl; clear T; simp only [List.cons_append, List.nil_append] at S) | ((with_reducible refine tot_done ?ht ?_); (case ht => kernel_rfl))
        refine ⟨_, S.pick [1, 2, 3, 4, 5, 6, 0] rfl, ?_⟩
        clear S
        (refine W_mid (f := 4) (soft := [11, 12, 13, 14]) rfl ?hB ?_); (case hB => decide +kernel)
        iterate 4
          (with_reducible apply softs_cons)
          (case hw =>
            (with_reducible apply soft_of); (case hi => rfl)
            intro T wz S
            simp only [List.cons_append, List.nil_append] at S
            go_wp2_with first | ((with_reducible refine tot_done ?ht ?_); (case ht => kernel_rfl))
            exact ⟨rfl, S⟩)
          (case hs => exact ⟨_, rfl, by kernel_rfl⟩)
        refine softs_nil ?_
        (with_reducible apply W_hard1 (i := 15)); (case hn => rfl); (case hr => decide +kernel)
        intro wz S
        (with_reducible apply hard_of); (case hi => rfl)
        simp only [List.cons_append, List.nil_append] at S
        go_wp2_with first | ((with_reducible apply wps_alloca (E := 28) S); (case hz => exact Tryd.zeroValue28); clear S; intro b17 wz S) | ((with_reducible refine tot_done ?ht ?_); (case ht => kernel_rfl))
        refine ⟨_, S.pick [1, 2, 3, 4, 5, 6, 7, 0] rfl, ?_⟩
        clear S
        (with_reducible apply W_hard1 (i := 16)); (case hn => rfl); (case hr => decide +kernel)
        intro wz S
        (with_reducible apply hard_of); (case hi => rfl)
        simp only [List.cons_append, List.nil_append] at S
        go_wp2_with first | ((with_reducible apply wps_storea (T := 28) S 7 (vs := [.int .i64 ms.n0, .int .i64 ms.n1, .int .i64 ms.n2, .int .i64 ms.n3]) (m := 4)); (case hx | hy | hi | hm | h1 => rfl); (case hn => exact Nat.le_of_ble_eq_true rfl); (case hT => decide +kernel); clear S; intro wz S; simp only [List.set_cons_zero, List.set_cons_succ, setAll, List.setIfInBounds_toArray] at S) | ((with_reducible refine tot_done ?ht ?_); (case ht => kernel_rfl))
        refine ⟨_, S, ?_⟩
        clear S
        (refine W_mid (f := 0) (soft := [17, 18]) rfl ?hB ?_); (case hB => decide +kernel)
        iterate 2
          (with_reducible apply softs_cons)
          (case hw =>
            (with_reducible apply soft_of); (case hi => rfl)
            intro T wz S
            simp only [List.cons_append, List.nil_append] at S
            go_wp2_with first | ((with_reducible refine tot_done ?ht ?_); (case ht => kernel_rfl))
            exact ⟨rfl, S⟩)
          (case hs => exact ⟨_, rfl, by kernel_rfl⟩)
        refine softs_nil ?_
        (with_reducible apply W_done); (case hn => rfl); (case hr => decide +kernel)
        intro wz S
        repeat (first | simp only at S | simp only [pick] at S | simp only [nth] at S | simp only [List.set_cons_succ] at S | simp only [List.set_cons_zero] at S | simp only [List.setIfInBounds_toArray] at S | simp only [setAll] at S | simp only [List.cons_append] at S | simp only [List.nil_append] at S | simp only [List.append_nil] at S)
      rotate_left 1
      focus
        intro wz S
        (with_reducible apply hard_of); (case hi => rfl)
        simp only [List.cons_append, List.nil_append] at S
        go_wp2_with first | ((with_reducible apply wps_alloca (E := 28) S); (case hz => exact Tryd.zeroValue28); clear S; intro b17 wz S) | ((with_reducible refine tot_done ?ht ?_); (case ht => kernel_rfl))
        refine ⟨_, S.pick [1, 2, 3, 4, 5, 6, 0] rfl, ?_⟩
        clear S
        (with_reducible apply W_hard1 (i := 10)); (case hn => rfl); (case hr => decide +kernel)
        intro wz S
        (with_reducible apply hard_of); (case hi => rfl)
        simp only [List.cons_append, List.nil_append] at S
        go_wp2_with first | (go_at_call 39; refine Calls.mono (HV.out _ _ (S.get (i := 3) rfl).choose_spec) ?_; rintro r wz ⟨kk, ade, ce, rfl, T⟩; replace S := S.join T rfl; clear T; simp only [List.cons_append, List.nil_append] at S) | ((with_reducible refine tot_done ?ht ?_); (case ht => kernel_rfl))
        refine ⟨_, S.pick [1, 2, 3, 4, 5, 6, 0, 7] rfl, ?_⟩
        clear S
        (refine W_mid (f := 3) (soft := [11, 12, 13, 14]) rfl ?hB ?_); (case hB => decide +kernel)
        iterate 4
          (with_reducible apply softs_cons)
          (case hw =>
            (with_reducible apply soft_of); (case hi => rfl)
            intro T wz S
            simp only [List.cons_append, List.nil_append] at S
            go_wp2_with first | ((with_reducible refine tot_done ?ht ?_); (case ht => kernel_rfl))
            exact ⟨rfl, S⟩)
          (case hs => exact ⟨_, rfl, by kernel_rfl⟩)
        refine softs_nil ?_
        (with_reducible apply W_hard1 (i := 16)); (case hn => rfl); (case hr => decide +kernel)
        intro wz S
        (with_reducible apply hard_of); (case hi => rfl)
        simp only [List.cons_append, List.nil_append] at S
        go_wp2_with first | ((with_reducible apply wps_storea (T := 28) S 7 (vs := [.int .i64 ms.n0, .int .i64 ms.n1, .int .i64 ms.n2, .int .i64 ms.n3]) (m := 4)); (case hx | hy | hi | hm | h1 => rfl); (case hn => exact Nat.le_of_ble_eq_true rfl); (case hT => decide +kernel); clear S; intro wz S; simp only [List.set_cons_zero, List.set_cons_succ, setAll, List.setIfInBounds_toArray] at S) | ((with_reducible refine tot_done ?ht ?_); (case ht => kernel_rfl))
        refine ⟨_, S, ?_⟩
        clear S
        (refine W_mid (f := 0) (soft := [17, 18]) rfl ?hB ?_); (case hB => decide +kernel)
        iterate 2
          (with_reducible apply softs_cons)
          (case hw =>
            (with_reducible apply soft_of); (case hi => rfl)
            intro T wz S
            simp only [List.cons_append, List.nil_append] at S
            go_wp2_with first | ((with_reducible refine tot_done ?ht ?_); (case ht => kernel_rfl))
            exact ⟨rfl, S⟩)
          (case hs => exact ⟨_, rfl, by kernel_rfl⟩)
        refine softs_nil ?_
        (with_reducible apply W_done); (case hn => rfl); (case hr => decide +kernel)
        intro wz S
        repeat (first | simp only at S | simp only [pick] at S | simp only [nth] at S | simp only [List.set_cons_succ] at S | simp only [List.set_cons_zero] at S | simp only [List.setIfInBounds_toArray] at S | simp only [setAll] at S | simp only [List.cons_append] at S | simp only [List.nil_append] at S | simp only [List.append_nil] at S)
      all_goals
        go_wp2_with first | ((with_reducible apply wps_loada (T := 28) (k := 4) S 7); (case hx | hi => rfl); (case hk => exact Nat.le_of_ble_eq_true rfl); (case hT => decide +kernel)) | ((with_reducible apply wps_storea (T := 28) S 1 (vs := [.int .i64 ms.n0, .int .i64 ms.n1, .int .i64 ms.n2, .int .i64 ms.n3]) (m := 4)); (case hx | hy | hi | hm | h1 => rfl); (case hn => exact Nat.le_of_ble_eq_true rfl); (case hT => decide +kernel); clear S; intro wz S; simp only [List.set_cons_zero, List.set_cons_succ, setAll, List.setIfInBounds_toArray] at S)
        replace S := (S.freeze true 6 emcells rfl).pick [0, 6, 1, 2, 3, 4, 5] rfl
        repeat (first | simp only at S | simp only [pick] at S | simp only [nth] at S | simp only [List.set_cons_succ] at S | simp only [List.set_cons_zero] at S | simp only [List.setIfInBounds_toArray] at S | simp only [setAll] at S | simp only [List.cons_append] at S | simp only [List.nil_append] at S | simp only [List.append_nil] at S)
        go_loopw [11, 16] (fun out i wr => RB2Rel b4 b6 b8 #[vPs, .slice (some ⟨RL, oL, none⟩) c.lps.length cL, vS, .int .i64 c.fin, .int .i64 c.fuel, .int .i64 c.fan] #[.int .i64 0, .int .i64 0, .int .i64 0, .int .i64 0] (.slice (some ⟨R3, o3, none⟩) sl.length c3) (.slice ap p.length cpp) (.slice ade em.length ce) c p lpn x.key.at_ ms st.2 em sl w out i wr) (fun _ i _ => em.length - (intOf i).toNat)
        case atStart => exact ⟨0, st.2, Nat.zero_le _, rfl, rfl, Nat.le_refl _, S⟩
        case round =>
          clear S
          obtain ⟨q, o2, hq, rfl, Ho, hol, S⟩ := hrel
          obtain ⟨ado, co, rfl⟩ : ∃ a c, _ = Value.slice a o2.length c := (S.get (i := 0) rfl).elim fun F h => h.1.form
          have hol2 : o2.length ≤ 600000 := by omega
          by_cases hqt : q < em.length
          · obtain ⟨y, hy⟩ : ∃ y, em[q]? = some y := ⟨_, List.getElem?_eq_getElem hqt⟩
            obtain ⟨Re, oe, rfl⟩ : ∃ R o, ade = some ⟨R, o, none⟩ := (S.sl 1 rfl).elim fun F h => h.head (by omega)
            have hqt2 : (q : Int) < em.length := by omega
            have Hf : Hid ((em.take (q + 1)).foldl (sendE c.lps.length c.fin lpn x.key.at_) st.2 = sendE c.lps.length c.fin lpn x.key.at_ o2 y) := by
              show _ = _; rw [List.take_add_one, hy, Option.toList_some, List.foldl_append, ← Ho.out]; rfl
            have Hy := Lib.hid hy
            clear hy
            by_cases k0 : y.dst < 0
            · have f0 : decide (y.dst < 0) = true := decide_eq_true k0
              have Hf2 : Hid (o2 = (em.take (q + 1)).foldl (sendE c.lps.length c.fin lpn x.key.at_) st.2) := by show _ = _; rw [Hf.out]; unfold sendE msgE; rw [decide_eq_false (by omega)]; rfl
              clear Hf
              go_wp2_with first | ((with_reducible refine wpList_skip ?hw ?_); (case hw => with_unfolding_all rfl); simp only [Act.put, List.setIfInBounds_toArray, List.set_cons_succ, List.set_cons_zero]) | ((with_reducible apply wps_alloca (E := 91) S); (case hz => exact Tryd.zeroValue91); clear S; intro by_ wz S) | ((with_reducible apply wps_loada_el S 1 (hj := Hy.out) (q := 0) (vs := [.int .i64 y.dst, .int .i64 y.delay, .int .i64 y.kind, .int .i64 y.data]) (m := 4)); (case hx | hi => rfl); (case hn => omega); (case hm | hv => rfl); (case hT => decide +kernel)) | ((with_reducible apply wps_storea (T := 91) S 0 (vs := [.int .i64 y.dst, .int .i64 y.delay, .int .i64 y.kind, .int .i64 y.data]) (m := 4)); (case hx | hy | hi | hm | h1 => rfl); (case hn => exact Nat.le_of_ble_eq_true rfl); (case hT => decide +kernel); clear S; intro wz S; simp only [List.set_cons_zero, List.set_cons_succ, setAll, List.setIfInBounds_toArray] at S) | ((with_reducible apply wps_load S 0); (case hx | hi | hu => rfl); (case hT => decide +kernel)) | ((with_reducible refine tot_done ?ht ?_); (case ht => kernel_rfl)) | ((with_reducible apply wps_text S); (case hm => kernel_rfl); (case hB => decide +kernel); clear S; intro wz S)
              go_roundw
              case rel => exact ⟨q + 1, o2, by omega, by go_num, Hf2.out, by omega, S.pick [1, 2, 3, 4, 5, 6, 7] rfl⟩
              case measure => first | (simp [intOf]; done) | (simp [intOf]; omega)
            have f0 : decide (y.dst < 0) = false := decide_eq_false k0
            by_cases k1 : (c.lps.length : Int) ≤ y.dst
            · have f1 : decide ((c.lps.length : Int) ≤ y.dst) = true := decide_eq_true k1
              have Hf2 : Hid (o2 = (em.take (q + 1)).foldl (sendE c.lps.length c.fin lpn x.key.at_) st.2) := by show _ = _; rw [Hf.out]; unfold sendE msgE; rw [decide_eq_false (by omega)]; rfl
              clear Hf
              go_wp2_with first | ((with_reducible refine wpList_skip ?hw ?_); (case hw => with_unfolding_all rfl); simp only [Act.put, List.setIfInBounds_toArray, List.set_cons_succ, List.set_cons_zero]) | ((with_reducible apply wps_alloca (E := 91) S); (case hz => exact Tryd.zeroValue91); clear S; intro by_ wz S) | ((with_reducible apply wps_loada_el S 1 (hj := Hy.out) (q := 0) (vs := [.int .i64 y.dst, .int .i64 y.delay, .int .i64 y.kind, .int .i64 y.data]) (m := 4)); (case hx | hi => rfl); (case hn => omega); (case hm | hv => rfl); (case hT => decide +kernel)) | ((with_reducible apply wps_storea (T := 91) S 0 (vs := [.int .i64 y.dst, .int .i64 y.delay, .int .i64 y.kind, .int .i64 y.data]) (m := 4)); (case hx | hy | hi | hm | h1 => rfl); (case hn => exact Nat.le_of_ble_eq_true rfl); (case hT => decide +kernel); clear S; intro wz S; simp only [List.set_cons_zero, List.set_cons_succ, setAll, List.setIfInBounds_toArray] at S) | ((with_reducible apply wps_load S 0); (case hx | hi | hu => rfl); (case hT => decide +kernel)) | ((with_reducible apply wps_load S 6); (case hx | hi | hu => rfl); (case hT => decide +kernel)) | ((with_reducible refine tot_done ?ht ?_); (case ht => kernel_rfl)) | ((with_reducible apply wps_text S); (case hm => kernel_rfl); (case hB => decide +kernel); clear S; intro wz S)
              go_roundw
              case rel => exact ⟨q + 1, o2, by omega, by go_num, Hf2.out, by omega, S.pick [1, 2, 3, 4, 5, 6, 7] rfl⟩
              case measure => first | (simp [intOf]; done) | (simp [intOf]; omega)
            have f1 : decide ((c.lps.length : Int) ≤ y.dst) = false := decide_eq_false k1
            by_cases k2 : y.delay < 1
            · have f2 : decide (y.delay < 1) = true := decide_eq_true k2
              have Hf2 : Hid (o2 = (em.take (q + 1)).foldl (sendE c.lps.length c.fin lpn x.key.at_) st.2) := by show _ = _; rw [Hf.out]; unfold sendE msgE; rw [decide_eq_false (by omega)]; rfl
              clear Hf
              go_wp2_with first | ((with_reducible refine wpList_skip ?hw ?_); (case hw => with_unfolding_all rfl); simp only [Act.put, List.setIfInBounds_toArray, List.set_cons_succ, List.set_cons_zero]) | ((with_reducible apply wps_alloca (E := 91) S); (case hz => exact Tryd.zeroValue91); clear S; intro by_ wz S) | ((with_reducible apply wps_loada_el S 1 (hj := Hy.out) (q := 0) (vs := [.int .i64 y.dst, .int .i64 y.delay, .int .i64 y.kind, .int .i64 y.data]) (m := 4)); (case hx | hi => rfl); (case hn => omega); (case hm | hv => rfl); (case hT => decide +kernel)) | ((with_reducible apply wps_storea (T := 91) S 0 (vs := [.int .i64 y.dst, .int .i64 y.delay, .int .i64 y.kind, .int .i64 y.data]) (m := 4)); (case hx | hy | hi | hm | h1 => rfl); (case hn => exact Nat.le_of_ble_eq_true rfl); (case hT => decide +kernel); clear S; intro wz S; simp only [List.set_cons_zero, List.set_cons_succ, setAll, List.setIfInBounds_toArray] at S) | ((with_reducible apply wps_load S 0); (case hx | hi | hu => rfl); (case hT => decide +kernel)) | ((with_reducible apply wps_load S 6); (case hx | hi | hu => rfl); (case hT => decide +kernel)) | ((with_reducible refine tot_done ?ht ?_); (case ht => kernel_rfl)) | ((with_reducible apply wps_text S); (case hm => kernel_rfl); (case hB => decide +kernel); clear S; intro wz S)
              go_roundw
              case rel => exact ⟨q + 1, o2, by omega, by go_num, Hf2.out, by omega, S.pick [1, 2, 3, 4, 5, 6, 7] rfl⟩
              case measure => first | (simp [intOf]; done) | (simp [intOf]; omega)
            have f2 : decide (y.delay < 1) = false := decide_eq_false k2
            by_cases k3 : 1073741824 < y.delay
            · have f3 : decide (1073741824 < y.delay) = true := decide_eq_true k3
              have Hf2 : Hid (o2 = (em.take (q + 1)).foldl (sendE c.lps.length c.fin lpn x.key.at_) st.2) := by show _ = _; rw [Hf.out]; unfold sendE msgE; rw [decide_eq_false (by omega)]; rfl
              clear Hf
              go_wp2_with first | ((with_reducible apply wps_alloca (E := 91) S); (case hz => exact Tryd.zeroValue91); clear S; intro by_ wz S) | ((with_reducible apply wps_loada_el S 1 (hj := Hy.out) (q := 0) (vs := [.int .i64 y.dst, .int .i64 y.delay, .int .i64 y.kind, .int .i64 y.data]) (m := 4)); (case hx | hi => rfl); (case hn => omega); (case hm | hv => rfl); (case hT => decide +kernel)) | ((with_reducible apply wps_storea (T := 91) S 0 (vs := [.int .i64 y.dst, .int .i64 y.delay, .int .i64 y.kind, .int .i64 y.data]) (m := 4)); (case hx | hy | hi | hm | h1 => rfl); (case hn => exact Nat.le_of_ble_eq_true rfl); (case hT => decide +kernel); clear S; intro wz S; simp only [List.set_cons_zero, List.set_cons_succ, setAll, List.setIfInBounds_toArray] at S) | ((with_reducible apply wps_load S 0); (case hx | hi | hu => rfl); (case hT => decide +kernel)) | ((with_reducible apply wps_load S 6); (case hx | hi | hu => rfl); (case hT => decide +kernel)) | ((with_reducible refine tot_done ?ht ?_); (case ht => kernel_rfl)) | ((with_reducible apply wps_text S); (case hm => kernel_rfl); (case hB => decide +kernel); clear S; intro wz S)
              go_roundw
              case rel => exact ⟨q + 1, o2, by omega, by go_num, Hf2.out, by omega, S.pick [1, 2, 3, 4, 5, 6, 7] rfl⟩
              case measure => first | (simp [intOf]; done) | (simp [intOf]; omega)
            have f3 : decide (1073741824 < y.delay) = false := decide_eq_false k3
            by_cases k4 : c.fin < x.key.at_ + y.delay
            · have f4 : decide (c.fin < x.key.at_ + y.delay) = true := decide_eq_true k4
              have Hf2 : Hid (o2 = (em.take (q + 1)).foldl (sendE c.lps.length c.fin lpn x.key.at_) st.2) := by show _ = _; rw [Hf.out]; unfold sendE msgE; rw [decide_eq_false (by omega)]; rfl
              clear Hf
              go_wp2_with first | ((with_reducible apply wps_alloca (E := 91) S); (case hz => exact Tryd.zeroValue91); clear S; intro by_ wz S) | ((with_reducible apply wps_loada_el S 1 (hj := Hy.out) (q := 0) (vs := [.int .i64 y.dst, .int .i64 y.delay, .int .i64 y.kind, .int .i64 y.data]) (m := 4)); (case hx | hi => rfl); (case hn => omega); (case hm | hv => rfl); (case hT => decide +kernel)) | ((with_reducible apply wps_storea (T := 91) S 0 (vs := [.int .i64 y.dst, .int .i64 y.delay, .int .i64 y.kind, .int .i64 y.data]) (m := 4)); (case hx | hy | hi | hm | h1 => rfl); (case hn => exact Nat.le_of_ble_eq_true rfl); (case hT => decide +kernel); clear S; intro wz S; simp only [List.set_cons_zero, List.set_cons_succ, setAll, List.setIfInBounds_toArray] at S) | ((with_reducible apply wps_load S 0); (case hx | hi | hu => rfl); (case hT => decide +kernel)) | ((with_reducible apply wps_load S 6); (case hx | hi | hu => rfl); (case hT => decide +kernel)) | ((with_reducible apply wps_load_el S 4 (hj := Hx.out) (q := 0) (u := .int .i64 x.key.at_)); (case hx | hi => rfl); (case hn => omega); (case hu => rfl); (case hT => decide +kernel)) | ((with_reducible refine tot_done ?ht ?_); (case ht => kernel_rfl)) | ((with_reducible apply wps_text S); (case hm => kernel_rfl); (case hB => decide +kernel); clear S; intro wz S)
              go_roundw
              case rel => exact ⟨q + 1, o2, by omega, by go_num, Hf2.out, by omega, S.pick [1, 2, 3, 4, 5, 6, 7] rfl⟩
              case measure => first | (simp [intOf]; done) | (simp [intOf]; omega)
            have f4 : decide (c.fin < x.key.at_ + y.delay) = false := decide_eq_false k4
            have Hf2 : Hid (o2 ++ [⟨⟨x.key.at_ + y.delay, lpn, x.key.at_, o2.length⟩, y.dst, y.kind, y.data⟩] = (em.take (q + 1)).foldl (sendE c.lps.length c.fin lpn x.key.at_) st.2) := by show _ = _; rw [Hf.out]; unfold sendE msgE; rw [decide_eq_true (by omega)]; rfl
            clear Hf
            go_wp2_with first | ((with_reducible apply wps_alloca (E := 91) S); (case hz => exact Tryd.zeroValue91); clear S; intro by_ wz S) | ((with_reducible apply wps_loada_el S 1 (hj := Hy.out) (q := 0) (vs := [.int .i64 y.dst, .int .i64 y.delay, .int .i64 y.kind, .int .i64 y.data]) (m := 4)); (case hx | hi => rfl); (case hn => omega); (case hm | hv => rfl); (case hT => decide +kernel)) | ((with_reducible apply wps_storea (T := 91) S 0 (vs := [.int .i64 y.dst, .int .i64 y.delay, .int .i64 y.kind, .int .i64 y.data]) (m := 4)); (case hx | hy | hi | hm | h1 => rfl); (case hn => exact Nat.le_of_ble_eq_true rfl); (case hT => decide +kernel); clear S; intro wz S; simp only [List.set_cons_zero, List.set_cons_succ, setAll, List.setIfInBounds_toArray] at S) | ((with_reducible apply wps_load S 0); (case hx | hi | hu => rfl); (case hT => decide +kernel)) | ((with_reducible apply wps_load S 6); (case hx | hi | hu => rfl); (case hT => decide +kernel)) | ((with_reducible apply wps_load_el S 4 (hj := Hx.out) (q := 0) (u := .int .i64 x.key.at_)); (case hx | hi => rfl); (case hn => omega); (case hu => rfl); (case hT => decide +kernel)) | ((with_reducible apply wps_build1a (T := 29) (E := 54) S); (case hx => rfl); (case hr => intro w; kernel_rfl); clear S; intro bz wz S) | ((with_reducible apply wps_append1 elem_Ev ecells eone (by decide) S 2 (j := 0) (e := (⟨⟨x.key.at_ + y.delay, lpn, x.key.at_, o2.length⟩, y.dst, y.kind, y.data⟩ : Event))); (case hx | hy | hi | hj | he => rfl); (case hl => first | omega | (simp; omega)); clear S; intro az nz cz wz hnz S; simp only [List.set_cons_succ, List.set_cons_zero] at S) | ((with_reducible refine tot_done ?ht ?_); (case ht => kernel_rfl)) | ((with_reducible apply wps_text S); (case hm => kernel_rfl); (case hB => decide +kernel); clear S; intro wz S)
            go_roundw
            case rel => exact ⟨q + 1, _, by omega, by go_num, Hf2.out, by simp; omega, S.pick [2, 3, 4, 5, 6, 7, 8] rfl⟩
            case measure => first | (simp [intOf]; done) | (simp [intOf]; omega)
          · obtain rfl : q = em.length := by omega
            have HE : Hid ((ms, o2) = (sl.take (j + 1)).foldl (oneE p c.lps.length c.fin c.fuel c.fan lpn x.key.at_) (s, [])) := by show _ = _; rw [Hn.out, Hn2.out, Ho.out, List.take_length]
            go_wp2_with first | ((with_reducible apply wps_loada (T := 91) (k := 4) S 0); (case hx | hi => rfl); (case hk => exact Nat.le_of_ble_eq_true rfl); (case hT => decide +kernel))
            go_roundw
            case rel => exact ⟨j + 1, (ms, o2), by omega, by go_num, HE.out, S.pick [0, 2, 3, 4, 5, 6] rfl⟩
            case measure => first | (simp [intOf]; done) | (simp [intOf]; omega)
    · obtain rfl : j = sl.length := by omega
      have HE : Hid (B = st) := by show _ = _; rw [HB.out, Hs.out, List.take_length]
      obtain ⟨ado, co, rfl⟩ : ∃ a c, _ = Value.slice a st.2.length c := (S.get (i := 0) rfl).elim fun F h => h.1.form
      go_wp2_with first | ((with_reducible apply wps_storea (T := 28) S 5 (vs := [.int .i64 st.1.n0, .int .i64 st.1.n1, .int .i64 st.1.n2, .int .i64 st.1.n3]) (m := 4)); (case hx | hy | hi | hm | h1 => rfl); (case hn => exact Nat.le_of_ble_eq_true rfl); (case hT => decide +kernel); clear S; intro wz S; simp only [List.set_cons_zero, List.set_cons_succ, setAll, List.setIfInBounds_toArray] at S) | ((with_reducible apply wps_loada (T := 28) (k := 4) S 1); (case hx | hi => rfl); (case hk => exact Nat.le_of_ble_eq_true rfl); (case hT => decide +kernel))
      (try simp only [Exit.inBlock, Exit.then]); refine bodyPost_ret (results2 rfl (S.resA 5 rfl rfl (by kernel_rfl)) (res_tmp rfl)) rfl ?_
      exact ⟨.slice ado st.2.length co, by rw [HE.out]; rfl, by rw [HE.out]; exact S.pick [0] rfl⟩
end Go.Proofs.YtfiiaechippboaaDoor
