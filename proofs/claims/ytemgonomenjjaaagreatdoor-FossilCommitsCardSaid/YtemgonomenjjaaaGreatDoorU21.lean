import Derived.Test.YtemgonomenjjaaaGreatDoorU20
import Derived.WalkMore
/- The walk of a log's run: the batches of one time. -/
namespace Go.Proofs.YtemgonomenjjaaaGreatDoor
open Go Go.RowKit Reg Mem

theorem brun_ok (R : Nat) (vs hs : List Value) (c : Cfg) (lp : Nat) (s : State) (v : Value) (l : List Event) (w : World) (F F2 F3 : Nat → Prop) (h : (ModA true 84 R vs hs c).at_ w F) (h2 : (Sl true Event.cells 7 v l).at_ w F2) (ht : Tab.at_ w F3) (hn : l.length ≤ 65536)
    (hc : cfgE c = 0) (hw : wrongE c.lps.length lp l = 0) (hat : 0 ≤ atE l ∧ atE l ≤ 1073741824) (s2 : State) (out : List Event) (hb : batchC c lp s l = (s2, out)) :
    Calls Tryz.prog 36 #[.pointer (some ⟨R, 0, none⟩), .int .i64 (lp : Nat), .agg #[.int .i64 s.n0, .int .i64 s.n1, .int .i64 s.n2, .int .i64 s.n3], v] w fun e w' =>
      ∃ ad cp, e = .returned (.tuple #[.agg #[.int .i64 s2.n0, .int .i64 s2.n1, .int .i64 s2.n2, .int .i64 s2.n3], .slice ad out.length cp, .int .i64 0]) ∧ St (fun _ => False) w w' [Own 78 Event.cells 7 (.slice ad out.length cp) out] := by
  refine (brun_calls R vs hs c lp s v l w F F2 F3 h h2 ht hn hc (fun _ => hat)).mono fun e w' hp => ?_
  rcases hp with ⟨h1, _⟩ | ⟨_, v, he, S⟩
  · exact absurd hw h1
  · rw [hb] at he S
    obtain ⟨ad, cp, rfl, _⟩ := (S.ownsl ecells 0 rfl).elim fun _ h => h.form
    exact ⟨ad, cp, he, S⟩
theorem told_snoc (l : List Event) (x : Event) (lp : Int) : toldL (l ++ [x]) lp = toldL l lp ++ if x.dst = lp then [x] else [] := by
  unfold toldL
  rw [List.filter_append]
  by_cases h : x.dst = lp
  · rw [if_pos h, List.filter_cons_of_pos (by simp [h])]; rfl
  · rw [if_neg h, List.filter_cons_of_neg (by simp [h])]; rfl
theorem told_wrong {c : Cfg} {l : List Event} {lp : Nat} {a : Int} (hl : ∀ x ∈ l, x.key.at_ = a) (hd : dupB l = false) (hlp : lp < c.lps.length) (h0 : (toldL l lp).length ≠ 0) : wrongE c.lps.length lp (toldL l lp) = 0 ∧ atE (toldL l lp) = a := by
  have hm : ∀ x ∈ toldL l lp, x.dst = lp ∧ x.key.at_ = a := fun x hx => ⟨(told_mem.1 hx).2, hl x (told_mem.1 hx).1⟩
  have hat : atE (toldL l lp) = a := by
    cases hi : toldL l lp with
    | nil => rw [hi] at h0; simp at h0
    | cons x t => exact (hm x (by rw [hi]; simp)).2
  refine ⟨?_, hat⟩
  unfold wrongE
  rw [if_neg (by omega), if_neg h0, if_neg (fun g => g fun x hx => (hm x hx).1), if_neg (fun g => g fun x hx => by rw [hat]; exact (hm x hx).2), if_neg]
  rw [twice_of_dup (dup_sub (told_sub l lp) hd) (fun x hx => (hm x hx).1)]
  simp
def TlRel (l : List Event) (lp : Nat) (F : Nat → Prop) (w : World) (v : Value) (L : List Asn) (out i : Value) (wr : World) : Prop :=
  ∃ (q : Nat) (t : List Event), q ≤ l.length ∧ i = .int .i64 q ∧ Hid (t = toldL (l.take q) lp) ∧ St F w wr (Own 78 Event.cells 7 out t :: Sl true Event.cells 7 v l :: L)
def LRunRel (X R : Nat) (vs hs : List Value) (c : Cfg) (at_ : Int) (l : List Event) (v v1 v2 : Value) (tm : Int) (ld : List BatV) (ss : List State) (F : Nat → Prop) (w : World) (out i : Value) (wr : World) : Prop :=
  ∃ (j : Nat) (lb : List BatV) (ssj : List State), j ≤ c.lps.length ∧ i = .int .i64 j ∧ Hid (lpsL c at_ l ss j = (ssj, lb.map (·.b))) ∧ lb.length ≤ j ∧ Hid (ssj.length = c.lps.length) ∧
    St F w wr [Sl true Event.cells 7 v l, Sls false Event.cells 7 (ld.map (·.vi)) (ld.map (·.b.ins)), Sls false Event.cells 7 (ld.map (·.vo)) (ld.map (·.b.sent)), Own 54 BatV.cells 8 v2 ld, Own 52 State.cells 4 v1 ssj,
      Blk false X #[.pointer (some ⟨R, 0, none⟩), v1, .int .i64 tm, v2] 80, ModA true 84 R vs hs c, Tab, Own 54 BatV.cells 8 out lb, Sls false Event.cells 7 (lb.map (·.vi)) (lb.map (·.b.ins)), Sls false Event.cells 7 (lb.map (·.vo)) (lb.map (·.b.sent))]
def LRunPost (X R : Nat) (g : LogE) (ss : List State) (bs : List BatE) (F : Nat → Prop) (w : World) (e : Ending) (w' : World) : Prop :=
  ∃ a cp lb, e = .returned (.slice a bs.length cp) ∧ lb.map (·.b) = bs ∧
    St F w w' [logA X R ⟨ss, g.time, g.done⟩, Own 54 BatV.cells 8 (.slice a bs.length cp) lb, Sls false Event.cells 7 (lb.map (·.vi)) (lb.map (·.b.ins)), Sls false Event.cells 7 (lb.map (·.vo)) (lb.map (·.b.sent))]
set_option maxRecDepth 100000 in
set_option maxHeartbeats 16000000 in
theorem lrun_calls (X R : Nat) (vs hs : List Value) (c : Cfg) (g : LogE) (at_ : Int) (v : Value) (l : List Event) (w : World) (F : Nat → Prop) (S0 : St F w w [logA X R g, Sl true Event.cells 7 v l, ModA true 84 R vs hs c, Tab]) (hc : cfgE c = 0)
    (hn : l.length ≤ 65536) (hss : g.ss.length = c.lps.length) (hl : ∀ x ∈ l, x.key.at_ = at_) (hat : 0 ≤ at_ ∧ at_ ≤ 1073741824) (hd : dupB l = false) :
    Calls Tryz.prog 32 #[.pointer (some ⟨X, 0, none⟩), .int .i64 at_, v] w (LRunPost X R g (runL c at_ l g.ss).1 (runL c at_ l g.ss).2 F w) := by
  obtain ⟨v1, v2, ld, hld, S⟩ := log_open S0
  replace S := S.pick [5, 0, 1, 2, 3, 4, 6, 7] rfl
  simp only [pick, nth] at S
  clear S0
  obtain ⟨ad, cp, rfl, _⟩ := (S.sl 0 rfl).elim fun _ h => h.form
  have hcn : c.lps.length ≤ 32 := by have := (cfg_isfine hc).sizes; unfold sizesOk at this; omega
  have HWR := Lib.hid fun (lp : Nat) (h : lp < c.lps.length) (h0 : (toldL l lp).length ≠ 0) => told_wrong (c := c) (lp := lp) hl hd h h0
  have HC := Lib.hid hc
  have HLD := Lib.hid hld
  obtain ⟨tm, htm⟩ : ∃ t, g.time = t := ⟨_, rfl⟩
  obtain ⟨ss, hs1⟩ : ∃ t, g.ss = t := ⟨_, rfl⟩
  rw [htm, hs1] at S
  rw [hs1] at hss
  unfold LRunPost
  rw [htm, hs1]
  have HG : Hid (runL c at_ l ss = lpsL c at_ l ss c.lps.length) := rfl
  clear htm hs1 hl hd hc hld
  have hnl : (l.length : Int) ≤ 65536 := by omega
  go_enter Tryz.func32, Tryz.ntmps32
  go_wp2_with first | ((with_reducible apply wps_loada (T := 78) (k := 7) S 5); (case hx | hi => rfl); (case hk => exact Nat.le_of_ble_eq_true rfl); (case hT => decide +kernel))
  go_step3
  go_wp2_with first | ((with_reducible apply wps_loada (T := 78) (k := 7) S 5); (case hx | hi => rfl); (case hk => exact Nat.le_of_ble_eq_true rfl); (case hT => decide +kernel))
  go_step3
  go_wp2_with first | (go_at_call 11; refine Calls.mono (lps_calls _ _ _ _ _ _ (S.get (i := 6) rfl).choose_spec) ?_; rintro e wz ⟨rfl, hE⟩; replace S := S.ext (Keep.of_below hE); clear hE) | ((with_reducible apply wps_load S 5); (case hx | hi | hu => rfl); (case hT => decide +kernel))
  go_loopw [7, 21] (fun out i wr => LRunRel X R vs hs c at_ l (.slice ad l.length cp) v1 v2 tm ld ss F w out i wr) (fun _ i _ => c.lps.length - (intOf i).toNat)
  case atStart =>
    exact ⟨0, [], ss, Nat.zero_le _, rfl, rfl, Nat.le_refl _, Lib.hid hss, (((S.slsNil Event.cells 7).slsNil Event.cells 7).nil 54 BatV.cells 8).pick [3, 4, 5, 6, 7, 8, 9, 10, 0, 1, 2] rfl⟩
  case round =>
    clear S hss
    obtain ⟨j, lb, ssj, hj, rfl, HL, hbl, HSJ, S⟩ := hrel
    by_cases hlt : j < c.lps.length
    · have hlt2 : (j : Int) < c.lps.length := by omega
      have HN := Lib.hid (lps_succ c at_ l ss j)
      go_wp2_with first | ((with_reducible apply wps_loada (T := 78) (k := 7) S 5); (case hx | hi => rfl); (case hk => exact Nat.le_of_ble_eq_true rfl); (case hT => decide +kernel))
      replace S := S.nil 78 Event.cells 7
      go_loopw [9, 26] (fun out2 i2 wr => TlRel l j F w (.slice ad l.length cp) _ out2 i2 wr) (fun _ i2 _ => l.length - (intOf i2).toNat)
      case atStart => exact ⟨0, [], Nat.zero_le _, rfl, rfl, S⟩
      case round =>
        clear S
        obtain ⟨q, t, hq, rfl, HT, S⟩ := hrel
        have htl : t.length ≤ 65536 := by
          rw [HT.out]; exact Nat.le_trans (told_sub _ _).length_le (by rw [List.length_take]; omega)
        obtain ⟨adt, cpt, rfl, _⟩ := (S.ownsl ecells 0 rfl).elim fun _ h => h.form
        by_cases hqt : q < l.length
        · obtain ⟨x, hx⟩ : ∃ x, l[q]? = some x := ⟨_, List.getElem?_eq_getElem hqt⟩
          obtain ⟨R1, o1, rfl⟩ : ∃ R o, ad = some ⟨R, o, none⟩ := (S.sl 1 rfl).elim fun F h => h.head (by omega)
          have hqt2 : (q : Int) < l.length := by omega
          have htl2 : t.length < 4294967296 := by omega
          by_cases hdx : x.dst = j
          · have f1 : (x.dst == (j : Int)) = true := by simp [hdx]
            have HT2 : Hid (t ++ [x] = toldL (l.take (q + 1)) j) := Lib.hid (by rw [take_snoc hx, told_snoc, if_pos hdx, HT.out])
            clear hdx
            have Hx := Lib.hid hx
            clear hx
            go_wp2_with first | ((with_reducible apply wps_alloca (E := 78) S); (case hz => exact Tryz.zeroValue78); clear S; intro bx wz S) | ((with_reducible apply wps_loada_el S 1 (hj := Hx.out) (q := 0) (vs := [.int .i64 x.key.at_, .int .i64 x.key.src, .int .i64 x.key.sent, .int .i64 x.key.no, .int .i64 x.dst, .int .i64 x.kind, .int .i64 x.data]) (m := 7)); (case hx | hi => rfl); (case hn => omega); (case hm | hv => rfl); (case hT => decide +kernel)) | ((with_reducible apply wps_storea (T := 78) S 0 (vs := [.int .i64 x.key.at_, .int .i64 x.key.src, .int .i64 x.key.sent, .int .i64 x.key.no, .int .i64 x.dst, .int .i64 x.kind, .int .i64 x.data]) (m := 7)); (case hx | hy | hi | hm | h1 => rfl); (case hn => exact Nat.le_of_ble_eq_true rfl); (case hT => decide +kernel); clear S; intro wz S; simp only [List.set_cons_zero, List.set_cons_succ, setAll, List.setIfInBounds_toArray] at S) | ((with_reducible apply wps_build1a (T := 45) (E := 78) S); (case hx => rfl); (case hr => intro w; kernel_rfl); clear S; intro bz wz S) | ((with_reducible apply wps_append1 elem_Ev ecells eone (by decide) S 2 (j := 0) (e := x)); (case hx | hy | hi | hj | he => rfl); (case hl => first | omega | (simp; omega)); clear S; intro az nz cz wz hnz S; simp only [List.set_cons_succ, List.set_cons_zero] at S) | ((with_reducible apply wps_load S 0); (case hx | hi | hu => rfl); (case hT => decide +kernel)) | ((with_reducible apply wps_loada (T := 78) (k := 7) S 0); (case hx | hi => rfl); (case hk => exact Nat.le_of_ble_eq_true rfl); (case hT => decide +kernel))
            go_roundw
            case rel => exact ⟨q + 1, t ++ [x], by omega, by go_num, HT2, S.pick [2, 3, 4, 5, 6, 7, 8, 9, 10, 11, 12, 13] rfl⟩
            case measure => simp [intOf]; omega
          · have f1 : (x.dst == (j : Int)) = false := by simp [hdx]
            have HT2 : Hid (t = toldL (l.take (q + 1)) j) := Lib.hid (by rw [take_snoc hx, told_snoc, if_neg hdx, List.append_nil]; exact HT.out)
            clear hdx
            have Hx := Lib.hid hx
            clear hx
            go_wp2_with first | ((with_reducible apply wps_alloca (E := 78) S); (case hz => exact Tryz.zeroValue78); clear S; intro bx wz S) | ((with_reducible apply wps_loada_el S 1 (hj := Hx.out) (q := 0) (vs := [.int .i64 x.key.at_, .int .i64 x.key.src, .int .i64 x.key.sent, .int .i64 x.key.no, .int .i64 x.dst, .int .i64 x.kind, .int .i64 x.data]) (m := 7)); (case hx | hi => rfl); (case hn => omega); (case hm | hv => rfl); (case hT => decide +kernel)) | ((with_reducible apply wps_storea (T := 78) S 0 (vs := [.int .i64 x.key.at_, .int .i64 x.key.src, .int .i64 x.key.sent, .int .i64 x.key.no, .int .i64 x.dst, .int .i64 x.kind, .int .i64 x.data]) (m := 7)); (case hx | hy | hi | hm | h1 => rfl); (case hn => exact Nat.le_of_ble_eq_true rfl); (case hT => decide +kernel); clear S; intro wz S; simp only [List.set_cons_zero, List.set_cons_succ, setAll, List.setIfInBounds_toArray] at S) | ((with_reducible apply wps_load S 0); (case hx | hi | hu => rfl); (case hT => decide +kernel))
            go_roundw
            case rel => exact ⟨q + 1, t, by omega, by go_num, HT2, S.pick [1, 2, 3, 4, 5, 6, 7, 8, 9, 10, 11, 12] rfl⟩
            case measure => simp [intOf]; omega
        · obtain rfl : q = l.length := by omega
          have HT2 : Hid (toldL l j = t) := Lib.hid (by rw [HT.out, List.take_length])
          clear HT
          by_cases h0 : t.length = 0
          · have f0 : ((t.length : Int) == 0) = true := by simp [h0]
            have HL2 : Hid (lpsL c at_ l ss (j + 1) = (ssj, lb.map (·.b))) := Lib.hid (by
              rw [HN.out, HL.out]; unfold lpL; rw [HT2.out, if_pos h0])
            clear h0
            go_wp2_with first | ((with_reducible apply wps_loada (T := 78) (k := 7) S 1); (case hx | hi => rfl); (case hk => exact Nat.le_of_ble_eq_true rfl); (case hT => decide +kernel))
            go_roundw
            case rel => exact ⟨j + 1, lb, ssj, by omega, by go_num, HL2, by omega, HSJ, S.pick [1, 2, 3, 4, 5, 6, 7, 8, 9, 10, 11] rfl⟩
            case measure => simp [intOf]; omega
          · have f0 : ((t.length : Int) == 0) = false := by rw [beq_eq_false_iff_ne]; omega
            obtain ⟨s, hsj0⟩ : ∃ s, ssj[j]? = some s := ⟨_, List.getElem?_eq_getElem (by have := HSJ.out; omega)⟩
            obtain ⟨s2, out, hb⟩ : ∃ s2 out, batchC c j s t = (s2, out) := ⟨_, _, rfl⟩
            have hw := HWR.out j hlt (by rw [HT2.out]; exact h0)
            rw [HT2.out] at hw
            have hst : stAt ssj (j : Int) = s := by unfold stAt; rw [Int.toNat_natCast, hsj0]; rfl
            have HL2 : Hid (lpsL c at_ l ss (j + 1) = (ssj.set j s2, lb.map (·.b) ++ [⟨at_, j, t, s2, out⟩])) := Lib.hid (by
              rw [HN.out, HL.out]; unfold lpL; rw [HT2.out, if_neg h0]
              simp only [hst, hb])
            have hol : out.length ≤ 600000 := by
              have h1 := batch_len c j s t (cfg_isfine HC.out).sizes.2.2.2.2.1
              have h2 := (cfg_isfine HC.out).sizes.2.2.2.2.2
              rw [hb] at h1
              have h3 : c.fan * (t.length : Int) ≤ 8 * (t.length : Int) := Int.mul_le_mul_of_nonneg_right h2 (by omega)
              have h4 : (out.length : Int) ≤ 8 * (t.length : Int) := Int.le_trans h1 h3
              omega
            have HBR := Lib.hid fun (v : Value) (w : World) (F F2 F3 : Nat → Prop) (h : (ModA true 84 R vs hs c).at_ w F) (h2 : (Sl true Event.cells 7 v t).at_ w F2) (ht : Tab.at_ w F3) => brun_ok R vs hs c j s v t w F F2 F3 h h2 ht htl HC.out hw.1 (by rw [hw.2]; exact hat) s2 out hb
            obtain ⟨RS, cs, e⟩ := own_hd 5 S rfl (by have := HSJ.out; omega)
            subst e
            have hjs : j < ssj.length := by have := HSJ.out; omega
            have hjs2 : (j : Int) < ssj.length := by omega
            have HLS : Hid ((ssj.set j s2).length = c.lps.length) := Lib.hid (by rw [List.length_set]; exact HSJ.out)
            have hbb : lb.length < 4294967296 := by omega
            obtain ⟨abo, cbo, rfl, _⟩ := (S.ownsl bvcells 9 rfl).elim fun _ h => h.form
            clear h0 hb hw hst HWR
            have Hsj0 := Lib.hid hsj0
            clear hsj0
            go_upto_region 13 with first | ((with_reducible apply wps_loada (T := 78) (k := 7) S 1); (case hx | hi => rfl); (case hk => exact Nat.le_of_ble_eq_true rfl); (case hT => decide +kernel))
            (refine wp_region_w (soft := [0, 1, 2, 3, 4, 5, 6, 7, 8, 9, 10, 11, 12, 13]) S ?hm ?hB ?_); (case hm => kernel_rfl); (case hB => decide +kernel); clear S
            iterate 14
              (with_reducible apply softs_cons)
              (case hw =>
                (with_reducible apply soft_of); (case hi => rfl)
                intro T wz S
                simp only [List.cons_append, List.nil_append] at S
                go_wp2_with first | ((with_reducible apply wps_loada_own sacells S 5 (hj := Hsj0.out) (q := 0) (vs := [.int .i64 s.n0, .int .i64 s.n1, .int .i64 s.n2, .int .i64 s.n3]) (m := 4)); (case hx | hi => rfl); (case hn => omega); (case hm | hv => rfl); (case hT => decide +kernel)) | ((with_reducible refine tot_done ?ht ?_); (case ht => kernel_rfl)) | ((with_reducible apply wps_load S 6); (case hx | hi | hu => rfl); (case hT => decide +kernel))
                exact ⟨rfl, S⟩)
              (case hs => exact ⟨_, rfl, by kernel_rfl⟩)
            refine softs_nil ?_
            (with_reducible apply W_hard2 (i := 14) (i' := 19)); (case hn => rfl); (case hr => decide +kernel)
            focus
              intro wz S
              (with_reducible apply hard_of); (case hi => rfl)
              simp only [List.cons_append, List.nil_append] at S
              go_wp2_with first | (go_at_call 36; refine Calls.mono (HBR.out _ _ _ _ _ (S.get (i := 7) rfl).choose_spec (own_sl (sh := true) ecells (S.get (i := 0) rfl).choose_spec) (S.get (i := 8) rfl).choose_spec) ?_; rintro r wz ⟨ado, cpo, rfl, T⟩; replace S := S.join T rfl; clear T; simp only [List.cons_append, List.nil_append] at S) | ((with_reducible refine tot_done ?ht ?_); (case ht => kernel_rfl))
              refine ⟨_, S.pick [1, 2, 3, 4, 5, 6, 7, 8, 9, 10, 11, 12, 0] rfl, ?_⟩
              clear S
              (refine W_mid (f := 4) (soft := [15, 16, 17, 18]) rfl ?hB ?_); (case hB => decide +kernel)
              iterate 4
                (with_reducible apply softs_cons)
                (case hw =>
                  (with_reducible apply soft_of); (case hi => rfl)
                  intro T wz S
                  simp only [List.cons_append, List.nil_append] at S
                  go_wp2_with first | ((with_reducible refine tot_done ?ht ?_); (case ht => kernel_rfl))
                  exact ⟨rfl, S⟩)
                (case hs => exact ⟨_, rfl, by kernel_rfl⟩)
              refine softs_nil ?_
              (with_reducible apply W_hard1 (i := 19)); (case hn => rfl); (case hr => decide +kernel)
              intro wz S
              (with_reducible apply hard_of); (case hi => rfl)
              simp only [List.cons_append, List.nil_append] at S
              go_wp2_with first | ((with_reducible apply wps_alloca (E := 52) S); (case hz => exact Tryz.zeroValue52); clear S; intro b12 wz S) | ((with_reducible refine tot_done ?ht ?_); (case ht => kernel_rfl))
              refine ⟨_, S.pick [1, 2, 3, 4, 5, 6, 7, 8, 9, 10, 11, 12, 13, 0] rfl, ?_⟩
              clear S
              (with_reducible apply W_hard1 (i := 20)); (case hn => rfl); (case hr => decide +kernel)
              intro wz S
              (with_reducible apply hard_of); (case hi => rfl)
              simp only [List.cons_append, List.nil_append] at S
              go_wp2_with first | ((with_reducible apply wps_storea (T := 52) S 13 (vs := [.int .i64 s2.n0, .int .i64 s2.n1, .int .i64 s2.n2, .int .i64 s2.n3]) (m := 4)); (case hx | hy | hi | hm | h1 => rfl); (case hn => exact Nat.le_of_ble_eq_true rfl); (case hT => decide +kernel); clear S; intro wz S; simp only [List.set_cons_zero, List.set_cons_succ, setAll, List.setIfInBounds_toArray] at S) | ((with_reducible refine tot_done ?ht ?_); (case ht => kernel_rfl))
              refine ⟨_, S, ?_⟩
              clear S
              (refine W_mid (f := 0) (soft := [21, 22]) rfl ?hB ?_); (case hB => decide +kernel)
              iterate 2
                (with_reducible apply softs_cons)
                (case hw =>
                  (with_reducible apply soft_of); (case hi => rfl)
                  intro T wz S
                  simp only [List.cons_append, List.nil_append] at S
                  go_wp2_with first | ((with_reducible refine tot_done ?ht ?_); (case ht => kernel_rfl))
                  exact ⟨rfl, S⟩)
                (case hs => exact ⟨_, rfl, by kernel_rfl⟩)
              refine softs_nil ?_
              (with_reducible apply W_done); (case hn => rfl); (case hr => decide +kernel)
              intro wz S
              repeat (first | simp only at S | simp only [pick] at S | simp only [nth] at S | simp only [List.set_cons_succ] at S | simp only [List.set_cons_zero] at S | simp only [List.setIfInBounds_toArray] at S | simp only [setAll] at S | simp only [List.cons_append] at S | simp only [List.nil_append] at S | simp only [List.append_nil] at S)
            rotate_left 1
            focus
              intro wz S
              (with_reducible apply hard_of); (case hi => rfl)
              simp only [List.cons_append, List.nil_append] at S
              go_wp2_with first | ((with_reducible apply wps_alloca (E := 52) S); (case hz => exact Tryz.zeroValue52); clear S; intro b12 wz S) | ((with_reducible refine tot_done ?ht ?_); (case ht => kernel_rfl))
              refine ⟨_, S.pick [1, 2, 3, 4, 5, 6, 7, 8, 9, 10, 11, 12, 0] rfl, ?_⟩
              clear S
              (with_reducible apply W_hard1 (i := 14)); (case hn => rfl); (case hr => decide +kernel)
              intro wz S
              (with_reducible apply hard_of); (case hi => rfl)
              simp only [List.cons_append, List.nil_append] at S
              go_wp2_with first | (go_at_call 36; refine Calls.mono (HBR.out _ _ _ _ _ (S.get (i := 7) rfl).choose_spec (own_sl (sh := true) ecells (S.get (i := 0) rfl).choose_spec) (S.get (i := 8) rfl).choose_spec) ?_; rintro r wz ⟨ado, cpo, rfl, T⟩; replace S := S.join T rfl; clear T; simp only [List.cons_append, List.nil_append] at S) | ((with_reducible refine tot_done ?ht ?_); (case ht => kernel_rfl))
              refine ⟨_, S.pick [1, 2, 3, 4, 5, 6, 7, 8, 9, 10, 11, 12, 0, 13] rfl, ?_⟩
              clear S
              (refine W_mid (f := 3) (soft := [15, 16, 17, 18]) rfl ?hB ?_); (case hB => decide +kernel)
              iterate 4
                (with_reducible apply softs_cons)
                (case hw =>
                  (with_reducible apply soft_of); (case hi => rfl)
                  intro T wz S
                  simp only [List.cons_append, List.nil_append] at S
                  go_wp2_with first | ((with_reducible refine tot_done ?ht ?_); (case ht => kernel_rfl))
                  exact ⟨rfl, S⟩)
                (case hs => exact ⟨_, rfl, by kernel_rfl⟩)
              refine softs_nil ?_
              (with_reducible apply W_hard1 (i := 20)); (case hn => rfl); (case hr => decide +kernel)
              intro wz S
              (with_reducible apply hard_of); (case hi => rfl)
              simp only [List.cons_append, List.nil_append] at S
              go_wp2_with first | ((with_reducible apply wps_storea (T := 52) S 13 (vs := [.int .i64 s2.n0, .int .i64 s2.n1, .int .i64 s2.n2, .int .i64 s2.n3]) (m := 4)); (case hx | hy | hi | hm | h1 => rfl); (case hn => exact Nat.le_of_ble_eq_true rfl); (case hT => decide +kernel); clear S; intro wz S; simp only [List.set_cons_zero, List.set_cons_succ, setAll, List.setIfInBounds_toArray] at S) | ((with_reducible refine tot_done ?ht ?_); (case ht => kernel_rfl))
              refine ⟨_, S, ?_⟩
              clear S
              (refine W_mid (f := 0) (soft := [21, 22]) rfl ?hB ?_); (case hB => decide +kernel)
              iterate 2
                (with_reducible apply softs_cons)
                (case hw =>
                  (with_reducible apply soft_of); (case hi => rfl)
                  intro T wz S
                  simp only [List.cons_append, List.nil_append] at S
                  go_wp2_with first | ((with_reducible refine tot_done ?ht ?_); (case ht => kernel_rfl))
                  exact ⟨rfl, S⟩)
                (case hs => exact ⟨_, rfl, by kernel_rfl⟩)
              refine softs_nil ?_
              (with_reducible apply W_done); (case hn => rfl); (case hr => decide +kernel)
              intro wz S
              repeat (first | simp only at S | simp only [pick] at S | simp only [nth] at S | simp only [List.set_cons_succ] at S | simp only [List.set_cons_zero] at S | simp only [List.setIfInBounds_toArray] at S | simp only [setAll] at S | simp only [List.cons_append] at S | simp only [List.nil_append] at S | simp only [List.append_nil] at S)
            all_goals
              go_upto_region 15 with first | ((with_reducible apply wps_loada (T := 78) (k := 7) S 0); (case hx | hi => rfl); (case hk => exact Nat.le_of_ble_eq_true rfl); (case hT => decide +kernel))
              replace S := S.pick [0, 1, 2, 3, 4, 6, 7, 8, 9, 10, 11, 12, 13, 5] rfl
              simp only [pick, nth] at S
              (refine wp_region_wt (soft := [0, 1, 2, 3, 4, 5, 6]) (L := [_, _, _, _, _, _, _, _, _, _, _, _, _]) (T := [_]) S ?hm ?hB ?_); (case hm => kernel_rfl); (case hB => decide +kernel); clear S
              iterate 7
                (with_reducible apply softs_cons)
                (case hw =>
                  (with_reducible apply soft_of); (case hi => rfl)
                  intro T wz S
                  simp only [List.cons_append, List.nil_append] at S
                  go_wp2_with first | ((with_reducible apply wps_load S 5); (case hx | hi | hu => rfl); (case hT => decide +kernel)) | ((with_reducible apply wps_loada (T := 52) (k := 4) S 12); (case hx | hi => rfl); (case hk => exact Nat.le_of_ble_eq_true rfl); (case hT => decide +kernel)) | ((with_reducible refine tot_done ?ht ?_); (case ht => kernel_rfl))
                  exact ⟨rfl, S⟩)
                (case hs => exact ⟨_, rfl, by kernel_rfl⟩)
              refine softs_nil ?_
              (with_reducible apply W_hard1 (i := 7)); (case hn => rfl); (case hr => decide +kernel)
              intro wz S
              (with_reducible apply hard_of); (case hi => rfl)
              simp only [List.cons_append, List.nil_append] at S
              go_wp2_with first | ((with_reducible apply wps_store_owna sacells S 13 (hj := Hsj0.out) (e' := s2) (q := 0) (vs := [.int .i64 s2.n0, .int .i64 s2.n1, .int .i64 s2.n2, .int .i64 s2.n3]) (m := 4)); (case hx => rfl); (case hn => omega); (case hi | hy | hm | h1 | he => rfl); (case hq => exact Nat.le_of_ble_eq_true rfl); (case hT => decide +kernel); clear S; intro wz S; simp only [List.set_cons_succ, List.set_cons_zero] at S) | ((with_reducible refine tot_done ?ht ?_); (case ht => kernel_rfl))
              refine ⟨_, S, ?_⟩
              clear S
              (with_reducible apply W_done); (case hn => rfl); (case hr => decide +kernel)
              intro wz S
              repeat (first | simp only at S | simp only [pick] at S | simp only [nth] at S | simp only [List.set_cons_succ] at S | simp only [List.set_cons_zero] at S | simp only [List.setIfInBounds_toArray] at S | simp only [setAll] at S | simp only [List.cons_append] at S | simp only [List.nil_append] at S | simp only [List.append_nil] at S)
              go_wp2_with first | ((with_reducible apply wps_loada (T := 52) (k := 4) S 12); (case hx | hi => rfl); (case hk => exact Nat.le_of_ble_eq_true rfl); (case hT => decide +kernel)) | ((with_reducible apply wps_build1a (T := 44) (E := 54) S); (case hx => rfl); (case hr => intro w; kernel_rfl); clear S; intro bz wz S) | ((with_reducible apply wps_append1 elem_Bat bvcells bvone (by decide) S 9 (j := 0) (e := (⟨⟨at_, j, t, s2, out⟩, adt, cpt, ado, cpo⟩ : BatV))); (case hx | hy | hi | hj | he => rfl); (case hl => first | omega | (simp; omega)); clear S; intro az nz cz wz hnz S; simp only [List.set_cons_succ, List.set_cons_zero] at S)
              go_roundw
              case rel =>
                have HM : Hid ((lb ++ [(⟨⟨at_, j, t, s2, out⟩, adt, cpt, ado, cpo⟩ : BatV)]).map (·.b) = lb.map (·.b) ++ [⟨at_, j, t, s2, out⟩]) := Lib.hid (by rw [List.map_append]; rfl)
                refine ⟨j + 1, lb ++ [⟨⟨at_, j, t, s2, out⟩, adt, cpt, ado, cpo⟩], ssj.set j s2, by omega, by go_num, Lib.hid (by rw [HM.out]; exact HL2.out), by rw [List.length_append]; simp only [List.length_cons, List.length_nil]; omega, HLS, ?_⟩
                simp only [List.map_append, List.map_cons, List.map_nil]
                have S2 := S.pick [1, 10, 12, 11, 2, 3, 4, 5, 14, 6, 7, 8, 9] rfl
                simp only [pick, nth] at S2
                have S3 := S2.freeze false 0 ecells rfl
                simp only [List.set_cons_zero] at S3
                have S4 := S3.slsSnoc.pick [1, 2, 0, 3, 4, 5, 6, 7, 8, 9, 10, 11] rfl
                simp only [pick, nth] at S4
                have S5 := S4.freeze false 0 ecells rfl
                simp only [List.set_cons_zero] at S5
                exact S5.slsSnoc.pick [2, 3, 4, 5, 6, 7, 8, 9, 10, 1, 0] rfl
              case measure => simp [intOf]; omega
    · obtain rfl : j = c.lps.length := by omega
      obtain ⟨ao, co, rfl, _⟩ := (S.ownsl bvcells 8 rfl).elim fun _ h => h.form
      have HM2 : Hid ((lpsL c at_ l ss c.lps.length).2.length = lb.length) := Lib.hid (by rw [HL.out]; simp)
      go_wp2_with first | ((with_reducible apply wps_loada (T := 78) (k := 7) S 0); (case hx | hi => rfl); (case hk => exact Nat.le_of_ble_eq_true rfl); (case hT => decide +kernel))
      try rw [Exit.noGoto_ret]
      go_ret
      rw [HG.out]
      refine ⟨ao, co, lb, by rw [HM2.out]; rfl, by rw [HL.out], ?_⟩
      rw [HM2.out, HL.out]
      have S2 := S.pick [1, 2, 3, 4, 5, 8, 9, 10] rfl
      simp only [pick, nth] at S2
      exact log_close (g := ⟨ssj, tm, g.done⟩) HLD.out S2
end Go.Proofs.YtemgonomenjjaaaGreatDoor
