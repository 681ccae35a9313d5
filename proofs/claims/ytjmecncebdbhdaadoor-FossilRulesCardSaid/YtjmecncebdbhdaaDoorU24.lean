import Derived.Test.YtjmecncebdbhdaaDoorU23
import Derived.Test.YtjmecncebdbhdaaDoorU20
import Derived.Test.YtjmecncebdbhdaaDoorU15
import Derived.Test.YtjmecncebdbhdaaDoorU08
import Derived.Deep.Cut
import Derived.Test.YtjmecncebdbhdaaDoorU18
import Derived.Test.YtjmecncebdbhdaaDoorU06
import Derived.Test.YtjmecncebdbhdaaDoorU04
/- The walk of the law's awake (chapter 16). -/
namespace Go.Proofs.YtjmecncebdbhdaaDoor
open Go Go.RowKit Reg Mem

def wk16 : Cfg := ⟨[[]], [⟨0, ⟨0, 0, 0, 0⟩⟩, ⟨0, ⟨0, 0, 0, 0⟩⟩], [], 9, 1, 0⟩
def wk16l : List Event := [⟨⟨3, 0, -1, 0⟩, 1, 0, 0⟩, ⟨⟨2, 0, -1, 0⟩, 0, 0, 0⟩]
theorem wk16_ok : cfgE wk16 = 0 := by decide +kernel
theorem wk16_mid : Mid wk16 := ⟨by decide, by decide, by decide⟩
theorem wk16_mid2 : ∀ p ∈ wk16.programs, p.length ≤ 65536 := by decide
theorem wk16_fine : Fine wk16.lps.length 0 5 wk16l := wrongL_fine.1 (by decide +kernel)
theorem wk16_run : (timesL wk16 (sortT wk16l) (newL wk16).ss).2.map (fun b => (b.at_, b.lp)) = [(2, 0), (3, 1)] := by decide +kernel
set_option maxRecDepth 100000 in
set_option maxHeartbeats 8000000 in
theorem awake16_calls (w : World) (F : Nat → Prop) (ht : Tab.at_ w F) : Calls Tryd.prog 6 #[] w fun r w' => r = .returned (.bool true) ∧ Below w.heap.size w w' := by
  have S : St (fun _ => False) w w [Tab] := (St.init _ w).share rfl rfl ht
  clear ht
  replace S := (S.nil 106 Start.cells 4).nil 113 Instr.cells 5
  obtain ⟨bs, HBS⟩ : ∃ bs, Hid ((timesL wk16 (sortT wk16l) (newL wk16).ss).2 = bs) := ⟨_, rfl⟩
  obtain ⟨g1, HG1⟩ : ∃ g, Hid (comL wk16 (newL wk16) 5 wk16l = g) := ⟨_, rfl⟩
  have HM : Hid (bs.map (fun b => (b.at_, b.lp)) = [(2, 0), (3, 1)]) := Lib.hid (by rw [← HBS.out]; exact wk16_run)
  have HC := Lib.hid fun (X R : Nat) (vs hs : List Value) (v : Value) (w : World) (F : Nat → Prop) (S0 : St F w w [logA X R (newL wk16), Sl true Event.cells 7 v wk16l, ModA true 117 R vs hs wk16, Tab]) =>
    commit_calls X R vs hs wk16 (newL wk16) 5 v wk16l w F S0 wk16_ok (by decide) rfl (by decide) (by decide) wk16_fine
  rw [HBS.out, HG1.out] at HC
  have HW := Lib.hid fun (X R : Nat) (v : Value) (w : World) (F : Nat → Prop) (S0 : St F w w [logA X R g1, Sl true Event.cells 7 v []]) =>
    commit_wrong X R g1 4 v [] w F S0 (by decide) 18 (by rw [← HG1.out]; unfold wrongL; rw [if_pos (.inl (by decide))]) (by decide)
  go_enter Tryd.func6, Tryd.ntmps6
  go_wp2_with first | go_skip | ((with_reducible refine wpList_skip ?hw ?_); (case hw => with_unfolding_all rfl); simp only [Act.put, List.setIfInBounds_toArray, List.set_cons_succ, List.set_cons_zero]) | ((with_reducible apply wps_buildSlice (T := 22) (E := 83) (cs := #[.slice none 0 0]) S); (case hr => intro w; kernel_rfl); clear S; intro bh wz S) | ((with_reducible apply wps_buildSlice (T := 23) (E := 75) (cs := #[.int .i64 0, .int .i64 0, .int .i64 0, .int .i64 0, .int .i64 0, .int .i64 0, .int .i64 0, .int .i64 0, .int .i64 0, .int .i64 0]) S); (case hr => intro w; kernel_rfl); clear S; intro bp wz S) | ((with_reducible refine tot_done ?ht ?_); (case ht => kernel_rfl)) | ((with_reducible apply wps_load S 0); (case hx | hi | hu => rfl); (case hT => decide +kernel))
  have hcfg : (CfgA true [.slice (some ⟨bh, 0, none⟩) 1 1, .slice (some ⟨bp, 0, none⟩) 2 2, .slice none 0 0, .int .i64 9, .int .i64 1, .int .i64 0] [.slice none 0 0] wk16).at_ wz (fun b => b < wz.heap.size) :=
    cfg_any (c := wk16) (blk_sl (n := 1) [.slice none 0 0] vcells (S.get (i := 1) rfl).choose_spec rfl rfl) (blk_sl (n := 2) wk16.lps plcells (S.get (i := 0) rfl).choose_spec rfl rfl) (own_sl (sh := true) stcells (S.get (i := 3) rfl).choose_spec)
      (sls_one (own_sl (sh := true) incells (S.get (i := 2) rfl).choose_spec))
  refine Calls.mono (new_calls _ _ wk16 _ _ _ hcfg (S.get (i := 4) rfl).choose_spec wk16_mid wk16_mid2) ?_
  clear hcfg
  rintro e wz (⟨h, _⟩ | ⟨_, R, vs, hs, rfl, T⟩)
  · exact absurd wk16_ok h
  replace S := ((S.join T rfl).modShare 0 rfl).pick [0, 5] rfl
  repeat (first | simp only at S | simp only [pick] at S | simp only [nth] at S | simp only [List.set_cons_succ] at S | simp only [List.set_cons_zero] at S | simp only [List.setIfInBounds_toArray] at S | simp only [setAll] at S | simp only [List.cons_append] at S | simp only [List.nil_append] at S | simp only [List.append_nil] at S)
  clear T
  go_upto_region 5 with first | go_skip | ((with_reducible refine wpList_skip ?hw ?_); (case hw => with_unfolding_all rfl); simp only [Act.put, List.setIfInBounds_toArray, List.set_cons_succ, List.set_cons_zero]) | (go_at_call 11; refine Calls.mono (lnew_calls R vs hs wk16 _ _ (S.get (i := 0) rfl).choose_spec (by decide)) ?_; rintro e wz ⟨X, rfl, T⟩; replace S := S.join T rfl; clear T; simp only [List.cons_append, List.nil_append] at S) | ((with_reducible refine tot_done ?ht ?_); (case ht => kernel_rfl)) | ((with_reducible apply wps_load S 0); (case hx | hi | hu => rfl); (case hT => decide +kernel))
  go_upto_region 6 with first | go_skip | ((with_reducible refine wpList_skip ?hw ?_); (case hw => with_unfolding_all rfl); simp only [Act.put, List.setIfInBounds_toArray, List.set_cons_succ, List.set_cons_zero]) | ((with_reducible apply wps_buildSlice (T := 29) (E := 52) (cs := #[.int .i64 3, .int .i64 0, .int .i64 (-1), .int .i64 0, .int .i64 1, .int .i64 0, .int .i64 0, .int .i64 2, .int .i64 0, .int .i64 (-1), .int .i64 0, .int .i64 0, .int .i64 0, .int .i64 0]) S); (case hr => intro w; kernel_rfl); clear S; intro be wz S) | (go_at_call 12; replace S := S.weak (i := 0) (A' := Sl true Event.cells 7 (.slice (some ⟨be, 0, none⟩) 2 2) wk16l) rfl (fun e => by cases e) (fun F h => ⟨F, fun _ hb => hb, blk_sl (n := 2) wk16l ecells h rfl rfl⟩); simp only [List.set_cons_zero] at S; obtain ⟨Fz, hF, hBk⟩ := S.lend [1] [0, 2, 3] [0, 2, 3] rfl rfl rfl; simp only [List.cons_append, List.nil_append, pick, nth] at hF hBk; refine Calls.mono (HC.out X R vs hs _ _ _ hF) ?_; rintro e wz ⟨ar, cr, lb, rfl, hlb, T⟩; replace S := hBk _ _ T rfl; clear hBk hF T; simp only [List.cons_append, List.nil_append] at S) | ((with_reducible refine tot_done ?ht ?_); (case ht => kernel_rfl)) | ((with_reducible apply wps_load S 0); (case hx | hi | hu => rfl); (case hT => decide +kernel))
  replace S := (S.nil 52 Event.cells 7).freeze true 0 ecells rfl
  simp only [List.set_cons_zero] at S
  have hbl : bs.length = 2 := by have := congrArg List.length HM.out; rw [List.length_map] at this; exact this
  rw [hbl] at S ⊢
  clear hbl
  obtain ⟨x0, x1, rfl⟩ : ∃ x0 x1, lb = [x0, x1] := by
    have h1 : lb.length = 2 := by have := congrArg List.length (hlb ▸ HM.out); simpa using this
    match lb, h1 with
    | [a, b], _ => exact ⟨a, b, rfl⟩
  have hm := HM.out
  rw [← hlb] at hm
  simp only [List.map_cons, List.map_nil, List.cons.injEq, Prod.mk.injEq, and_true] at hm
  have f0 : (x0.b.at_ == 2) = true := by simp [hm.1.1]
  have f1 : (x0.b.lp == 0) = true := by simp [hm.1.2]
  have f2 : (x1.b.at_ == 3) = true := by simp [hm.2.1]
  have f3 : (x1.b.lp == 1) = true := by simp [hm.2.2]
  obtain ⟨RB, cB, e⟩ := own_hd 2 S rfl (by simp)
  simp only [Value.slice.injEq] at e
  obtain ⟨rfl, hq, rfl⟩ := e
  clear hm hlb HM hq
  have hj0 : ([x0, x1] : List BatV)[0]? = some x0 := rfl
  have hj1 : ([x0, x1] : List BatV)[1]? = some x1 := rfl
  have Hj0 := Lib.hid hj0
  have Hj1 := Lib.hid hj1
  clear hj0 hj1
  go_wp2_with first | go_skip | ((with_reducible refine wpList_skip ?hw ?_); (case hw => with_unfolding_all rfl); simp only [Act.put, List.setIfInBounds_toArray, List.set_cons_succ, List.set_cons_zero]) | (go_at_call 12; obtain ⟨Fz, hF, hBk⟩ := S.lend [1] [0] [2] rfl rfl rfl; simp only [List.cons_append, List.nil_append, pick, nth] at hF hBk; refine Calls.mono (HW.out X R _ _ _ hF) ?_; rintro e wz ⟨rfl, T⟩; replace S := hBk _ _ T rfl; clear hBk hF T; simp only [List.cons_append, List.nil_append] at S) | ((with_reducible apply wps_load_own bvcells S 1 (hj := Hj0.out) (q := 0) (u := .int .i64 x0.b.at_)); (case hx | hi => rfl); (case hn => omega); (case hu => rfl); (case hT => decide +kernel)) | ((with_reducible apply wps_load_own bvcells S 1 (hj := Hj0.out) (q := 1) (u := .int .i64 x0.b.lp)); (case hx | hi => rfl); (case hn => omega); (case hu => rfl); (case hT => decide +kernel)) | ((with_reducible apply wps_load_own bvcells S 1 (hj := Hj1.out) (q := 0) (u := .int .i64 x1.b.at_)); (case hx | hi => rfl); (case hn => omega); (case hu => rfl); (case hT => decide +kernel)) | ((with_reducible apply wps_load_own bvcells S 1 (hj := Hj1.out) (q := 1) (u := .int .i64 x1.b.lp)); (case hx | hi => rfl); (case hn => omega); (case hu => rfl); (case hT => decide +kernel)) | ((with_reducible refine tot_done ?ht ?_); (case ht => kernel_rfl)) | ((with_reducible apply wps_load S 0); (case hx | hi | hu => rfl); (case hT => decide +kernel))
  go_ret
  exact ⟨rfl, S.below⟩
end Go.Proofs.YtjmecncebdbhdaaDoor
/- The walk of the reference's Ahead (chapter 10). -/
namespace Go.Proofs.YtjmecncebdbhdaaDoor
open Go Go.RowKit Reg Mem

def Event.li (e : Event) : List Int := [e.key.at_, e.key.src, e.key.sent, e.key.no, e.dst, e.kind, e.data]
theorem evLt_at {a b : Event} {j : Nat} {x y : Int} (h : ∀ q, q < j → a.li[q]? = b.li[q]?) (hx : a.li[j]? = some x) (hy : b.li[j]? = some y) (hn : x ≠ y) : decide (evLt a b) = decide (x < y) := by
  have hj : j < 7 := (List.getElem?_eq_some_iff.1 hx).1
  rw [decide_eq_decide]
  unfold evLt
  have g : ∀ q, q < j → ∀ u v, a.li[q]? = some u → b.li[q]? = some v → u = v := fun q hq u v hu hv => by
    have := h q hq
    rw [hu, hv] at this
    exact Option.some.inj this
  clear h
  match j, hj with
  | 0, _ =>
    cases hx; cases hy
    omega
  | 1, _ =>
    cases hx; cases hy
    have g0 := g 0 (by decide) _ _ rfl rfl
    omega
  | 2, _ =>
    cases hx; cases hy
    have g0 := g 0 (by decide) _ _ rfl rfl
    have g1 := g 1 (by decide) _ _ rfl rfl
    omega
  | 3, _ =>
    cases hx; cases hy
    have g0 := g 0 (by decide) _ _ rfl rfl
    have g1 := g 1 (by decide) _ _ rfl rfl
    have g2 := g 2 (by decide) _ _ rfl rfl
    omega
  | 4, _ =>
    cases hx; cases hy
    have g0 := g 0 (by decide) _ _ rfl rfl
    have g1 := g 1 (by decide) _ _ rfl rfl
    have g2 := g 2 (by decide) _ _ rfl rfl
    have g3 := g 3 (by decide) _ _ rfl rfl
    omega
  | 5, _ =>
    cases hx; cases hy
    have g0 := g 0 (by decide) _ _ rfl rfl
    have g1 := g 1 (by decide) _ _ rfl rfl
    have g2 := g 2 (by decide) _ _ rfl rfl
    have g3 := g 3 (by decide) _ _ rfl rfl
    have g4 := g 4 (by decide) _ _ rfl rfl
    omega
  | 6, _ =>
    cases hx; cases hy
    have g0 := g 0 (by decide) _ _ rfl rfl
    have g1 := g 1 (by decide) _ _ rfl rfl
    have g2 := g 2 (by decide) _ _ rfl rfl
    have g3 := g 3 (by decide) _ _ rfl rfl
    have g4 := g 4 (by decide) _ _ rfl rfl
    have g5 := g 5 (by decide) _ _ rfl rfl
    omega
theorem evLt_none {a b : Event} (h : ∀ q, q < 7 → a.li[q]? = b.li[q]?) : decide (evLt a b) = false := by
  have g : ∀ q, q < 7 → ∀ u v, a.li[q]? = some u → b.li[q]? = some v → u = v := fun q hq u v hu hv => by
    have := h q hq
    rw [hu, hv] at this
    exact Option.some.inj this
  have g0 := g 0 (by decide) _ _ rfl rfl
  have g1 := g 1 (by decide) _ _ rfl rfl
  have g2 := g 2 (by decide) _ _ rfl rfl
  have g3 := g 3 (by decide) _ _ rfl rfl
  have g4 := g 4 (by decide) _ _ rfl rfl
  have g5 := g 5 (by decide) _ _ rfl rfl
  have g6 := g 6 (by decide) _ _ rfl rfl
  refine decide_eq_false fun k => ?_
  unfold evLt at k
  omega
def AhRel (va vb : Value) (a b : Event) (w : World) (i : Value) (wr : World) : Prop :=
  ∃ j : Nat, j ≤ 7 ∧ i = .int .i64 j ∧ Hid (∀ q, q < j → a.li[q]? = b.li[q]?) ∧ St (fun _ => False) w wr [Sl true intE 1 vb b.li, Sl true intE 1 va a.li]
set_option maxRecDepth 100000 in
set_option maxHeartbeats 8000000 in
theorem ahead_calls (a b : Event) (w : World) : Calls Tryd.prog 65 #[.agg #[.int .i64 a.key.at_, .int .i64 a.key.src, .int .i64 a.key.sent, .int .i64 a.key.no, .int .i64 a.dst, .int .i64 a.kind, .int .i64 a.data], .agg #[.int .i64 b.key.at_, .int .i64 b.key.src, .int .i64 b.key.sent, .int .i64 b.key.no, .int .i64 b.dst, .int .i64 b.kind, .int .i64 b.data]] w fun e w' => e = .returned (.bool (decide (evLt a b))) ∧ Below w.heap.size w w' := by
  have S := St.init (fun _ => False) w
  go_enter Tryd.func65, Tryd.ntmps65
  go_upto_region 2 with first | ((with_reducible apply wps_buildSlice (T := 131) (E := 3) (cs := #[.int .i64 a.key.at_, .int .i64 a.key.src, .int .i64 a.key.sent, .int .i64 a.key.no, .int .i64 a.dst, .int .i64 a.kind, .int .i64 a.data]) S); (case hr => intro w; kernel_rfl); clear S; intro bz wz S) | ((with_reducible refine tot_done ?ht ?_); (case ht => kernel_rfl)) | ((with_reducible apply wps_text S); (case hm => kernel_rfl); (case hB => decide +kernel); clear S; intro wz S) | ((with_reducible apply wps_boxa S); (case hx => rfl); clear S; intro bz wz S) | ((with_reducible apply wps_box1 (v := .int _ _) S); (case hx | h1 => rfl); clear S; intro bz wz S) | ((with_reducible apply wps_box1 (v := .bool _) S); (case hx | h1 => rfl); clear S; intro bz wz S) | ((with_reducible apply wps_box1 (v := .slice _ _ _) S); (case hx | h1 => rfl); clear S; intro bz wz S) | ((with_reducible apply wps_box1 (v := .pointer _) S); (case hx | h1 => rfl); clear S; intro bz wz S) | ((with_reducible apply wps_box1 (v := .map _) S); (case hx | h1 => rfl); clear S; intro bz wz S) | ((with_reducible apply wps_box1 (v := .string _) S); (case hx | h1 => rfl); clear S; intro bz wz S) | ((with_reducible apply wps_box1 (v := .func _ _ _) S); (case hx | h1 => rfl); clear S; intro bz wz S) | ((with_reducible apply wps_load S 0); (case hx | hi | hu => rfl); (case hT => decide +kernel)) | ((with_reducible apply wps_load S 1); (case hx | hi | hu => rfl); (case hT => decide +kernel))
  replace S := S.weak (i := 0) (A' := Sl true intE 1 (.slice (some ⟨bz, 0, none⟩) 7 7) a.li) rfl (fun e => by cases e) (fun F h => ⟨F, fun _ hb => hb, blk_sl (n := 7) a.li intE_len h rfl rfl⟩)
  simp only [List.set_cons_zero] at S
  obtain ⟨va, hva⟩ : ∃ b, bz = b := ⟨_, rfl⟩
  rw [hva] at S ⊢
  clear hva
  go_upto_region 3 with first | ((with_reducible apply wps_buildSlice (T := 131) (E := 3) (cs := #[.int .i64 b.key.at_, .int .i64 b.key.src, .int .i64 b.key.sent, .int .i64 b.key.no, .int .i64 b.dst, .int .i64 b.kind, .int .i64 b.data]) S); (case hr => intro w; kernel_rfl); clear S; intro bz wz S) | ((with_reducible refine tot_done ?ht ?_); (case ht => kernel_rfl)) | ((with_reducible apply wps_text S); (case hm => kernel_rfl); (case hB => decide +kernel); clear S; intro wz S) | ((with_reducible apply wps_load S 0); (case hx | hi | hu => rfl); (case hT => decide +kernel)) | ((with_reducible apply wps_load S 1); (case hx | hi | hu => rfl); (case hT => decide +kernel))
  replace S := S.weak (i := 0) (A' := Sl true intE 1 (.slice (some ⟨bz, 0, none⟩) 7 7) b.li) rfl (fun e => by cases e) (fun F h => ⟨F, fun _ hb => hb, blk_sl (n := 7) b.li intE_len h rfl rfl⟩)
  simp only [List.set_cons_zero] at S
  replace S := S.pick [0, 1] rfl
  simp only [pick, nth] at S
  have hla : a.li.length = 7 := rfl
  have hlb : b.li.length = 7 := rfl
  have Hla := Lib.hid hla
  have Hlb := Lib.hid hlb
  clear hla hlb
  go_wp2_with first | ((with_reducible refine tot_done ?ht ?_); (case ht => kernel_rfl)) | ((with_reducible apply wps_text S); (case hm => kernel_rfl); (case hB => decide +kernel); clear S; intro wz S) | ((with_reducible apply wps_load S 0); (case hx | hi | hu => rfl); (case hT => decide +kernel))
  go_loopw [7] (fun i wr => AhRel (.slice (some ⟨va, 0, none⟩) 7 7) (.slice (some ⟨bz, 0, none⟩) 7 7) a b w i wr) (fun i _ => 7 - (intOf i).toNat)
  case atStart => exact ⟨0, Nat.zero_le _, rfl, fun q h => by omega, S⟩
  case round =>
    clear S
    obtain ⟨j, hj, rfl, Hz, S⟩ := hrel
    by_cases hlt : j < 7
    · obtain ⟨x, hx⟩ : ∃ x, a.li[j]? = some x := ⟨_, List.getElem?_eq_getElem (by rw [Hla.out]; exact hlt)⟩
      obtain ⟨y, hy⟩ : ∃ y, b.li[j]? = some y := ⟨_, List.getElem?_eq_getElem (by rw [Hlb.out]; exact hlt)⟩
      have hlt2 : (j : Int) < 7 := by omega
      have hl1 : j < a.li.length := by rw [Hla.out]; exact hlt
      by_cases h0 : x = y
      · have f1 : (x != y) = false := by rw [h0]; simp
        have HN : Hid (∀ q, q < j + 1 → a.li[q]? = b.li[q]?) := Lib.hid fun q hq => by
          by_cases e : q = j
          · subst e; rw [hx, hy, h0]
          · exact Hz.out q (by omega)
        clear h0 hl1
        have Hx := Lib.hid hx
        have Hy := Lib.hid hy
        clear hx hy
        go_wp2_with first | ((with_reducible refine tot_done ?ht ?_); (case ht => kernel_rfl)) | ((with_reducible apply wps_load S 0); (case hx | hi | hu => rfl); (case hT => decide +kernel))
        (refine wp_region_w (soft := [0, 1, 2, 3, 4, 5, 6, 7, 8]) S ?hm ?hB ?_); (case hm => kernel_rfl); (case hB => decide +kernel); clear S
        iterate 9
          (with_reducible apply softs_cons)
          (case hw =>
            (with_reducible apply soft_of); (case hi => rfl)
            intro T wz S
            simp only [List.cons_append, List.nil_append] at S
            go_wp2_with first | ((with_reducible apply wps_load_el S 1 (hj := Hx.out) (q := 0) (u := .int .i64 x)); (case hx | hi => rfl); (case hn => omega); (case hu => rfl); (case hT => decide +kernel)) | ((with_reducible apply wps_load_el S 0 (hj := Hy.out) (q := 0) (u := .int .i64 y)); (case hx | hi => rfl); (case hn => omega); (case hu => rfl); (case hT => decide +kernel)) | ((with_reducible refine tot_done ?ht ?_); (case ht => kernel_rfl)) | ((with_reducible apply wps_load S 0); (case hx | hi | hu => rfl); (case hT => decide +kernel))
            exact ⟨rfl, S⟩)
          (case hs => exact ⟨_, rfl, by kernel_rfl⟩)
        refine softs_nil ?_
        (with_reducible apply W_done); (case hn => rfl); (case hr => decide +kernel)
        intro wz S
        simp only [List.append_nil] at S
        go_wp2_with first | ((with_reducible refine tot_done ?ht ?_); (case ht => kernel_rfl)) | ((with_reducible apply wps_text S); (case hm => kernel_rfl); (case hB => decide +kernel); clear S; intro wz S) | ((with_reducible apply wps_load S 0); (case hx | hi | hu => rfl); (case hT => decide +kernel))
        go_roundw
        case rel => exact ⟨j + 1, by omega, by go_num, HN, S⟩
        case measure => simp [intOf]; omega
      · have f1 : (x != y) = true := by simpa using h0
        have HE : Hid (decide (evLt a b) = decide (x < y)) := Lib.hid (evLt_at Hz.out hx hy h0)
        clear h0 hl1
        have Hx := Lib.hid hx
        have Hy := Lib.hid hy
        clear hx hy
        go_wp2_with first | ((with_reducible refine tot_done ?ht ?_); (case ht => kernel_rfl)) | ((with_reducible apply wps_load S 0); (case hx | hi | hu => rfl); (case hT => decide +kernel))
        (refine wp_region_w (soft := [0, 1, 2, 3, 4, 5, 6, 7, 8]) S ?hm ?hB ?_); (case hm => kernel_rfl); (case hB => decide +kernel); clear S
        iterate 9
          (with_reducible apply softs_cons)
          (case hw =>
            (with_reducible apply soft_of); (case hi => rfl)
            intro T wz S
            simp only [List.cons_append, List.nil_append] at S
            go_wp2_with first | ((with_reducible apply wps_load_el S 1 (hj := Hx.out) (q := 0) (u := .int .i64 x)); (case hx | hi => rfl); (case hn => omega); (case hu => rfl); (case hT => decide +kernel)) | ((with_reducible apply wps_load_el S 0 (hj := Hy.out) (q := 0) (u := .int .i64 y)); (case hx | hi => rfl); (case hn => omega); (case hu => rfl); (case hT => decide +kernel)) | ((with_reducible refine tot_done ?ht ?_); (case ht => kernel_rfl)) | ((with_reducible apply wps_load S 0); (case hx | hi | hu => rfl); (case hT => decide +kernel))
            exact ⟨rfl, S⟩)
          (case hs => exact ⟨_, rfl, by kernel_rfl⟩)
        refine softs_nil ?_
        (with_reducible apply W_done); (case hn => rfl); (case hr => decide +kernel)
        intro wz S
        simp only [List.append_nil] at S
        go_wp2_with first | ((with_reducible refine tot_done ?ht ?_); (case ht => kernel_rfl)) | ((with_reducible apply wps_load S 0); (case hx | hi | hu => rfl); (case hT => decide +kernel))
        (refine wp_region_w (soft := [0, 1, 2, 3, 4, 5, 6, 7, 8, 9]) S ?hm ?hB ?_); (case hm => kernel_rfl); (case hB => decide +kernel); clear S
        iterate 10
          (with_reducible apply softs_cons)
          (case hw =>
            (with_reducible apply soft_of); (case hi => rfl)
            intro T wz S
            simp only [List.cons_append, List.nil_append] at S
            go_wp2_with first | ((with_reducible apply wps_load_el S 1 (hj := Hx.out) (q := 0) (u := .int .i64 x)); (case hx | hi => rfl); (case hn => omega); (case hu => rfl); (case hT => decide +kernel)) | ((with_reducible apply wps_load_el S 0 (hj := Hy.out) (q := 0) (u := .int .i64 y)); (case hx | hi => rfl); (case hn => omega); (case hu => rfl); (case hT => decide +kernel)) | ((with_reducible refine tot_done ?ht ?_); (case ht => kernel_rfl)) | ((with_reducible apply wps_load S 0); (case hx | hi | hu => rfl); (case hT => decide +kernel))
            exact ⟨rfl, S⟩)
          (case hs => exact ⟨_, rfl, by kernel_rfl⟩)
        refine softs_nil ?_
        (with_reducible apply W_done); (case hn => rfl); (case hr => decide +kernel)
        intro wz S
        simp only [List.append_nil] at S
        go_wp2_with first | ((with_reducible refine tot_done ?ht ?_); (case ht => kernel_rfl)) | ((with_reducible apply wps_text S); (case hm => kernel_rfl); (case hB => decide +kernel); clear S; intro wz S) | ((with_reducible apply wps_load S 0); (case hx | hi | hu => rfl); (case hT => decide +kernel))
        go_ret
        exact ⟨by rw [HE.out]; rfl, S.below⟩
    · obtain rfl : j = 7 := by omega
      go_wp2_with first | ((with_reducible refine tot_done ?ht ?_); (case ht => kernel_rfl)) | ((with_reducible apply wps_text S); (case hm => kernel_rfl); (case hB => decide +kernel); clear S; intro wz S) | ((with_reducible apply wps_load S 0); (case hx | hi | hu => rfl); (case hT => decide +kernel))
      go_ret
      exact ⟨by rw [evLt_none Hz.out]; rfl, S.below⟩
end Go.Proofs.YtjmecncebdbhdaaDoor
/- The walk of the law's Events (chapter 10). -/
namespace Go.Proofs.YtjmecncebdbhdaaDoor
open Go Go.RowKit Reg Mem

def EvEqRelT (v1 v2 : Value) (xs ys : List Event) (w : World) (i : Value) (wr : World) : Prop :=
  ∃ j : Nat, j ≤ xs.length ∧ i = .int .i64 j ∧ (∀ q : Nat, q < j → xs[q]? = ys[q]?) ∧ St (fun _ => False) w wr [Sl true Event.cells 7 v2 ys, Sl true Event.cells 7 v1 xs]
set_option maxRecDepth 100000 in
set_option maxHeartbeats 4000000 in
theorem evseq_callsT (v1 v2 : Value) (xs ys : List Event) (w : World) (F1 F2 : Nat → Prop) (h1 : (Sl true Event.cells 7 v1 xs).at_ w F1) (h2 : (Sl true Event.cells 7 v2 ys).at_ w F2) (hn : xs.length ≤ 65536) (hn2 : ys.length ≤ 65536) :
    Calls Tryd.prog 10 #[v1, v2] w fun r w' => r = .returned (.bool (decide (xs = ys))) ∧ Below w.heap.size w w' := by
  have S : St (fun _ => False) w w [Sl true Event.cells 7 v2 ys, Sl true Event.cells 7 v1 xs] := ((St.init _ w).share rfl rfl h1).share rfl rfl h2
  obtain ⟨ad2, c2, rfl, _⟩ := (S.sl 0 rfl).elim fun _ h => h.form
  obtain ⟨ad1, c1, rfl, _⟩ := (S.sl 1 rfl).elim fun _ h => h.form
  clear h1 h2
  by_cases hl : xs.length = ys.length
  · have hl2 : (xs.length : Int) = ys.length := by omega
    have HL := Lib.hid hl
    clear hl
    go_enter Tryd.func10, Tryd.ntmps10
    go_wp2_with first | ((with_reducible refine tot_done ?ht ?_); (case ht => kernel_rfl)) | ((with_reducible apply wps_text S); (case hm => kernel_rfl); (case hB => decide +kernel); clear S; intro wz S) | ((with_reducible apply wps_loada (T := 52) (k := 7) S 0); (case hx | hi => rfl); (case hk => exact Nat.le_of_ble_eq_true rfl); (case hT => decide +kernel)) | ((with_reducible apply wps_loada (T := 52) (k := 7) S 1); (case hx | hi => rfl); (case hk => exact Nat.le_of_ble_eq_true rfl); (case hT => decide +kernel)) | ((with_reducible apply wps_loada (T := 52) (k := 7) S 2); (case hx | hi => rfl); (case hk => exact Nat.le_of_ble_eq_true rfl); (case hT => decide +kernel)) | ((with_reducible apply wps_loada (T := 52) (k := 7) S 3); (case hx | hi => rfl); (case hk => exact Nat.le_of_ble_eq_true rfl); (case hT => decide +kernel))
    go_loopw [5] (fun i wr => EvEqRelT (.slice ad1 xs.length c1) (.slice ad2 ys.length c2) xs ys w i wr) (fun i _ => xs.length - (intOf i).toNat)
    case atStart => exact ⟨0, Nat.zero_le _, rfl, fun q h => by omega, S⟩
    case round =>
      clear S
      obtain ⟨j, hj, rfl, he, S⟩ := hrel
      have He := Lib.hid he
      clear he
      by_cases hlt : j < xs.length
      · obtain ⟨x, hx⟩ : ∃ x, xs[j]? = some x := ⟨_, List.getElem?_eq_getElem hlt⟩
        obtain ⟨y, hy⟩ : ∃ y, ys[j]? = some y := ⟨_, List.getElem?_eq_getElem (by have := HL.out; omega)⟩
        obtain ⟨R1, o1, rfl⟩ : ∃ R o, ad1 = some ⟨R, o, none⟩ := (S.sl 1 rfl).elim fun F h => h.head (by omega)
        obtain ⟨R2, o2, rfl⟩ : ∃ R o, ad2 = some ⟨R, o, none⟩ := (S.sl 0 rfl).elim fun F h => h.head (by have := HL.out; omega)
        have hlt2 : (j : Int) < xs.length := by omega
        have hlt3 : (j : Int) < ys.length := by omega
        have hlt4 : j < ys.length := by omega
        by_cases hxy : x = y
        · have HN := Lib.hid ((ev_nceqs x y).trans (show _ = false by simp [hxy]))
          have HXY := Lib.hid hxy
          clear hxy
          have Hx := Lib.hid hx
          have Hy := Lib.hid hy
          clear hx hy
          go_wp2_with first | ((with_reducible apply wps_loada_el S 1 (hj := Hx.out) (q := 0) (vs := [.int .i64 x.key.at_, .int .i64 x.key.src, .int .i64 x.key.sent, .int .i64 x.key.no, .int .i64 x.dst, .int .i64 x.kind, .int .i64 x.data]) (m := 7)); (case hx | hi => rfl); (case hn => omega); (case hm | hv => rfl); (case hT => decide +kernel)) | ((with_reducible apply wps_loada_el S 0 (hj := Hy.out) (q := 0) (vs := [.int .i64 y.key.at_, .int .i64 y.key.src, .int .i64 y.key.sent, .int .i64 y.key.no, .int .i64 y.dst, .int .i64 y.kind, .int .i64 y.data]) (m := 7)); (case hx | hi => rfl); (case hn => omega); (case hm | hv => rfl); (case hT => decide +kernel)) | ((with_reducible apply wpList_neq_agg (t := 52) (ks := [.int .i64, .int .i64, .int .i64, .int .i64, .int .i64, .int .i64, .int .i64]) (b := _)); (case hx | hy => rfl); (case hl | ha | hg => kernel_rfl); (case hfx | hfy => rfl); (case hb => exact HN.out)) | ((with_reducible refine tot_done ?ht ?_); (case ht => kernel_rfl)) | ((with_reducible apply wps_text S); (case hm => kernel_rfl); (case hB => decide +kernel); clear S; intro wz S) | ((with_reducible apply wps_loada (T := 52) (k := 7) S 0); (case hx | hi => rfl); (case hk => exact Nat.le_of_ble_eq_true rfl); (case hT => decide +kernel)) | ((with_reducible apply wps_loada (T := 52) (k := 7) S 1); (case hx | hi => rfl); (case hk => exact Nat.le_of_ble_eq_true rfl); (case hT => decide +kernel)) | ((with_reducible apply wps_loada (T := 52) (k := 7) S 2); (case hx | hi => rfl); (case hk => exact Nat.le_of_ble_eq_true rfl); (case hT => decide +kernel)) | ((with_reducible apply wps_loada (T := 52) (k := 7) S 3); (case hx | hi => rfl); (case hk => exact Nat.le_of_ble_eq_true rfl); (case hT => decide +kernel))
          go_roundw
          case rel =>
            refine ⟨j + 1, by omega, by go_num, fun q hq => ?_, S⟩
            by_cases e : q = j
            · subst e; rw [Hx.out, Hy.out, HXY.out]
            · exact He.out q (by omega)
          case measure => simp [intOf]; omega
        · have HN := Lib.hid ((ev_nceqs x y).trans (show _ = true by simp [hxy]))
          have HXY := Lib.hid hxy
          clear hxy
          have Hx := Lib.hid hx
          have Hy := Lib.hid hy
          clear hx hy
          go_wp2_with first | ((with_reducible apply wps_loada_el S 1 (hj := Hx.out) (q := 0) (vs := [.int .i64 x.key.at_, .int .i64 x.key.src, .int .i64 x.key.sent, .int .i64 x.key.no, .int .i64 x.dst, .int .i64 x.kind, .int .i64 x.data]) (m := 7)); (case hx | hi => rfl); (case hn => omega); (case hm | hv => rfl); (case hT => decide +kernel)) | ((with_reducible apply wps_loada_el S 0 (hj := Hy.out) (q := 0) (vs := [.int .i64 y.key.at_, .int .i64 y.key.src, .int .i64 y.key.sent, .int .i64 y.key.no, .int .i64 y.dst, .int .i64 y.kind, .int .i64 y.data]) (m := 7)); (case hx | hi => rfl); (case hn => omega); (case hm | hv => rfl); (case hT => decide +kernel)) | ((with_reducible apply wpList_neq_agg (t := 52) (ks := [.int .i64, .int .i64, .int .i64, .int .i64, .int .i64, .int .i64, .int .i64]) (b := _)); (case hx | hy => rfl); (case hl | ha | hg => kernel_rfl); (case hfx | hfy => rfl); (case hb => exact HN.out)) | ((with_reducible refine tot_done ?ht ?_); (case ht => kernel_rfl)) | ((with_reducible apply wps_text S); (case hm => kernel_rfl); (case hB => decide +kernel); clear S; intro wz S) | ((with_reducible apply wps_loada (T := 52) (k := 7) S 0); (case hx | hi => rfl); (case hk => exact Nat.le_of_ble_eq_true rfl); (case hT => decide +kernel)) | ((with_reducible apply wps_loada (T := 52) (k := 7) S 1); (case hx | hi => rfl); (case hk => exact Nat.le_of_ble_eq_true rfl); (case hT => decide +kernel)) | ((with_reducible apply wps_loada (T := 52) (k := 7) S 2); (case hx | hi => rfl); (case hk => exact Nat.le_of_ble_eq_true rfl); (case hT => decide +kernel)) | ((with_reducible apply wps_loada (T := 52) (k := 7) S 3); (case hx | hi => rfl); (case hk => exact Nat.le_of_ble_eq_true rfl); (case hT => decide +kernel))
          go_ret
          exact ⟨ret_bool (by symm; rw [decide_eq_false_iff_not]; rintro rfl; rw [Hx.out] at Hy; exact HXY.out (Option.some.inj Hy.out)), S.below⟩
      · obtain rfl : j = xs.length := by omega
        go_wp2_with first | ((with_reducible refine tot_done ?ht ?_); (case ht => kernel_rfl)) | ((with_reducible apply wps_text S); (case hm => kernel_rfl); (case hB => decide +kernel); clear S; intro wz S) | ((with_reducible apply wps_loada (T := 52) (k := 7) S 0); (case hx | hi => rfl); (case hk => exact Nat.le_of_ble_eq_true rfl); (case hT => decide +kernel)) | ((with_reducible apply wps_loada (T := 52) (k := 7) S 1); (case hx | hi => rfl); (case hk => exact Nat.le_of_ble_eq_true rfl); (case hT => decide +kernel)) | ((with_reducible apply wps_loada (T := 52) (k := 7) S 2); (case hx | hi => rfl); (case hk => exact Nat.le_of_ble_eq_true rfl); (case hT => decide +kernel)) | ((with_reducible apply wps_loada (T := 52) (k := 7) S 3); (case hx | hi => rfl); (case hk => exact Nat.le_of_ble_eq_true rfl); (case hT => decide +kernel))
        go_ret
        refine ⟨ret_bool ?_, S.below⟩
        symm
        rw [decide_eq_true_eq]
        refine List.ext_getElem? fun q => ?_
        by_cases hq : q < xs.length
        · exact He.out q hq
        · have := HL.out
          rw [List.getElem?_eq_none (by omega), List.getElem?_eq_none (by omega)]
  · have hl2 : ¬ (xs.length : Int) = ys.length := by omega
    have HL := Lib.hid hl
    clear hl
    go_enter Tryd.func10, Tryd.ntmps10
    go_wp2_with first | ((with_reducible refine tot_done ?ht ?_); (case ht => kernel_rfl)) | ((with_reducible apply wps_text S); (case hm => kernel_rfl); (case hB => decide +kernel); clear S; intro wz S) | ((with_reducible apply wps_loada (T := 52) (k := 7) S 0); (case hx | hi => rfl); (case hk => exact Nat.le_of_ble_eq_true rfl); (case hT => decide +kernel)) | ((with_reducible apply wps_loada (T := 52) (k := 7) S 1); (case hx | hi => rfl); (case hk => exact Nat.le_of_ble_eq_true rfl); (case hT => decide +kernel)) | ((with_reducible apply wps_loada (T := 52) (k := 7) S 2); (case hx | hi => rfl); (case hk => exact Nat.le_of_ble_eq_true rfl); (case hT => decide +kernel)) | ((with_reducible apply wps_loada (T := 52) (k := 7) S 3); (case hx | hi => rfl); (case hk => exact Nat.le_of_ble_eq_true rfl); (case hT => decide +kernel))
    go_ret
    exact ⟨ret_bool (by symm; rw [decide_eq_false_iff_not]; rintro rfl; exact HL.out rfl), S.below⟩
end Go.Proofs.YtjmecncebdbhdaaDoor
/- The walks of the law's Few and ModelEvents. -/
namespace Go.Proofs.YtjmecncebdbhdaaDoor
open Go Go.RowKit Reg Mem

def fewB (c : Cfg) : Bool := c.programs.all (fun p => decide (p.length ≤ 80)) && (decide (c.programs.length ≤ 40) && (decide (c.lps.length ≤ 40) && decide (c.starts.length ≤ 300)))
theorem few_iff {c : Cfg} : fewB c = true ↔ (∀ p ∈ c.programs, p.length ≤ 80) ∧ c.programs.length ≤ 40 ∧ c.lps.length ≤ 40 ∧ c.starts.length ≤ 300 := by
  simp [fewB]
def FewRel (bx : Nat) (cs : Array Value) (vP : Value) (hs : List Value) (ps : List (List Instr)) (w : World) (i : Value) (wr : World) : Prop :=
  ∃ j : Nat, j ≤ ps.length ∧ i = .int .i64 j ∧ Hid (∀ (q : Nat) y, q < j → ps[q]? = some y → y.length ≤ 80) ∧ St (fun _ => False) w wr [Blk false bx cs 26, Sls true Instr.cells 5 hs ps, Sl true vcell 1 vP hs]
set_option maxRecDepth 100000 in
set_option maxHeartbeats 4000000 in
theorem few_calls (vs hs : List Value) (c : Cfg) (w : World) (F : Nat → Prop) (h : (CfgA true vs hs c).at_ w F) (hw : Wide c) : Calls Tryd.prog 20 #[.agg vs.toArray] w fun r w' => r = .returned (.bool (fewB c)) ∧ Below w.heap.size w w' := by
  have S : St (fun _ => False) w w [CfgA true vs hs c] := (St.init _ w).share rfl rfl h
  obtain ⟨aP, cP, aL, cL, aS, cS, rfl, hlen, S⟩ := S.cfg 0 rfl
  replace S := S.pick [0, 1] rfl
  simp only [pick, nth] at S
  clear h
  have hp1 : c.programs.length ≤ 9223372036854775807 := Nat.le_trans hw.p (by decide)
  obtain ⟨ps, ls, ss, fin, fuel, fan⟩ := c
  clear hw
  simp only at *
  go_enter Tryd.func20, Tryd.ntmps20
  go_wp2_with first | go_skip | ((with_reducible refine wpList_skip ?hw ?_); (case hw => with_unfolding_all rfl); simp only [Act.put, List.setIfInBounds_toArray, List.set_cons_succ, List.set_cons_zero]) | ((with_reducible apply wps_boxa S); (case hx => rfl); clear S; intro bx wz S) | ((with_reducible refine tot_done ?ht ?_); (case ht => kernel_rfl)) | ((with_reducible apply wps_boxa S); (case hx => rfl); clear S; intro bz wz S) | ((with_reducible apply wps_box1 (v := .int _ _) S); (case hx | h1 => rfl); clear S; intro bz wz S) | ((with_reducible apply wps_box1 (v := .bool _) S); (case hx | h1 => rfl); clear S; intro bz wz S) | ((with_reducible apply wps_box1 (v := .slice _ _ _) S); (case hx | h1 => rfl); clear S; intro bz wz S) | ((with_reducible apply wps_box1 (v := .pointer _) S); (case hx | h1 => rfl); clear S; intro bz wz S) | ((with_reducible apply wps_box1 (v := .map _) S); (case hx | h1 => rfl); clear S; intro bz wz S) | ((with_reducible apply wps_box1 (v := .string _) S); (case hx | h1 => rfl); clear S; intro bz wz S) | ((with_reducible apply wps_box1 (v := .func _ _ _) S); (case hx | h1 => rfl); clear S; intro bz wz S) | ((with_reducible apply wps_load S 0); (case hx | hi | hu => rfl); (case hT => decide +kernel))
  go_loopw [3] (fun i wr => FewRel bx #[.slice aP ps.length cP, .slice aL ls.length cL, .slice aS ss.length cS, .int .i64 fin, .int .i64 fuel, .int .i64 fan] (.slice aP ps.length cP) hs ps w i wr) (fun i _ => ps.length - (intOf i).toNat)
  case atStart => exact ⟨0, Nat.zero_le _, rfl, fun q y h => by omega, S⟩
  case round =>
    clear S
    obtain ⟨j, hj, rfl, Hz, S⟩ := hrel
    by_cases hlt : j < ps.length
    · obtain ⟨p, hp⟩ : ∃ p, ps[j]? = some p := ⟨_, List.getElem?_eq_getElem hlt⟩
      obtain ⟨v, hv⟩ : ∃ v, hs[j]? = some v := ⟨_, List.getElem?_eq_getElem (by omega)⟩
      obtain ⟨R, o, rfl⟩ : ∃ R o, aP = some ⟨R, o, none⟩ := (S.sl 2 rfl).elim fun F h => h.head (by omega)
      have hlt2 : (j : Int) < ps.length := by omega
      obtain ⟨av, cv, rfl, _⟩ := (S.sls 1 rfl).elim fun F h => (h.2 j v p hv hp).form
      have Hp := Lib.hid hp
      have Hv := Lib.hid hv
      clear hp hv
      by_cases h8 : (80 : Int) < p.length
      · go_wp2_with first | go_skip | ((with_reducible refine wpList_skip ?hw ?_); (case hw => with_unfolding_all rfl); simp only [Act.put, List.setIfInBounds_toArray, List.set_cons_succ, List.set_cons_zero]) | ((with_reducible apply wps_load_el S 2 (hj := Hv.out) (q := 0) (u := (.slice av p.length cv))); (case hx | hi => rfl); (case hn => omega); (case hu => rfl); (case hT => decide +kernel)) | ((with_reducible refine tot_done ?ht ?_); (case ht => kernel_rfl)) | ((with_reducible apply wps_load S 0); (case hx | hi | hu => rfl); (case hT => decide +kernel))
        go_ret
        refine ⟨ret_bool ?_, S.below⟩
        symm
        rw [Bool.eq_false_iff]
        intro h
        have := (few_iff.1 h).1 p (List.mem_of_getElem? Hp.out)
        omega
      · go_wp2_with first | go_skip | ((with_reducible refine wpList_skip ?hw ?_); (case hw => with_unfolding_all rfl); simp only [Act.put, List.setIfInBounds_toArray, List.set_cons_succ, List.set_cons_zero]) | ((with_reducible apply wps_load_el S 2 (hj := Hv.out) (q := 0) (u := (.slice av p.length cv))); (case hx | hi => rfl); (case hn => omega); (case hu => rfl); (case hT => decide +kernel)) | ((with_reducible refine tot_done ?ht ?_); (case ht => kernel_rfl)) | ((with_reducible apply wps_load S 0); (case hx | hi | hu => rfl); (case hT => decide +kernel))
        go_roundw
        case rel => exact ⟨j + 1, by omega, by go_num, snoc_all Hz.out Hp.out (by omega), S⟩
        case measure => first | (simp [intOf]; done) | (simp [intOf]; omega)
    · obtain rfl : j = ps.length := by omega
      have HA : Hid ((ps.all fun p => decide (p.length ≤ 80)) = true) := by
        show _ = _
        rw [List.all_eq_true]; intro p hp; simpa using all_of Hz.out p hp
      by_cases k1 : (ps.length : Int) ≤ 40
      · by_cases k2 : (ls.length : Int) ≤ 40
        · go_wp2_with first | go_skip | ((with_reducible refine wpList_skip ?hw ?_); (case hw => with_unfolding_all rfl); simp only [Act.put, List.setIfInBounds_toArray, List.set_cons_succ, List.set_cons_zero]) | ((with_reducible refine tot_done ?ht ?_); (case ht => kernel_rfl)) | ((with_reducible apply wps_load S 0); (case hx | hi | hu => rfl); (case hT => decide +kernel))
          go_ret
          exact ⟨ret_bool (by simp only [fewB]; rw [HA.out, decide_eq_true (by omega : ps.length ≤ 40), decide_eq_true (by omega : ls.length ≤ 40)]; simp; try omega), S.below⟩
        · go_wp2_with first | go_skip | ((with_reducible refine wpList_skip ?hw ?_); (case hw => with_unfolding_all rfl); simp only [Act.put, List.setIfInBounds_toArray, List.set_cons_succ, List.set_cons_zero]) | ((with_reducible refine tot_done ?ht ?_); (case ht => kernel_rfl)) | ((with_reducible apply wps_load S 0); (case hx | hi | hu => rfl); (case hT => decide +kernel))
          go_ret
          exact ⟨ret_bool (by simp only [fewB]; rw [HA.out, decide_eq_false (by omega : ¬ ls.length ≤ 40)]; simp), S.below⟩
      · go_wp2_with first | go_skip | ((with_reducible refine wpList_skip ?hw ?_); (case hw => with_unfolding_all rfl); simp only [Act.put, List.setIfInBounds_toArray, List.set_cons_succ, List.set_cons_zero]) | ((with_reducible refine tot_done ?ht ?_); (case ht => kernel_rfl)) | ((with_reducible apply wps_load S 0); (case hx | hi | hu => rfl); (case hT => decide +kernel))
        go_ret
        exact ⟨ret_bool (by simp only [fewB]; rw [decide_eq_false (by omega : ¬ ps.length ≤ 40)]; simp), S.below⟩
end Go.Proofs.YtjmecncebdbhdaaDoor
/- Plain: the events that are there at first, in order. No program in sight. -/
namespace Go.Proofs.YtjmecncebdbhdaaDoor
open Go Go.RowKit Mem

def evsOf (c : Cfg) : List Event := sortE (startsFrom 0 c.starts)
/-- A configuration that may be. -/
structure CfgOk (c : Cfg) : Prop where
  sizes : sizesOk c
  starts : c.starts.length ≤ 256
  progs : ∀ p ∈ c.programs, codeE p = 0
  lps : ∀ p ∈ c.lps, 0 ≤ p.program ∧ p.program < c.programs.length
  dst : ∀ s ∈ c.starts, 0 ≤ s.dst ∧ s.dst < c.lps.length
  at_ : ∀ s ∈ c.starts, 0 ≤ s.at_ ∧ s.at_ ≤ c.fin
end Go.Proofs.YtjmecncebdbhdaaDoor
/- 's = append(s, e)' where the bytes are bounded. Over any program. -/
namespace Go.Proofs.YtjmecncebdbhdaaDoor.Mem
open Go Go.RowKit Reg
section
variable {P : Program} {ops : Array Oper} {rest : List Oper} {a : Act} {Q : Exit → Act → World → Prop} {d : Option Tmp} {tt : TypeId} {p : String} {af : Array Edge} {gd : Option (Nat × Bool)} {x y : Operand}
variable {G : Nat → Prop} {w0 w : World} {L : List Asn}
theorem wps_append1B {α : Type} {sh : Bool} {T E E' : TypeId} {enc : α → List Value} {k bytes b : Nat} {cs : Array Value} {v : Value} {xs : List α} (el : Elem P T E k bytes) (hk : ∀ x, (enc x).length = k) (hone : ∀ x, ∀ u ∈ enc x, u.oneCell' = true) (hb1 : 1 ≤ bytes)
    (S : St G w0 w L) (i : Nat) (hi : L[i]? = some (Own E enc k v xs)) (j : Nat) (hj : L[j]? = some (Blk sh b cs E')) (e : α) (hx : a.eval x = v) (hy : a.eval y = .slice (some ⟨b, 0, none⟩) 1 1) (he : enc e = cs.toList) (hl : (xs.length + 1) * bytes ≤ 140737488355328)
    (next : ∀ ad n c w', Hid (n = xs.length + 1) → St G w0 w' (L.set i (Own E enc k (.slice ad n c) (xs ++ [e]))) → wpList P ops Q rest (a.put d (.slice ad n c)) w') (hgd : gOk gd ops a = true := by with_unfolding_all rfl) :
    wpList P ops Q ({ dst := d, op := .call { callee := .builtin .append, args := #[x, y], argTypes := #[T, T] }, type := tt, pos := p, after := af, guard := gd } :: rest) a w := by
  have h2 : xs.length + 1 ≤ (xs.length + 1) * bytes := Nat.le_mul_of_pos_right _ hb1
  exact wps_append (hgd := hgd) el hk hone S i hi (blk_rd [e] 1 (S.blk j hj) (by simpa [flatE] using he) rfl) (by simp [maxLen]; omega) (by simp; omega) hx hy fun v' w' S' => by
    have hl' : i < L.length := (List.getElem?_eq_some_iff.1 hi).1
    obtain ⟨F, h⟩ := S'.get (i := i) (List.getElem?_set_self hl')
    obtain ⟨ad, c, rfl⟩ := h.1.form
    exact next _ _ _ _ (by simp [Hid]) S'
end
end Go.Proofs.YtjmecncebdbhdaaDoor.Mem
/- The walks of boomeranglaw05.Plain and the law's same. -/
namespace Go.Proofs.YtjmecncebdbhdaaDoor
open Go Go.RowKit Reg Mem

set_option maxRecDepth 100000 in
theorem elem_RIn : Elem Tryd.prog 102 138 5 40 := ⟨_, .agg #[.int .i64 0, .int .i64 0, .int .i64 0, .int .i64 0, .int .i64 0], Tryd.underlying102, rfl, by kernel_rfl, by kernel_rfl, by kernel_rfl, by kernel_rfl, by omega⟩
def PlRel (v out : Value) (p : List Instr) (w : World) (i : Value) (wr : World) : Prop :=
  ∃ j : Nat, j ≤ p.length ∧ i = .int .i64 j ∧ St (fun _ => False) w wr [Own 138 Instr.cells 5 out (p.take j), Sl true Instr.cells 5 v p]
/-- What Plain leaves. -/
def PlainPost (p : List Instr) (w : World) (e : Ending) (w' : World) : Prop :=
  ∃ ad c, e = .returned (.slice ad p.length c) ∧ St (fun _ => False) w w' [Own 138 Instr.cells 5 (.slice ad p.length c) p]
set_option maxRecDepth 100000 in
set_option maxHeartbeats 4000000 in
theorem lplain_calls (v : Value) (p : List Instr) (w : World) (F : Nat → Prop) (h : (Sl true Instr.cells 5 v p).at_ w F) (hn : p.length * 40 ≤ 140737488351232) : Calls Tryd.prog 43 #[v] w (PlainPost p w) := by
  have S : St (fun _ => False) w w [Sl true Instr.cells 5 v p] := (St.init _ w).share rfl rfl h
  obtain ⟨ad, cp, rfl, _⟩ := (S.sl 0 rfl).elim fun _ h => h.form
  clear h
  replace S := S.nil 138 Instr.cells 5
  go_enter Tryd.func43, Tryd.ntmps43
  go_wp2_with first | ((with_reducible refine tot_done ?ht ?_); (case ht => kernel_rfl)) | ((with_reducible apply wps_text S); (case hm => kernel_rfl); (case hB => decide +kernel); clear S; intro wz S) | ((with_reducible apply wps_load S 0); (case hx | hi | hu => rfl); (case hT => decide +kernel))
  go_loopw [3, 4] (fun out i wr => PlRel (.slice ad p.length cp) out p w i wr) (fun _ i _ => p.length - (intOf i).toNat)
  case atStart => exact ⟨0, Nat.zero_le _, rfl, S⟩
  case round =>
    clear S
    obtain ⟨j, hj, rfl, S⟩ := hrel
    obtain ⟨F0, hF0⟩ := S.get (i := 0) rfl
    obtain ⟨ad0, c0, rfl⟩ := hF0.1.form
    clear hF0
    by_cases hlt : j < p.length
    · obtain ⟨x, hx⟩ : ∃ x, p[j]? = some x := ⟨_, List.getElem?_eq_getElem hlt⟩
      obtain ⟨R, o, rfl⟩ : ∃ R o, ad = some ⟨R, o, none⟩ := (S.sl 1 rfl).elim fun F h => h.head (by omega)
      have hlt2 : (j : Int) < p.length := by omega
      have HT : Hid (p.take (j + 1) = p.take j ++ [x]) := by show _ = _; rw [List.take_add_one, hx]; rfl
      have htl : ((p.take j).length + 1) * 40 ≤ 140737488355328 := by rw [List.length_take, Nat.min_eq_left hj]; omega
      have hlj : (p.take j).length = j := by simp; omega
      rw [hlj] at S
      rw [hlj]
      have Hx := Lib.hid hx
      have Hlj := Lib.hid hlj
      clear hx hlj
      go_wp2_with first | ((with_reducible refine tot_done ?ht ?_); (case ht => kernel_rfl)) | ((with_reducible apply wps_load S 0); (case hx | hi | hu => rfl); (case hT => decide +kernel))
      replace S := S.pick [1, 0] rfl
      simp only [pick, nth] at S
      (refine wp_region_wt (soft := [0, 1, 2, 3, 4, 5, 6, 7, 8, 9, 10, 11, 12, 13, 14, 15, 16, 17, 18, 19, 20, 21, 22, 23, 24, 25, 26]) (L := [_]) (T := [_]) S ?hm ?hB ?_); (case hm => kernel_rfl); (case hB => decide +kernel); clear S
      iterate 27
        (with_reducible apply softs_cons)
        (case hw =>
          (with_reducible apply soft_of); (case hi => rfl)
          intro T wz S
          simp only [List.cons_append, List.nil_append] at S
          go_wp2_with first | ((with_reducible apply wps_load_el S 0 (hj := Hx.out) (q := 0) (u := .int .i64 x.op)); (case hx | hi => rfl); (case hn => omega); (case hu => rfl); (case hT => decide +kernel)) | ((with_reducible apply wps_load_el S 0 (hj := Hx.out) (q := 1) (u := .int .i64 x.a)); (case hx | hi => rfl); (case hn => omega); (case hu => rfl); (case hT => decide +kernel)) | ((with_reducible apply wps_load_el S 0 (hj := Hx.out) (q := 2) (u := .int .i64 x.b)); (case hx | hi => rfl); (case hn => omega); (case hu => rfl); (case hT => decide +kernel)) | ((with_reducible apply wps_load_el S 0 (hj := Hx.out) (q := 3) (u := .int .i64 x.c)); (case hx | hi => rfl); (case hn => omega); (case hu => rfl); (case hT => decide +kernel)) | ((with_reducible apply wps_load_el S 0 (hj := Hx.out) (q := 4) (u := .int .i64 x.d)); (case hx | hi => rfl); (case hn => omega); (case hu => rfl); (case hT => decide +kernel)) | ((with_reducible refine tot_done ?ht ?_); (case ht => kernel_rfl)) | ((with_reducible apply wps_load S 0); (case hx | hi | hu => rfl); (case hT => decide +kernel))
          exact ⟨rfl, S⟩)
        (case hs => exact ⟨_, rfl, by kernel_rfl⟩)
      refine softs_nil ?_
      (with_reducible apply W_hard1 (i := 27)); (case hn => rfl); (case hr => decide +kernel)
      intro wz S
      (with_reducible apply hard_of); (case hi => rfl)
      simp only [List.cons_append, List.nil_append] at S
      go_wp2_with first | ((with_reducible refine tot_done ?ht ?_); (case ht => kernel_rfl)) | ((with_reducible apply wps_build1a (T := 102) (E := 138) S); (case hx => rfl); (case hr => intro w; kernel_rfl); clear S; intro bz wz S)
      refine ⟨_, S.pick [1, 2, 0] rfl, ?_⟩
      (with_reducible apply W_hard1 (i := 28)); (case hn => rfl); (case hr => decide +kernel)
      clear S
      intro wz S
      (with_reducible apply hard_of); (case hi => rfl)
      simp only [List.cons_append, List.nil_append] at S
      try simp only [pick, nth] at S
      (with_reducible apply wps_append1B elem_RIn incells inone (by decide) S 1 (j := 2) (e := x))
      (case hi => rfl)
      (case hj => rfl)
      (case he => rfl)
      (case hl => first | omega | (simp; omega))
      (case hx => rfl)
      (case hy => rfl)
      clear S
      intro az nz cz wz hnz S
      simp only [List.set_cons_succ, List.set_cons_zero] at S
      go_wp2_with first | ((with_reducible refine tot_done ?ht ?_); (case ht => kernel_rfl))
      refine ⟨_, S, ?_⟩
      (with_reducible apply W_hard1 (i := 29)); (case hn => rfl); (case hr => decide +kernel)
      clear S
      intro wz S
      (with_reducible apply hard_of); (case hi => rfl)
      go_wp2_with first | ((with_reducible refine tot_done ?ht ?_); (case ht => kernel_rfl))
      refine ⟨_, S, ?_⟩
      (with_reducible apply W_done); (case hn => rfl); (case hr => decide +kernel)
      clear S
      intro wz S
      simp only [List.cons_append, List.nil_append] at S
      try simp only [pick, nth] at S
      go_wp2_with first | ((with_reducible refine tot_done ?ht ?_); (case ht => kernel_rfl)) | ((with_reducible apply wps_text S); (case hm => kernel_rfl); (case hB => decide +kernel); clear S; intro wz S) | ((with_reducible apply wps_load S 0); (case hx | hi | hu => rfl); (case hT => decide +kernel))
      go_roundw
      case rel => exact ⟨j + 1, by omega, by go_num, by rw [HT.out]; exact S.pick [1, 0] rfl⟩
      case measure => first | (simp [intOf]; done) | (simp [intOf]; omega)
    · obtain rfl : j = p.length := by omega
      rw [List.take_length] at S
      rw [List.take_length]
      go_wp2_with first | ((with_reducible refine tot_done ?ht ?_); (case ht => kernel_rfl)) | ((with_reducible apply wps_text S); (case hm => kernel_rfl); (case hB => decide +kernel); clear S; intro wz S) | ((with_reducible apply wps_load S 0); (case hx | hi | hu => rfl); (case hT => decide +kernel))
      go_ret
      exact ⟨_, _, rfl, S.pick [0] rfl⟩
end Go.Proofs.YtjmecncebdbhdaaDoor
/- Slices that are owned and written, of which only their room is known; and several owned slices at once. Over any program. -/
namespace Go.Proofs.YtjmecncebdbhdaaDoor.Mem
open Go Go.RowKit Reg

/-- Each of these has its room in blocks of its own. -/
def RoomAt (k : Nat) (w : World) (F : Nat → Prop) (vs : List Value) : Prop :=
  ∀ (i : Nat) v, vs[i]? = some v → ∃ ad n c, v = .slice ad n c ∧ (0 < n → ∃ R cs t, ad = some ⟨R, 0, none⟩ ∧ F R ∧ w.heap[R]? = some (.cells cs t (0, 0)) ∧ n * k ≤ cs.size)
def Room (k : Nat) (vs : List Value) : Asn where
  sh := false
  at_ w F := RoomAt k w F vs ∧ ∀ b, F b → b < w.heap.size
  loc h hb := ⟨fun i v hi => by
    obtain ⟨ad, n, c, e, h2⟩ := h.1 i v hi
    refine ⟨ad, n, c, e, fun h0 => ?_⟩
    obtain ⟨R, cs, t, e1, h3, h4, h5⟩ := h2 h0
    exact ⟨R, cs, t, e1, h3, (hb R h3).trans h4, h5⟩, lt_loc h.2 hb⟩
  lt h := h.2
/-- Several slices that are owned. -/
def Ows {α : Type} (E : TypeId) (enc : α → List Value) (k : Nat) (vs : List Value) (xss : List (List α)) : Asn where
  sh := false
  at_ w F := (vs.length = xss.length ∧ ∀ (i : Nat) v xs, vs[i]? = some v → xss[i]? = some xs → ∃ Fi, (Own E enc k v xs).at_ w Fi ∧ ∀ b, Fi b → F b) ∧ ∀ b, F b → b < w.heap.size
  loc h hb := ⟨⟨h.1.1, fun i v xs hv hx => by
    obtain ⟨Fi, h1, h2⟩ := h.1.2 i v xs hv hx
    exact ⟨Fi, (Own _ _ _ v xs).loc h1 (fun b hb' => hb b (h2 b hb')), h2⟩⟩, lt_loc h.2 hb⟩
  lt h := h.2
section
variable {α : Type} {E : TypeId} {enc : α → List Value} {k : Nat} {G : Nat → Prop} {w0 w : World} {L : List Asn}
theorem St.owsNil (S : St G w0 w L) (E : TypeId) (enc : α → List Value) (k : Nat) : St G w0 w (Ows E enc k [] ([] : List (List α)) :: L) :=
  S.grow (F := fun _ => False) (Keep.refl _ _) ⟨⟨rfl, fun i v xs h => by simp at h⟩, fun _ h => h.elim⟩ (fun _ h => h.elim)
theorem St.owsSnoc {vs : List Value} {xss : List (List α)} {v : Value} {xs : List α} (S : St G w0 w (Own E enc k v xs :: Ows E enc k vs xss :: L)) : St G w0 w (Ows E enc k (vs ++ [v]) (xss ++ [xs]) :: L) :=
  S.merge _ rfl rfl rfl fun F F' h h' => by
    refine ⟨⟨by simp [h'.1.1], fun j u ys hu hy => ?_⟩, fun b hb => hb.elim ((Own E enc k v xs).lt h b) (h'.2 b)⟩
    by_cases hj : j < vs.length
    · rw [List.getElem?_append_left hj] at hu
      rw [List.getElem?_append_left (by rw [← h'.1.1]; exact hj)] at hy
      obtain ⟨Fi, h1, h2⟩ := h'.1.2 j u ys hu hy
      exact ⟨Fi, h1, fun b hb => .inr (h2 b hb)⟩
    · have hjl := (List.getElem?_eq_some_iff.1 hu).1
      simp at hjl
      obtain rfl : j = vs.length := by omega
      rw [List.getElem?_append_right (Nat.le_refl _)] at hu
      rw [List.getElem?_append_right (by rw [h'.1.1]; exact Nat.le_refl _)] at hy
      simp [h'.1.1] at hu hy
      subst hu; subst hy
      exact ⟨F, h, fun b hb => .inl hb⟩
theorem ows_sls (hk : ∀ x, (enc x).length = k) {vs : List Value} {xss : List (List α)} {F : Nat → Prop} (h : (Ows E enc k vs xss).at_ w F) : (Sls true enc k vs xss).at_ w F :=
  ⟨⟨h.1.1, fun i v xs hv hx => let ⟨_, h1, h2⟩ := h.1.2 i v xs hv hx; (own_sl (sh := true) hk h1).1.mono h2⟩, h.2⟩
variable {P : Program} {ops : Array Oper} {rest : List Oper} {a : Act} {Q : Exit → Act → World → Prop} {d : Option Tmp} {tt : TypeId} {p : String} {af : Array Edge} {gd : Option (Nat × Bool)} {x y : Operand}
end
end Go.Proofs.YtjmecncebdbhdaaDoor.Mem
/- Heads of slices as data; what 'few' gives. -/
namespace Go.Proofs.YtjmecncebdbhdaaDoor
open Go Go.RowKit Reg Mem

theorem few_midK {c : Cfg} (h : fewB c = true) : Mid c := by
  have := few_iff.1 h; exact ⟨by omega, by omega, by omega⟩
theorem few_midK2 {c : Cfg} (h : fewB c = true) : ∀ p ∈ c.programs, p.length ≤ 65536 := fun p hp => by
  have := (few_iff.1 h).1 p hp; omega
/-- A slice's head. -/
structure Hd where
  ad : Option Addr
  n : Nat
  c : Nat
def Hd.val (h : Hd) : Value := .slice h.ad h.n h.c
def hcell (h : Hd) : List Value := [.slice h.ad h.n h.c]
theorem hcells : ∀ h : Hd, (hcell h).length = 1 := fun _ => rfl
theorem hone : ∀ h : Hd, ∀ u ∈ hcell h, u.oneCell' = true := fun _ => by simp [hcell, Value.oneCell']
theorem slat_map {α β : Type} {enc : α → List Value} {enc' : β → List Value} {k : Nat} {w : World} {F : Nat → Prop} {v : Value} {xs : List α} (f : α → β) (hf : ∀ x, enc' (f x) = enc x) (h : SlAt enc k w F v xs) : SlAt enc' k w F v (xs.map f) := by
  obtain ⟨a, c, e, h1, h2, h3⟩ := h
  refine ⟨a, c, by simpa using e, by simpa using h1, h2, fun i y hi => ?_⟩
  rw [List.getElem?_map] at hi
  cases hx : xs[i]? with
  | none => rw [hx] at hi; cases hi
  | some x =>
    rw [hx] at hi; simp at hi; subst hi
    obtain ⟨R, o, e1, hR, hc⟩ := h3 i x hx
    exact ⟨R, o, e1, hR, fun j u hj => hc j u (by rw [← hf]; exact hj)⟩
end Go.Proofs.YtjmecncebdbhdaaDoor
