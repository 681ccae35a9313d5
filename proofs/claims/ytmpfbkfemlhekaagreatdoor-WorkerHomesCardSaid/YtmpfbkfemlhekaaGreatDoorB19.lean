import Derived.Test.YtmpfbkfemlhekaaGreatDoorB18
import Derived.Test.YtmpfbkfemlhekaaGreatDoorB13
/- The walks of a worker's LPs, of a process's Next and Events. -/
namespace Go.Proofs.YtmpfbkfemlhekaaGreatDoor
open Go Go.RowKit Reg Mem

theorem workerR_st {W R : Nat} {k : WkE} {w : World} {F : Nat → Prop} (h : (workerA W R k).at_ w F) :
    ∃ (g M : Nat) (qs : List LpAt) (es : Array MapEntry) (clock : Nat), qs.map LpAt.e = k.ps ∧ Tells Tryz.prog 3 intE es clock (qs.map LpAt.kv) ∧ St (fun _ => False) w w [Blk true W #[.pointer (some ⟨g, 0, none⟩), .map (some M)] 95, MapE true M es clock] := by
  obtain ⟨⟨g, M, qs⟩, F1, F2, ⟨h1, _⟩, ⟨F3, F4, h3, ⟨F5, F6, h5, ⟨F7, F8, ⟨⟨es, clock, h7, h8⟩, h9⟩, _, _, _⟩, _, _⟩, _, _⟩, _, _⟩ := h
  refine ⟨g, M, qs, es, clock, h1, h8, ?_⟩
  have S1 : St (fun _ => False) w w [MapE true M es clock] := (St.init _ w).share (F := F7) rfl rfl ⟨h7, h9⟩
  exact S1.share (A := Blk true W #[.pointer (some ⟨g, 0, none⟩), .map (some M)] 95) rfl rfl h3
set_option maxRecDepth 100000 in
set_option maxHeartbeats 8000000 in
theorem wlps_calls (W R : Nat) (k : WkE) (hn : k.ps.length ≤ 65536) (w : World) (F : Nat → Prop) (h : (workerA W R k).at_ w F) : Calls Tryz.prog 12 #[.pointer (some ⟨W, 0, none⟩)] w (SortedPost (sortZ (k.ps.map (·.1))) w) := by
  obtain ⟨g, M, qs, es, clock, hq, ht, S⟩ := workerR_st h
  have HS := Lib.hid fun b w F F2 h1 h2 => sorted_calls b M es clock _ ht (by rw [List.length_map, ← List.length_map (f := LpAt.e), hq]; exact hn) w F F2 h1 h2
  have e1 : (qs.map LpAt.kv).map (·.1) = k.ps.map (·.1) := by rw [← hq, List.map_map, List.map_map]; rfl
  rw [e1] at HS
  clear h ht hq e1
  go_enter Tryz.func12, Tryz.ntmps12
  go_wp2_with first | ((with_reducible apply wps_load S 0); (case hx | hi | hu => rfl); (case hT => decide +kernel)) | (go_at_call 40; (with_reducible refine Calls.mono (mkeys_calls M _) ?_); rintro rr wz ⟨b, rfl, T⟩; replace S := S.join T rfl; clear T; simp only [List.cons_append, List.nil_append] at S; replace S := S.weak (i := 0) (A' := Blk true b #[.map (some M)] 93) rfl (fun e => by cases e) (fun F h => ⟨F, fun _ hb => hb, h⟩); simp only [List.set_cons_zero] at S) | (go_at_call 39; (with_reducible refine Calls.mono (HS.out _ _ _ _ (S.get (i := 0) rfl).choose_spec (S.get (i := 2) rfl).choose_spec) ?_); rintro rr wz ⟨ad, c, rfl, T⟩; replace S := S.join T rfl; clear T; simp only [List.cons_append, List.nil_append] at S) | ((with_reducible refine tot_done ?ht ?_); (case ht => kernel_rfl)) | ((with_reducible apply wps_load S 0); (case hx | hi | hu => rfl); (case hT => decide +kernel))
  go_ret
  exact ⟨ad, c, rfl, S.pick [0] rfl⟩
set_option maxRecDepth 100000 in
theorem rhome_calls (a b : Int) (ha : -9223372036854775808 ≤ a) (ha2 : a ≤ 9223372036854775807) (w : World) : Calls Tryz.prog 7 #[.int .i64 a, .int .i64 b] w fun e w' => e = .returned (.int .i64 (homeOf a b)) ∧ Below w.heap.size w w' := by
  have S := St.init (fun _ => False) w
  by_cases h1 : b < 1
  · have e : homeOf a b = 0 := by unfold homeOf; rw [if_pos (.inl h1)]
    rw [e]
    have f1 : decide (b < 1) = true := decide_eq_true h1
    clear h1 e
    go_enter Tryz.func7, Tryz.ntmps7
    go_wp2_with first | go_skip | ((with_reducible refine wpList_skip ?hw ?_); (case hw => with_unfolding_all rfl); simp only [Act.put, List.setIfInBounds_toArray, List.set_cons_succ, List.set_cons_zero]) | ((with_reducible refine tot_done ?ht ?_); (case ht => kernel_rfl))
    go_ret
    exact ⟨rfl, S.below⟩
  · have f1 : decide (b < 1) = false := decide_eq_false h1
    by_cases h2 : a < 0
    · have e : homeOf a b = 0 := by unfold homeOf; rw [if_pos (.inr h2)]
      rw [e]
      have f2 : decide (a < 0) = true := decide_eq_true h2
      clear h1 h2 e
      go_enter Tryz.func7, Tryz.ntmps7
      go_wp2_with first | go_skip | ((with_reducible refine wpList_skip ?hw ?_); (case hw => with_unfolding_all rfl); simp only [Act.put, List.setIfInBounds_toArray, List.set_cons_succ, List.set_cons_zero]) | ((with_reducible refine tot_done ?ht ?_); (case ht => kernel_rfl))
      go_ret
      exact ⟨rfl, S.below⟩
    · have f2 : decide (a < 0) = false := decide_eq_false h2
      have e : homeOf a b = a % b := by unfold homeOf; rw [if_neg (by omega)]
      rw [e]
      have hb0 : b ≠ 0 := by omega
      have h3 : 1 ≤ b := by omega
      have h4 : a / b * b = a - a % b := by have := Int.emod_add_mul_ediv a b; rw [Int.mul_comm] at this; omega
      have h5 : 0 ≤ a % b := Int.emod_nonneg _ hb0
      have h6 : a % b ≤ a := by
        have := Int.ediv_nonneg (a := a) (b := b) (by omega) (by omega)
        have h7 : 0 ≤ a / b * b := Int.mul_nonneg this (by omega)
        omega
      have HV : Hid (wrap64 (a - wrap64 (a / b * b)) = a % b) := Lib.hid (by
        rw [h4]
        generalize a % b = m at *
        unfold wrap64
        omega)
      clear h1 e h4 h5 h6
      go_enter Tryz.func7, Tryz.ntmps7
      go_wp2_with first | go_skip | ((with_reducible refine wpList_skip ?hw ?_); (case hw => with_unfolding_all rfl); simp only [Act.put, List.setIfInBounds_toArray, List.set_cons_succ, List.set_cons_zero]) | ((with_reducible refine tot_done ?ht ?_); (case ht => kernel_rfl))
      go_ret
      exact ⟨ret_int HV.out, S.below⟩
set_option maxRecDepth 100000 in
theorem vals_calls (v : Value) (h1 : v.oneCell' = true) (w : World) : Calls Tryz.prog 133 #[v] w fun e w' => ∃ b, e = .returned (.func (.func 194) #[] #[.pointer (some ⟨b, 0, none⟩)]) ∧ St (fun _ => False) w w' [Blk false b #[v] 66] := by
  have S := St.init (fun _ => False) w
  go_enter Tryz.func133, Tryz.ntmps133
  go_wp2_with first | ((with_reducible apply wps_box1 (E := 66) (v := v) S); (case hx => rfl); (case h1 => exact h1); clear S; intro b1 wz S) | ((with_reducible refine tot_done ?ht ?_); (case ht => kernel_rfl)) | ((with_reducible apply wps_boxa S); (case hx => rfl); clear S; intro bz wz S) | ((with_reducible apply wps_box1 (v := .int _ _) S); (case hx | h1 => rfl); clear S; intro bz wz S) | ((with_reducible apply wps_box1 (v := .bool _) S); (case hx | h1 => rfl); clear S; intro bz wz S) | ((with_reducible apply wps_box1 (v := .slice _ _ _) S); (case hx | h1 => rfl); clear S; intro bz wz S) | ((with_reducible apply wps_box1 (v := .pointer _) S); (case hx | h1 => rfl); clear S; intro bz wz S) | ((with_reducible apply wps_box1 (v := .map _) S); (case hx | h1 => rfl); clear S; intro bz wz S) | ((with_reducible apply wps_box1 (v := .string _) S); (case hx | h1 => rfl); clear S; intro bz wz S) | ((with_reducible apply wps_box1 (v := .func _ _ _) S); (case hx | h1 => rfl); clear S; intro bz wz S)
  go_ret
  exact ⟨_, rfl, S⟩
def MadeE (x : Event) (args : Array Value) (N : List Asn) : Prop := args = #[.agg #[.int .i64 x.key.at_, .int .i64 x.key.src, .int .i64 x.key.sent, .int .i64 x.key.no, .int .i64 x.dst, .int .i64 x.kind, .int .i64 x.data]] ∧ N = []
def VsRel (b : Nat) (v : Value) (l : List Event) (G : Nat → Prop) (w0 : World) (Φ : Nat → List Asn → Prop) (i : Value) (wr : World) : Prop :=
  ∃ (k : Nat) (L : List Asn), k ≤ l.length ∧ i = .int .i64 k ∧ Φ k L ∧ St G w0 wr (Blk true b #[v] 66 :: Sl true Event.cells 7 v l :: L)
set_option maxRecDepth 100000 in
set_option maxHeartbeats 8000000 in
theorem vals1_iter (b : Nat) (v : Value) (l : List Event) (hn : l.length ≤ 65536) : IterC Tryz.prog 194 #[.pointer (some ⟨b, 0, none⟩)] [Blk true b #[v] 66, Sl true Event.cells 7 v l] l MadeE := by
  intro y G w0 W Φ Ψ L hY h0 S
  simp only [List.cons_append, List.nil_append] at S
  show Calls Tryz.prog 194 #[.func (.yield y) #[] #[], .pointer (some ⟨b, 0, none⟩)] W _
  obtain ⟨ad, c, rfl, _⟩ := (S.sl 1 rfl).elim fun _ h => h.form
  have HY := Lib.hid hY
  clear hY
  go_enter Tryz.func194, Tryz.ntmps194
  go_wp2_with first | ((with_reducible refine tot_done ?ht ?_); (case ht => kernel_rfl)) | ((with_reducible apply wps_alloca (E := 48) S); (case hz => exact Tryz.zeroValue48); clear S; intro bz wz S) | ((with_reducible apply wps_load S 0); (case hx | hi | hu => rfl); (case hT => decide +kernel)) | ((with_reducible apply wps_loada (T := 48) (k := 7) S 0); (case hx | hi => rfl); (case hk => exact Nat.le_of_ble_eq_true rfl); (case hT => decide +kernel))
  go_loopw [7] (fun i wr => VsRel b (.slice ad l.length c) l G w0 Φ i wr) (fun i _ => l.length - (intOf i).toNat)
  case atStart => exact ⟨0, L, Nat.zero_le _, rfl, h0, S⟩
  case round =>
    clear S h0
    obtain ⟨k, L, hk, rfl, hΦ, S⟩ := hrel
    by_cases hlt : k < l.length
    · obtain ⟨x, hx⟩ : ∃ x, l[k]? = some x := ⟨_, List.getElem?_eq_getElem hlt⟩
      obtain ⟨R, o, rfl⟩ : ∃ R o, ad = some ⟨R, o, none⟩ := (S.sl 1 rfl).elim fun F h => h.head (by omega)
      have hlt2 : (k : Int) < l.length := by omega
      have Hx := Lib.hid hx
      have HΦ := Lib.hid hΦ
      clear hx hΦ
      go_upto_region 3 with first | ((with_reducible apply wps_loada_el S 1 (hj := Hx.out) (q := 0) (vs := [.int .i64 x.key.at_, .int .i64 x.key.src, .int .i64 x.key.sent, .int .i64 x.key.no, .int .i64 x.dst, .int .i64 x.kind, .int .i64 x.data]) (m := 7)); (case hx | hi => rfl); (case hn => omega); (case hm | hv => rfl); (case hT => decide +kernel)) | ((with_reducible apply wps_alloca (E := 48) S); (case hz => exact Tryz.zeroValue48); clear S; intro b4 wz S) | ((with_reducible apply wps_storea (T := 48) S 0 (vs := [.int .i64 x.key.at_, .int .i64 x.key.src, .int .i64 x.key.sent, .int .i64 x.key.no, .int .i64 x.dst, .int .i64 x.kind, .int .i64 x.data]) (m := 7)); (case hx | hy | hi | hm | h1 => rfl); (case hn => exact Nat.le_of_ble_eq_true rfl); (case hT => decide +kernel); clear S; intro wz S; simp only [List.set_cons_zero, List.set_cons_succ, setAll, List.setIfInBounds_toArray] at S) | ((with_reducible refine tot_done ?ht ?_); (case ht => kernel_rfl)) | ((with_reducible apply wps_alloca (E := 48) S); (case hz => exact Tryz.zeroValue48); clear S; intro bz wz S) | ((with_reducible apply wps_load S 0); (case hx | hi | hu => rfl); (case hT => decide +kernel)) | ((with_reducible apply wps_loada (T := 48) (k := 7) S 0); (case hx | hi => rfl); (case hk => exact Nat.le_of_ble_eq_true rfl); (case hT => decide +kernel))
      refine wp_region_yl 2 rfl rfl rfl fun K hK => ?_
      simp only [List.take_succ_cons, List.take_zero]
      simp only [List.drop_succ_cons, List.drop_zero] at hK
      go_wp2_with first | ((with_reducible apply wps_loada (T := 48) (k := 7) S 0); (case hx | hi => rfl); (case hk => exact Nat.le_of_ble_eq_true rfl); (case hT => decide +kernel)) | ((with_reducible refine tot_done ?ht ?_); (case ht => kernel_rfl)) | ((with_reducible apply wps_alloca (E := 48) S); (case hz => exact Tryz.zeroValue48); clear S; intro bz wz S) | ((with_reducible apply wps_load S 0); (case hx | hi | hu => rfl); (case hT => decide +kernel)) | ((with_reducible apply wps_loada (T := 48) (k := 7) S 0); (case hx | hi => rfl); (case hk => exact Nat.le_of_ble_eq_true rfl); (case hT => decide +kernel))
      refine hK _ _ ?_
      clear hK K
      (try simp only [Act.put]); (try simp only [List.setIfInBounds_toArray]); (try simp only [List.set_cons_succ]); (try simp only [List.set_cons_zero])
      refine yield_in (l := y) rfl rfl rfl rfl rfl (HY.out k x _ [] L _ Hx.out ⟨rfl, rfl⟩ HΦ.out (St.tail S)) ?_
      rintro e w' ⟨L', S, (⟨rfl, hΦ'⟩ | ⟨rfl, hΨ⟩)⟩
      · refine ⟨_, rfl, ?_⟩
        refine list_only rfl fun K hK => ?_
        go_wp2_with first | ((with_reducible refine tot_done ?ht ?_); (case ht => kernel_rfl)) | ((with_reducible apply wps_alloca (E := 48) S); (case hz => exact Tryz.zeroValue48); clear S; intro bz wz S) | ((with_reducible apply wps_load S 0); (case hx | hi | hu => rfl); (case hT => decide +kernel)) | ((with_reducible apply wps_loada (T := 48) (k := 7) S 0); (case hx | hi => rfl); (case hk => exact Nat.le_of_ble_eq_true rfl); (case hT => decide +kernel))
        refine hK _ _ ?_
        clear hK K
        have HΦ' := Lib.hid hΦ'
        clear hΦ'
        go_wp2_with first | ((with_reducible refine tot_done ?ht ?_); (case ht => kernel_rfl)) | ((with_reducible apply wps_alloca (E := 48) S); (case hz => exact Tryz.zeroValue48); clear S; intro bz wz S) | ((with_reducible apply wps_load S 0); (case hx | hi | hu => rfl); (case hT => decide +kernel)) | ((with_reducible apply wps_loada (T := 48) (k := 7) S 0); (case hx | hi => rfl); (case hk => exact Nat.le_of_ble_eq_true rfl); (case hT => decide +kernel))
        go_roundw
        case rel => exact ⟨k + 1, L', by omega, by go_num, HΦ'.out, S⟩
        case measure => first | (simp [intOf]; done) | (simp [intOf]; omega)
      · refine ⟨_, rfl, ?_⟩
        refine list_only rfl fun K hK => ?_
        go_wp2_with first | ((with_reducible refine tot_done ?ht ?_); (case ht => kernel_rfl)) | ((with_reducible apply wps_alloca (E := 48) S); (case hz => exact Tryz.zeroValue48); clear S; intro bz wz S) | ((with_reducible apply wps_load S 0); (case hx | hi | hu => rfl); (case hT => decide +kernel)) | ((with_reducible apply wps_loada (T := 48) (k := 7) S 0); (case hx | hi => rfl); (case hk => exact Nat.le_of_ble_eq_true rfl); (case hT => decide +kernel))
        refine hK _ _ ?_
        clear hK K
        have HΨ := Lib.hid hΨ
        clear hΨ
        go_wp2_with first | ((with_reducible refine tot_done ?ht ?_); (case ht => kernel_rfl)) | ((with_reducible apply wps_alloca (E := 48) S); (case hz => exact Tryz.zeroValue48); clear S; intro bz wz S) | ((with_reducible apply wps_load S 0); (case hx | hi | hu => rfl); (case hT => decide +kernel)) | ((with_reducible apply wps_loada (T := 48) (k := 7) S 0); (case hx | hi => rfl); (case hk => exact Nat.le_of_ble_eq_true rfl); (case hT => decide +kernel))
        (try simp only [Exit.inBlock, Exit.then]); refine bodyPost_ret (results_none rfl _ _ _) rfl ?_
        exact ⟨⟨_, rfl⟩, L', S, .inr ⟨k + 1, by omega, HΨ.out⟩⟩
    · obtain rfl : k = l.length := by omega
      have HΦ := Lib.hid hΦ
      clear hΦ
      go_wp2_with first | ((with_reducible refine tot_done ?ht ?_); (case ht => kernel_rfl)) | ((with_reducible apply wps_alloca (E := 48) S); (case hz => exact Tryz.zeroValue48); clear S; intro bz wz S) | ((with_reducible apply wps_load S 0); (case hx | hi | hu => rfl); (case hT => decide +kernel)) | ((with_reducible apply wps_loada (T := 48) (k := 7) S 0); (case hx | hi => rfl); (case hk => exact Nat.le_of_ble_eq_true rfl); (case hT => decide +kernel))
      go_end0
      exact ⟨⟨_, rfl⟩, L, S, .inl HΦ.out⟩
end Go.Proofs.YtmpfbkfemlhekaaGreatDoor
/- The walks of a process's Next and Events. -/
namespace Go.Proofs.YtmpfbkfemlhekaaGreatDoor
open Go Go.RowKit Reg Mem

def nextAt (after : Int) (l : List Event) : Option Int := (l.find? fun x => decide (x.key.at_ > after)).map fun x => x.key.at_
theorem nextAt_some {after : Int} : ∀ {l : List Event} {j : Nat} {x : Event}, (∀ (q : Nat) y, q < j → l[q]? = some y → ¬ y.key.at_ > after) → l[j]? = some x → x.key.at_ > after → nextAt after l = some x.key.at_
  | [], j, x, _, hx, _ => by simp at hx
  | a :: l, 0, x, _, hx, hg => by simp at hx; subst hx; simp [nextAt, hg]
  | a :: l, j + 1, x, h, hx, hg => by
    have ha := h 0 a (by omega) rfl
    have := nextAt_some (l := l) (j := j) (fun q y hq hy => h (q + 1) y (by omega) (by simpa using hy)) (by simpa using hx) hg
    unfold nextAt at *
    rw [List.find?_cons_of_neg (by simpa using ha)]
    exact this
theorem nextAt_none {after : Int} {l : List Event} (h : ∀ (q : Nat) y, q < l.length → l[q]? = some y → ¬ y.key.at_ > after) : nextAt after l = none := by
  unfold nextAt
  rw [List.find?_eq_none.2]
  · rfl
  · intro x hx
    obtain ⟨q, hq, e⟩ := List.mem_iff_getElem.1 hx
    have := h q x hq (by rw [List.getElem?_eq_getElem hq, e])
    simpa using this
theorem wpIn_seq_nK {F : Fence} {n : Nat} {P : Program} {Q : Exit → Act → World → Prop} {x y : Code} {a : Act} {w : World} (h : ∀ K : Act → World → Prop, (∀ a w, y.wpIn F n P Q a w → K a w) → x.wpIn F n P (Exit.then K Q) a w) : (Code.seq x y).wpIn F n P Q a w := wpIn_seq_k h
def lpBT (X Q T Y R : Nat) (p : LpE) : Asn := Blk true X #[.pointer (some ⟨Q, 0, none⟩), .iface 114 (.agg #[.pointer (some ⟨R, 0, none⟩)]), .int .i64 p.id, .int .i64 p.every, .bool p.lazy, .pointer (some ⟨T, 0, none⟩), .pointer (some ⟨Y, 0, none⟩), .int .i64 p.now, .int .i64 p.st.n0, .int .i64 p.st.n1, .int .i64 p.st.n2, .int .i64 p.st.n3, .int .i64 p.since, .int .i64 p.freed, .int .i64 p.steps, .int .i64 p.coasted] 175
theorem lpR_st {X R : Nat} {p : LpE} {w : World} {F : Nat → Prop} (h : (lpA X R p).at_ w F) :
    ∃ Q T Y v1 v2 v3 v4, St (fun _ => False) w w [lpBT X Q T Y R p, Blk true Q #[v1, v2] 229, Sl true Event.cells 7 v1 p.evs, Sl true Event.cells 7 v2 p.ans, Blk true T #[v3] 232, Sl true rccell 8 v3 p.recs, Blk true Y #[v4] 239, Sl true svcell 5 v4 p.svs] := by
  obtain ⟨⟨Q, T, Y⟩, F1, F2, h1, ⟨F3, F4, ⟨⟨v1, v2⟩, _, _, g1, ⟨_, _, g2, g3, _, _⟩, _, _⟩, ⟨F5, F6, ⟨v3, _, _, k1, k2, _, _⟩, ⟨v4, _, _, r1, r2, _, _⟩, _, _⟩, _, _⟩, _, _⟩ := h
  refine ⟨Q, T, Y, v1, v2, v3, v4, ?_⟩
  have S1 : St (fun _ => False) w w [Sl true svcell 5 v4 p.svs] := (St.init _ w).share rfl rfl (own_sl (sh := true) svcells r2)
  have S2 := S1.share (A := Blk true Y #[v4] 239) rfl rfl r1
  have S3 := S2.share (A := Sl true rccell 8 v3 p.recs) rfl rfl (own_sl (sh := true) rccells k2)
  have S4 := S3.share (A := Blk true T #[v3] 232) rfl rfl k1
  have S5 := S4.share (A := Sl true Event.cells 7 v2 p.ans) rfl rfl (own_sl (sh := true) ecells g3)
  have S6 := S5.share (A := Sl true Event.cells 7 v1 p.evs) rfl rfl (own_sl (sh := true) ecells g2)
  have S7 := S6.share (A := Blk true Q #[v1, v2] 229) rfl rfl g1
  exact S7.share (A := lpBT X Q T Y R p) rfl rfl h1
set_option maxRecDepth 100000 in
theorem qeach_calls (X : Nat) (v1 v2 : Value) (l : List Event) (w : World) (F F2 : Nat → Prop) (h1 : (Blk true X #[v1, v2] 229).at_ w F) (h2 : (Sl true Event.cells 7 v1 l).at_ w F2) :
    Calls Tryz.prog 132 #[.pointer (some ⟨X, 0, none⟩)] w fun e w' => ∃ b, e = .returned (.func (.func 194) #[] #[.pointer (some ⟨b, 0, none⟩)]) ∧ St (fun _ => False) w w' [Blk false b #[v1] 66] := by
  have S : St (fun _ => False) w w [Blk true X #[v1, v2] 229] := (St.init _ w).share rfl rfl h1
  have ho : v1.oneCell' = true := by obtain ⟨a, c, rfl, _⟩ := h2.1; rfl
  clear h1 h2
  go_enter Tryz.func132, Tryz.ntmps132
  go_wp2_with first | ((with_reducible apply wps_load S 0); (case hx | hi | hu => rfl); (case hT => decide +kernel)) | (go_at_call 133; (with_reducible refine Calls.mono (vals_calls v1 ho _) ?_); rintro rr wz ⟨b, rfl, T⟩; replace S := S.join T rfl; clear T; simp only [List.cons_append, List.nil_append] at S) | ((with_reducible refine tot_done ?ht ?_); (case ht => kernel_rfl)) | ((with_reducible apply wps_load S 0); (case hx | hi | hu => rfl); (case hT => decide +kernel))
  go_ret
  exact ⟨_, rfl, S.pick [0] rfl⟩
def QnPhi (b3 b4 b5 X : Nat) (v1 v2 : Value) (after : Int) (l : List Event) (j : Nat) (L : List Asn) : Prop :=
  Hid (∀ (q : Nat) y, q < j → l[q]? = some y → ¬ y.key.at_ > after) ∧ L = [Blk false b5 #[.bool false] 4, Blk false b4 #[.int .i64 0] 3, Blk false b3 #[.int .i64 after] 3, Blk true X #[v1, v2] 229]
def QnPsi (b4 b5 : Nat) (after : Int) (l : List Event) (c : Code) (j : Nat) (L : List Asn) : Prop :=
  ∃ t : Int, Hid (nextAt after l = some t) ∧ c = .ret ∧ ∃ L', L = Blk false b5 #[.bool true] 4 :: Blk false b4 #[.int .i64 t] 3 :: L'
def optV (o : Option Int) : Value := .tuple #[.int .i64 (o.getD 0), .bool o.isSome]
set_option maxRecDepth 100000 in
set_option maxHeartbeats 8000000 in
theorem qnext_calls (X : Nat) (v1 v2 : Value) (l : List Event) (hn : l.length ≤ 65536) (after : Int) (w : World) (F F2 : Nat → Prop) (h1 : (Blk true X #[v1, v2] 229).at_ w F) (h2 : (Sl true Event.cells 7 v1 l).at_ w F2) :
    Calls Tryz.prog 79 #[.pointer (some ⟨X, 0, none⟩), .int .i64 after] w fun e w' => e = .returned (optV (nextAt after l)) ∧ Below w.heap.size w w' := by
  have S : St (fun _ => False) w w [Blk true X #[v1, v2] 229, Sl true Event.cells 7 v1 l] := ((St.init _ w).share (A := Sl true Event.cells 7 v1 l) rfl rfl h2).share (A := Blk true X #[v1, v2] 229) rfl rfl h1
  clear h1 h2
  refine calls_marks Tryz.func79 rfl ?_
  simp only [Tryz.ntmps79, List.size_toArray, List.length_cons, List.length_nil, Nat.reduceAdd, Nat.reduceSub, Array.replicate_succ, Array.replicate_zero, List.push_toArray, List.append_toArray, List.nil_append, List.cons_append]
  go_wp2_with first | ((with_reducible apply wps_box1 (E := 3) (v := .int .i64 after) S); (case hx | h1 => rfl); clear S; intro b3 wz S) | ((with_reducible apply wps_alloc1 (E := 3) S); (case hz => exact Tryz.zeroValue3); (case h1 => rfl); clear S; intro b4 wz S) | ((with_reducible apply wps_alloc1 (E := 4) S); (case hz => exact Tryz.zeroValue4); (case h1 => rfl); clear S; intro b5 wz S) | (go_at_call 132; (with_reducible refine Calls.mono (qeach_calls X v1 v2 l _ _ _ (S.get (i := 3) rfl).choose_spec (S.get (i := 4) rfl).choose_spec) ?_); rintro rr wz ⟨bt, rfl, T⟩; replace S := S.join T rfl; clear T; simp only [List.cons_append, List.nil_append] at S) | ((with_reducible refine tot_done ?ht ?_); (case ht => kernel_rfl)) | ((with_reducible apply wps_load S 0); (case hx | hi | hu => rfl); (case hT => decide +kernel))
  replace S := S.weak (i := 0) (A' := Blk true bt #[v1] 66) rfl (fun e => by cases e) (fun F h => ⟨F, fun _ hb => hb, h⟩)
  simp only [List.set_cons_zero] at S
  replace S := S.pick [0, 5, 1, 2, 3, 4] rfl
  simp only [pick, nth] at S
  refine wps_range (vals1_iter bt v1 l hn) S rfl (calls_enter Tryz.func194 (by kernel_rfl) rfl) (QnPhi b3 b4 b5 X v1 v2 after l) (QnPsi b4 b5 after l) ⟨Lib.hid (fun q y h => by omega), rfl⟩ (fun x args N h => by obtain ⟨rfl, _⟩ := h; rfl) ?round ?done ?stop
  case stop =>
    rintro D c j W L hj ⟨t, HT, rfl, L', rfl⟩ S
    simp only [List.cons_append, List.nil_append] at S
    go_wp2_with fail
    refine leaves_ret1 S rfl fun w' S => ⟨_, results2 rfl (S.res1 3 rfl rfl (by decide +kernel)) (S.res1 2 rfl rfl (by decide +kernel)), ?_, S.below⟩
    rw [HT.out]; rfl
  case round =>
    rintro lp D r j x args N L W hx ⟨rfl, rfl⟩ ⟨HJ, rfl⟩ S
    simp only [zip_one9K, List.setIfInBounds_toArray, List.set_cons_succ, List.set_cons_zero, List.cons_append, List.nil_append] at S ⊢
    by_cases hgt : x.key.at_ > after
    · have HT : Hid (nextAt after l = some x.key.at_) := Lib.hid (nextAt_some HJ.out hx hgt)
      have f1 : decide (x.key.at_ > after) = true := decide_eq_true hgt
      clear hgt hx
      gi_wp2_with first
        | (refine wpi_at (.inr ⟨_, rfl⟩) rfl fun K hK => ?_
           go_wp2_with first | ((with_reducible refine tot_done ?ht ?_); (case ht => kernel_rfl)) | ((with_reducible apply wps_alloca (E := 48) S); (case hz => exact Tryz.zeroValue48); clear S; intro b6 wz S) | ((with_reducible apply wps_storea (T := 48) S 0 (vs := [.int .i64 x.key.at_, .int .i64 x.key.src, .int .i64 x.key.sent, .int .i64 x.key.no, .int .i64 x.dst, .int .i64 x.kind, .int .i64 x.data]) (m := 7)); (case hx | hy | hi | hm | h1 => rfl); (case hn => exact Nat.le_of_ble_eq_true rfl); (case hT => decide +kernel); clear S; intro wz S; simp only [List.set_cons_zero, List.set_cons_succ, setAll, List.setIfInBounds_toArray] at S)
           refine hK _ _ ?_
           (try simp only [Act.put]); (try simp only [List.setIfInBounds_toArray]); (try simp only [List.set_cons_succ]); (try simp only [List.set_cons_zero])
           clear hK K)
      refine ⟨_, S.lastSplit rfl, fun r' W2 S => ?_⟩
      simp only [List.dropLast, List.cons_append, List.nil_append] at S
      refine wpIn_block (wpIn_seq_nK fun K hK => wpi_list_k (.inr ⟨_, rfl⟩) rfl fun K2 hK2 => ?_)
      go_wp2_with first | ((with_reducible apply wps_load S 0); (case hx | hi | hu => rfl); (case hT => decide +kernel)) | ((with_reducible apply wps_load S 5); (case hx | hi | hu => rfl); (case hT => decide +kernel))
      refine hK2 _ _ (hK _ _ ?_)
      clear hK hK2 K K2
      refine wpIn_cond_true (by first | rfl | (simp [Act.eval, f1]; done)) (wpIn_seq_nK fun K hK => wpi_list_k (.inr ⟨_, rfl⟩) rfl fun K2 hK2 => ?_)
      go_wp2_with first | ((with_reducible apply wps_load S 0); (case hx | hi | hu => rfl); (case hT => decide +kernel)) | ((with_reducible apply wps_store (u := (.int .i64 x.key.at_)) S 4); (case hx | hy | hi | h1 => rfl); (case hn => exact Nat.le_of_ble_eq_true rfl); (case hT => decide +kernel); clear S; intro wz S; simp only [List.set_cons_succ, List.set_cons_zero, List.setIfInBounds_toArray] at S) | ((with_reducible apply wps_store (u := (.bool true)) S 3); (case hx | hy | hi | h1 => rfl); (case hn => exact Nat.le_of_ble_eq_true rfl); (case hT => decide +kernel); clear S; intro wz S; simp only [List.set_cons_succ, List.set_cons_zero, List.setIfInBounds_toArray] at S)
      refine hK2 _ _ (hK _ _ (wpIn_ret ?_))
      clear hK hK2 K K2
      exact ⟨_, ⟨x.key.at_, HT, rfl, [Blk false b3 #[.int .i64 after] 3, Blk true X #[v1, v2] 229], rfl⟩, S.pick [1, 2, 3, 4, 5, 6, 7] rfl⟩
    · have HJ2 : Hid (∀ (q : Nat) y, q < j + 1 → l[q]? = some y → ¬ y.key.at_ > after) := Lib.hid fun q y hq hy => by
        rcases Nat.lt_or_eq_of_le (Nat.le_of_lt_succ hq) with h | rfl
        · exact HJ.out q y h hy
        · rw [hx] at hy; cases hy; exact hgt
      have f1 : decide (x.key.at_ > after) = false := decide_eq_false hgt
      clear hgt hx
      gi_wp2_with first
        | (refine wpi_at (.inr ⟨_, rfl⟩) rfl fun K hK => ?_
           go_wp2_with first | ((with_reducible refine tot_done ?ht ?_); (case ht => kernel_rfl)) | ((with_reducible apply wps_alloca (E := 48) S); (case hz => exact Tryz.zeroValue48); clear S; intro b6 wz S) | ((with_reducible apply wps_storea (T := 48) S 0 (vs := [.int .i64 x.key.at_, .int .i64 x.key.src, .int .i64 x.key.sent, .int .i64 x.key.no, .int .i64 x.dst, .int .i64 x.kind, .int .i64 x.data]) (m := 7)); (case hx | hy | hi | hm | h1 => rfl); (case hn => exact Nat.le_of_ble_eq_true rfl); (case hT => decide +kernel); clear S; intro wz S; simp only [List.set_cons_zero, List.set_cons_succ, setAll, List.setIfInBounds_toArray] at S)
           refine hK _ _ ?_
           (try simp only [Act.put]); (try simp only [List.setIfInBounds_toArray]); (try simp only [List.set_cons_succ]); (try simp only [List.set_cons_zero])
           clear hK K)
      refine ⟨_, S.lastSplit rfl, fun r' W2 S => ?_⟩
      simp only [List.dropLast, List.cons_append, List.nil_append] at S
      refine wpIn_block (wpIn_seq_nK fun K hK => wpi_list_k (.inr ⟨_, rfl⟩) rfl fun K2 hK2 => ?_)
      go_wp2_with first | ((with_reducible apply wps_load S 0); (case hx | hi | hu => rfl); (case hT => decide +kernel)) | ((with_reducible apply wps_load S 5); (case hx | hi | hu => rfl); (case hT => decide +kernel))
      refine hK2 _ _ (hK _ _ ?_)
      clear hK hK2 K K2
      refine wpIn_cond_false (by first | rfl | (simp [Act.eval, f1]; done)) (wpIn_skip ?_)
      exact ⟨_, ⟨Lib.hid (fun q y h1 h2 => by have := HJ2.out q y h1 h2; omega), rfl⟩, S.pick [1, 2, 3, 4, 5, 6, 7] rfl⟩
  case done =>
    rintro D W L ⟨HJ, rfl⟩ S
    simp only [List.cons_append, List.nil_append] at S
    have HT : Hid (nextAt after l = none) := Lib.hid (nextAt_none HJ.out)
    go_wp2_with first | ((with_reducible apply wps_store (u := (.int .i64 0)) S 4); (case hx | hy | hi | h1 => rfl); (case hn => exact Nat.le_of_ble_eq_true rfl); (case hT => decide +kernel); clear S; intro wz S; simp only [List.set_cons_succ, List.set_cons_zero, List.setIfInBounds_toArray] at S) | ((with_reducible apply wps_store (u := (.bool false)) S 3); (case hx | hy | hi | h1 => rfl); (case hn => exact Nat.le_of_ble_eq_true rfl); (case hT => decide +kernel); clear S; intro wz S; simp only [List.set_cons_succ, List.set_cons_zero, List.setIfInBounds_toArray] at S)
    refine leaves_ret1 S rfl fun w' S => ⟨_, results2 rfl (S.res1 3 rfl rfl (by decide +kernel)) (S.res1 2 rfl rfl (by decide +kernel)), ?_, S.below⟩
    rw [HT.out]; rfl
end Go.Proofs.YtmpfbkfemlhekaaGreatDoor
/- The walks of a process's Next and Events. -/
namespace Go.Proofs.YtmpfbkfemlhekaaGreatDoor
open Go Go.RowKit Reg Mem

def lpNext (p : LpE) : Option Int := nextAt p.now p.evs
set_option maxRecDepth 100000 in
set_option maxHeartbeats 4000000 in
theorem lpnext_calls (X R : Nat) (p : LpE) (hn : p.evs.length ≤ 65536) (w : World) (F : Nat → Prop) (h : (lpA X R p).at_ w F) :
    Calls Tryz.prog 41 #[.pointer (some ⟨X, 0, none⟩)] w fun e w' => e = .returned (optV (lpNext p)) ∧ Below w.heap.size w w' := by
  obtain ⟨Q, T, Y, v1, v2, v3, v4, S⟩ := lpR_st h
  clear h
  unfold lpNext
  obtain ⟨o, ho⟩ : ∃ o, nextAt p.now p.evs = o := ⟨_, rfl⟩
  have HQ : Hid (∀ (w : World) (F F2 : Nat → Prop) (h1 : (Blk true Q #[v1, v2] 229).at_ w F) (h2 : (Sl true Event.cells 7 v1 p.evs).at_ w F2), Calls Tryz.prog 79 #[.pointer (some ⟨Q, 0, none⟩), .int .i64 p.now] w fun e w' => e = .returned (optV o) ∧ Below w.heap.size w w') :=
    Lib.hid fun w F F2 h1 h2 => by rw [← ho]; exact qnext_calls Q v1 v2 p.evs hn p.now w F F2 h1 h2
  rw [ho]
  clear ho hn
  unfold lpBT at S
  unfold optV
  unfold optV at HQ
  go_enter Tryz.func41, Tryz.ntmps41
  go_wp2_with first | ((with_reducible apply wps_load S 0); (case hx | hi | hu => rfl); (case hT => decide +kernel)) | (go_at_call 79; refine Calls.mono (HQ.out _ _ _ (S.get (i := 1) rfl).choose_spec (S.get (i := 2) rfl).choose_spec) ?_; rintro e wz ⟨rfl, hE⟩; replace S := S.ext (Keep.of_below hE); clear hE) | ((with_reducible refine tot_done ?ht ?_); (case ht => kernel_rfl)) | ((with_reducible apply wps_text S); (case hm => kernel_rfl); (case hB => decide +kernel); clear S; intro wz S) | ((with_reducible apply wps_load S 0); (case hx | hi | hu => rfl); (case hT => decide +kernel))
  (try simp only [Exit.inBlock, Exit.then]); refine bodyPost_ret (results2 rfl (res_tmp rfl) (res_tmp rfl)) rfl ?_
  exact ⟨rfl, S.below⟩
def ValsPost (l : List Event) (w : World) (e : Ending) (w' : World) : Prop :=
  ∃ b v, e = .returned (.func (.func 194) #[] #[.pointer (some ⟨b, 0, none⟩)]) ∧ St (fun _ => False) w w' [Blk false b #[v] 66, Mem.Own 48 Event.cells 7 v l]
set_option maxRecDepth 100000 in
set_option maxHeartbeats 4000000 in
theorem qclone_calls (X : Nat) (v1 v2 : Value) (l : List Event) (hn : l.length ≤ 65536) (w : World) (F F2 : Nat → Prop) (h1 : (Blk true X #[v1, v2] 229).at_ w F) (h2 : (Sl true Event.cells 7 v1 l).at_ w F2) :
    Calls Tryz.prog 134 #[.pointer (some ⟨X, 0, none⟩)] w fun e w' => ∃ v, e = .returned v ∧ v.oneCell' = true ∧ St (fun _ => False) w w' [Mem.Own 48 Event.cells 7 v l] := by
  have S : St (fun _ => False) w w [Blk true X #[v1, v2] 229, Sl true Event.cells 7 v1 l] := ((St.init _ w).share (A := Sl true Event.cells 7 v1 l) rfl rfl h2).share (A := Blk true X #[v1, v2] 229) rfl rfl h1
  obtain ⟨ad, c, rfl, _⟩ := (S.sl 1 rfl).elim fun _ h => h.form
  clear h1 h2
  go_enter Tryz.func134, Tryz.ntmps134
  go_wp2_with first | ((with_reducible apply wps_load S 0); (case hx | hi | hu => rfl); (case hT => decide +kernel)) | (go_at_call 121; (with_reducible refine Calls.mono (clone_Ev _ _ (S.get (i := 1) rfl).choose_spec (by omega)) ?_); rintro rr wz ⟨ad2, c2, rfl, -, T⟩; replace S := S.join T rfl; clear T; simp only [List.cons_append, List.nil_append] at S) | ((with_reducible refine tot_done ?ht ?_); (case ht => kernel_rfl)) | ((with_reducible apply wps_load S 0); (case hx | hi | hu => rfl); (case hT => decide +kernel))
  go_ret
  exact ⟨_, rfl, rfl, S.pick [0] rfl⟩
set_option maxRecDepth 100000 in
set_option maxHeartbeats 4000000 in
theorem qall_calls (X : Nat) (v1 v2 : Value) (l : List Event) (hn : l.length ≤ 65536) (w : World) (F F2 : Nat → Prop) (h1 : (Blk true X #[v1, v2] 229).at_ w F) (h2 : (Sl true Event.cells 7 v1 l).at_ w F2) :
    Calls Tryz.prog 81 #[.pointer (some ⟨X, 0, none⟩)] w (ValsPost l w) := by
  have S : St (fun _ => False) w w [Blk true X #[v1, v2] 229, Sl true Event.cells 7 v1 l] := ((St.init _ w).share (A := Sl true Event.cells 7 v1 l) rfl rfl h2).share (A := Blk true X #[v1, v2] 229) rfl rfl h1
  clear h1 h2
  go_enter Tryz.func81, Tryz.ntmps81
  go_wp2_with first | (go_at_call 134; (with_reducible refine Calls.mono (qclone_calls X v1 v2 l hn _ _ _ (S.get (i := 0) rfl).choose_spec (S.get (i := 1) rfl).choose_spec) ?_); rintro rr wz ⟨v, rfl, hv, T⟩; have HV := Lib.hid hv; clear hv; replace S := S.join T rfl; clear T; simp only [List.cons_append, List.nil_append] at S) | (go_at_call 133; (with_reducible refine Calls.mono (vals_calls v HV.out _) ?_); rintro rr wz ⟨b, rfl, T⟩; replace S := S.join T rfl; clear T; simp only [List.cons_append, List.nil_append] at S) | ((with_reducible refine tot_done ?ht ?_); (case ht => kernel_rfl))
  go_ret
  exact ⟨b, v, rfl, S.pick [0, 1] rfl⟩
set_option maxRecDepth 100000 in
set_option maxHeartbeats 4000000 in
theorem lpevents_calls (X R : Nat) (p : LpE) (hn : p.evs.length ≤ 65536) (w : World) (F : Nat → Prop) (h : (lpA X R p).at_ w F) :
    Calls Tryz.prog 42 #[.pointer (some ⟨X, 0, none⟩)] w (ValsPost p.evs w) := by
  obtain ⟨Q, T, Y, v1, v2, v3, v4, S⟩ := lpR_st h
  clear h
  unfold lpBT at S
  go_enter Tryz.func42, Tryz.ntmps42
  go_wp2_with first | ((with_reducible apply wps_load S 0); (case hx | hi | hu => rfl); (case hT => decide +kernel)) | (go_at_call 81; (with_reducible refine Calls.mono (qall_calls Q v1 v2 p.evs hn _ _ _ (S.get (i := 1) rfl).choose_spec (S.get (i := 2) rfl).choose_spec) ?_); rintro rr wz ⟨b, v, rfl, T⟩; replace S := S.join T rfl; clear T; simp only [List.cons_append, List.nil_append] at S) | ((with_reducible refine tot_done ?ht ?_); (case ht => kernel_rfl)) | ((with_reducible apply wps_load S 0); (case hx | hi | hu => rfl); (case hT => decide +kernel))
  go_ret
  exact ⟨b, v, rfl, S.pick [0, 1] rfl⟩
end Go.Proofs.YtmpfbkfemlhekaaGreatDoor
