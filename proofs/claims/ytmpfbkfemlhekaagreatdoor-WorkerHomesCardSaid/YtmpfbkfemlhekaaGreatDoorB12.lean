import Derived.Test.YtmpfbkfemlhekaaGreatDoorB11
import Derived.Deep.Cut
/- The walk of slices.SortStableFunc's merge: the third case, and all. -/
namespace Go.Proofs.YtmpfbkfemlhekaaGreatDoor
open Go Go.RowKit Reg Mem

def SymBelow (n : Nat) : Prop := ∀ (R c N a m b : Nat) (p l r q : List TE) (w : World) (F : Nat → Prop), (Own 48 tcells 7 (.slice (some ⟨R, 0, none⟩) N c) (p ++ l ++ r ++ q)).at_ w F →
    N = (p ++ l ++ r ++ q).length → a = p.length → m = a + l.length → b = m + r.length → 0 < l.length → 0 < r.length → Srt l → Srt r → (∀ x ∈ l, ∀ y ∈ r, x.2 < y.2) → N ≤ 65536 → l.length + r.length < n →
    Calls Tryz.prog 215 #[.slice (some ⟨R, 0, none⟩) N c, .int .i64 a, .int .i64 m, .int .i64 b, .func (.func 123) #[] #[]] w (SymPost F R c N p l r q w)
set_option maxRecDepth 100000 in
set_option maxHeartbeats 8000000 in
theorem sym3_calls (n : Nat) (IH : SymBelow n) (R c N a m b : Nat) (p l r q : List TE) (w : World) (F : Nat → Prop) (h : (Own 48 tcells 7 (.slice (some ⟨R, 0, none⟩) N c) (p ++ l ++ r ++ q)).at_ w F)
    (hN : N = (p ++ l ++ r ++ q).length) (ha : a = p.length) (hm : m = a + l.length) (hb : b = m + r.length) (hl0 : 1 < l.length) (hr0 : 1 < r.length) (hl : Srt l) (hr : Srt r) (ht : ∀ x ∈ l, ∀ y ∈ r, x.2 < y.2) (hn : N ≤ 65536) (hlr : l.length + r.length ≤ n) :
    Calls Tryz.prog 215 #[.slice (some ⟨R, 0, none⟩) N c, .int .i64 a, .int .i64 m, .int .i64 b, .func (.func 123) #[] #[]] w (SymPost F R c N p l r q w) := by
  have S := St.one w h
  have hP : Parts p l r q (p ++ l ++ r ++ q) a m b := ⟨rfl, ha, hm, hb⟩
  have hbN : b ≤ N := by have := hP.len; omega
  have HL : Hid (N = (p ++ l ++ r ++ q).length) := hN
  have hab : a + 1 < m := by omega
  have hmb : m + 1 < b := by omega
  have hm2 : ((m : Int) - a == 1) = false := beq_eq_false_iff_ne.2 (by omega)
  have hm3 : ((b : Int) - m == 1) = false := beq_eq_false_iff_ne.2 (by omega)
  have HIH := Lib.hid IH
  have Hlr := Lib.hid hlr
  have Hm := Lib.hid hm
  have HP := Lib.hid hP
  have Ha := Lib.hid ha
  have Hl := Lib.hid hl
  have Hr := Lib.hid hr
  have Ht := Lib.hid ht
  have Hb := Lib.hid hb
  clear h hN ha hm hb hl hr ht hP hl0 hr0 IH hlr
  obtain ⟨mid, hmid⟩ : ∃ mid, mid = (a + b) / 2 := ⟨_, rfl⟩
  have gm1 : ((a : Int) + b) / 2 = mid := by omega
  have gm2 : a < mid := by omega
  have gm3 : mid < b := by omega
  obtain ⟨s, e, hse⟩ : ∃ s e : Nat, (mid < m ∧ s + b = mid + m ∧ e = mid) ∨ (m ≤ mid ∧ s = a ∧ e = m) := by
    by_cases hc : mid < m
    · exact ⟨mid + m - b, mid, .inl ⟨hc, by omega, rfl⟩⟩
    · exact ⟨a, m, .inr ⟨by omega, rfl, rfl⟩⟩
  have hsle : s ≤ e := by omega
  have hsa : a ≤ s := by omega
  have hem : e ≤ m := by omega
  have hemid : e ≤ mid := by omega
  obtain ⟨xs, Hxs⟩ : ∃ xs, Hid (p ++ l ++ r ++ q = xs) := ⟨_, rfl⟩
  have HF := Lib.hid (falls3 HP.out Hl.out Hr.out (s := s) (e := e) (n := mid + m - 1) hsa hem (fun c h1 h2 => by omega))
  have HB0 : Hid (BS (fun k => !tless (att (p ++ l ++ r ++ q) (mid + m - 1 - k)) (att (p ++ l ++ r ++ q) k)) s e s e) := BS.start (by omega)
  have Hmid := Lib.hid hmid
  have Hse := Lib.hid hse
  rw [Hxs.out] at S HF HB0 HL HP
  clear hmid hse
  go_enter Tryz.func215, Tryz.ntmps215
  go_upto_if 140 with fail
  go_cut [20, 21] from 25 (fun v1 v2 wx => v1 = .int .i64 s ∧ v2 = .int .i64 e ∧ St F w wx [Own 48 tcells 7 (.slice (some ⟨R, 0, none⟩) N c) xs])
  case first =>
    as_aux_lemma =>
      by_cases hc : mid < m
      · have hc2 : (mid : Int) < m := by omega
        go_wp2
        go_meet
        case rel => exact ⟨by have := Hse.out; congr 1; omega, by have := Hse.out; congr 1; omega, S⟩
      · have hc2 : ¬ (mid : Int) < m := by omega
        go_wp2
        go_meet
        case rel => exact ⟨by have := Hse.out; congr 1; omega, by have := Hse.out; congr 1; omega, S⟩
  case rest =>
    clear S
    obtain ⟨rfl, rfl, S⟩ := hcut
    go_wp2_with first | go_skip | ((with_reducible refine wpList_skip ?hw ?_); (case hw => with_unfolding_all rfl); simp only [Act.put, List.setIfInBounds_toArray, List.set_cons_succ, List.set_cons_zero]) | ((with_reducible refine tot_done ?ht ?_); (case ht => kernel_rfl)) | ((with_reducible apply wps_text S); (case hm => kernel_rfl); (case hB => decide +kernel); clear S; intro wz S) | ((with_reducible apply wps_loada (T := 48) (k := 7) S 0); (case hx | hi => rfl); (case hk => exact Nat.le_of_ble_eq_true rfl); (case hT => decide +kernel))
    go_loopw [20, 21] (fun i j wr => BsRel F R c N xs (fun k => !tless (att xs (mid + m - 1 - k)) (att xs k)) s e w i j wr) (fun i j _ => (intOf j - intOf i).toNat)
    case atStart => exact ⟨s, e, rfl, rfl, HB0.out, S⟩
    case round =>
      clear S HB0
      obtain ⟨i, j, rfl, rfl, hB, S⟩ := hrel
      have b1 := hB.le1
      have b2 := hB.le2
      have b3 := hB.le3
      by_cases hij : i < j
      · have hh := half_lt hij
        obtain ⟨k, hk⟩ : ∃ k, k = (i + j) / 2 := ⟨_, rfl⟩
        rw [← hk] at hh
        have hk2 : ((i : Int) + j) / 2 = k := by omega
        have HZ : Hid (xs[k]? = some (att xs k)) := some_att (by have := HL.out; omega)
        have HY : Hid (xs[mid + m - 1 - k]? = some (att xs (mid + m - 1 - k))) := some_att (by have := HL.out; have := Hse.out; omega)
        have hkN : k < N := by omega
        have hk3 : (0 : Int) ≤ mid + m - 1 - k := by omega
        have hk4 : (mid : Int) + m - 1 - k < N := by have := Hse.out; omega
        cases hc : tless (att xs (mid + m - 1 - k)) (att xs k) with
        | false =>
          as_aux_lemma =>
            have HC := Lib.hid (cmpEv_no hc)
            have HB2 := Lib.hid (hB.up HF.out hh.1 hh.2 (by simp [hc]))
            generalize att xs k = z at *
            generalize att xs (mid + m - 1 - k) = y at *
            have HB := Lib.hid hB
            have Hc := Lib.hid hc
            have Hk := Lib.hid hk
            have B1 := Lib.hid b1
            clear hB hc hk b1
            go_wp2_with first | go_skip | ((with_reducible refine wpList_skip ?hw ?_); (case hw => with_unfolding_all rfl); simp only [Act.put, List.setIfInBounds_toArray, List.set_cons_succ, List.set_cons_zero]) | ((with_reducible apply wps_loada_own tlen S 0 (hj := HY.out) (q := 0) (vs := [.int .i64 y.1.key.at_, .int .i64 y.1.key.src, .int .i64 y.1.key.sent, .int .i64 y.1.key.no, .int .i64 y.1.dst, .int .i64 y.1.kind, .int .i64 y.1.data]) (m := 7)); (case hx | hi => rfl); (case hn => omega); (case hm | hv => rfl); (case hT => decide +kernel)) | ((with_reducible apply wps_loada_own tlen S 0 (hj := HZ.out) (q := 0) (vs := [.int .i64 z.1.key.at_, .int .i64 z.1.key.src, .int .i64 z.1.key.sent, .int .i64 z.1.key.no, .int .i64 z.1.dst, .int .i64 z.1.kind, .int .i64 z.1.data]) (m := 7)); (case hx | hi => rfl); (case hn => omega); (case hm | hv => rfl); (case hT => decide +kernel)) | (go_at_call 123; refine Calls.mono (HC.out _) ?_; rintro e wz ⟨⟨cv, hcv, rfl⟩, hE⟩; have hcv2 : decide (cv < 0) = false := (by simp; omega); replace S := S.ext (Keep.of_below hE); clear hE) | ((with_reducible refine tot_done ?ht ?_); (case ht => kernel_rfl)) | ((with_reducible apply wps_text S); (case hm => kernel_rfl); (case hB => decide +kernel); clear S; intro wz S) | ((with_reducible apply wps_loada (T := 48) (k := 7) S 0); (case hx | hi => rfl); (case hk => exact Nat.le_of_ble_eq_true rfl); (case hT => decide +kernel))
            go_roundw
            case rel => exact ⟨k + 1, j, by go_num, rfl, HB2.out, S⟩
            case measure => first | (simp [intOf]; done) | (simp [intOf]; omega)
        | true =>
          as_aux_lemma =>
            have HC := Lib.hid (cmpEv_yes hc)
            have HB2 := Lib.hid (hB.down HF.out hh.1 hh.2 (by simp [hc]))
            generalize att xs k = z at *
            generalize att xs (mid + m - 1 - k) = y at *
            have HB := Lib.hid hB
            have Hc := Lib.hid hc
            have Hk := Lib.hid hk
            have B1 := Lib.hid b1
            clear hB hc hk b1
            go_wp2_with first | go_skip | ((with_reducible refine wpList_skip ?hw ?_); (case hw => with_unfolding_all rfl); simp only [Act.put, List.setIfInBounds_toArray, List.set_cons_succ, List.set_cons_zero]) | ((with_reducible apply wps_loada_own tlen S 0 (hj := HY.out) (q := 0) (vs := [.int .i64 y.1.key.at_, .int .i64 y.1.key.src, .int .i64 y.1.key.sent, .int .i64 y.1.key.no, .int .i64 y.1.dst, .int .i64 y.1.kind, .int .i64 y.1.data]) (m := 7)); (case hx | hi => rfl); (case hn => omega); (case hm | hv => rfl); (case hT => decide +kernel)) | ((with_reducible apply wps_loada_own tlen S 0 (hj := HZ.out) (q := 0) (vs := [.int .i64 z.1.key.at_, .int .i64 z.1.key.src, .int .i64 z.1.key.sent, .int .i64 z.1.key.no, .int .i64 z.1.dst, .int .i64 z.1.kind, .int .i64 z.1.data]) (m := 7)); (case hx | hi => rfl); (case hn => omega); (case hm | hv => rfl); (case hT => decide +kernel)) | (go_at_call 123; refine Calls.mono (HC.out _) ?_; rintro e wz ⟨rfl, hE⟩; replace S := S.ext (Keep.of_below hE); clear hE) | ((with_reducible refine tot_done ?ht ?_); (case ht => kernel_rfl)) | ((with_reducible apply wps_text S); (case hm => kernel_rfl); (case hB => decide +kernel); clear S; intro wz S) | ((with_reducible apply wps_loada (T := 48) (k := 7) S 0); (case hx | hi => rfl); (case hk => exact Nat.le_of_ble_eq_true rfl); (case hT => decide +kernel))
            go_roundw
            case rel => exact ⟨i, k, rfl, rfl, HB2.out, S⟩
            case measure => first | (simp [intOf]; done) | (simp [intOf]; omega)
      · obtain rfl : i = j := by omega
        have HC := Lib.hid (cut3 HP.out Hl.out Hr.out Ht.out Hmid.out Hse.out hB)
        have hL1 : (l.take (i - a)).length = i - a := by simp; have := Hm.out; omega
        have hL2 : (l.drop (i - a)).length = m - i := by simp; have := Hm.out; omega
        have hR1 : (r.take (mid - i)).length = mid - i := by simp; have := Hb.out; have := Hse.out; omega
        have hR2 : (r.drop (mid - i)).length = b + i - (mid + m) := by simp; have := Hb.out; have := Hse.out; omega
        have hie : i + b ≥ mid + m := by have := Hse.out; omega
        generalize l.take (i - a) = l1 at *
        generalize l.drop (i - a) = l2 at *
        generalize r.take (mid - i) = r1 at *
        generalize r.drop (mid - i) = r2 at *
        have him : i ≤ m := by omega
        have himid : i ≤ mid := by omega
        have hia : a ≤ i := by omega
        obtain ⟨en, hen⟩ : ∃ en, en = mid + m - i := ⟨_, rfl⟩
        have hen2 : (mid : Int) + m - i = en := by omega
        have hEl := HC.out.el
        have hEr := HC.out.er
        have HX : Hid (xs = p ++ l1 ++ l2 ++ r1 ++ (r2 ++ q)) := by rw [← Hxs.out, hEl, hEr]; simp [Hid]
        have HLen : Hid (N = p.length + l1.length + l2.length + r1.length + r2.length + q.length) := by
          have := HL.out
          rw [HX.out] at this
          show N = _
          rw [this]; simp; omega
        have HSl : Hid (Srt l1 ∧ Srt l2) := by have := Hl.out; rw [hEl] at this; exact ⟨(List.pairwise_append.1 this).1, (List.pairwise_append.1 this).2.1⟩
        have HSr : Hid (Srt r1 ∧ Srt r2) := by have := Hr.out; rw [hEr] at this; exact ⟨(List.pairwise_append.1 this).1, (List.pairwise_append.1 this).2.1⟩
        have HT1 : Hid (∀ x ∈ l1, ∀ y ∈ r1, x.2 < y.2) := fun x hx y hy => Ht.out x (by rw [hEl]; simp [hx]) y (by rw [hEr]; simp [hy])
        have HT2 : Hid (∀ x ∈ l2, ∀ y ∈ r2, x.2 < y.2) := fun x hx y hy => Ht.out x (by rw [hEl]; simp [hx]) y (by rw [hEr]; simp [hy])
        have HLL : Hid (l1.length + r1.length < n ∧ l2.length + r2.length < n) := by
          have h1 := Hlr.out
          have h2 := Hm.out
          have h3 := Hb.out
          exact ⟨by omega, by omega⟩
        rw [HX.out] at S
        have hN2 := HL.out
        rw [HX.out] at hN2
        have hnb : en ≤ b := by omega
        have HL1 := Lib.hid hL1
        have HL2 := Lib.hid hL2
        have HR1 := Lib.hid hR1
        have HR2 := Lib.hid hR2
        have HEl := Lib.hid hEl
        have HEr := Lib.hid hEr
        have Hen := Lib.hid hen
        have HN2 := Lib.hid hN2
        clear hL1 hL2 hR1 hR2 hEl hEr hen hN2
        clear hB b1 b2 HF
        obtain ⟨t, ht⟩ : ∃ t : Bool, t = decide (i < m ∧ i < mid) := ⟨_, rfl⟩
        have Ht_ := Lib.hid ht
        clear ht
        go_upto_region 39 with fail
        go_cut [185] from 25 (fun v wx => v = .bool t ∧ St F w wx [Own 48 tcells 7 (.slice (some ⟨R, 0, none⟩) N c) (p ++ l1 ++ l2 ++ r1 ++ (r2 ++ q))])
        case first =>
          as_aux_lemma =>
            by_cases t1 : i < m
            · by_cases t2 : i < mid
              · have t1' : (i : Int) < m := by omega
                have t3 : (m : Int) < en := by have := Hen.out; omega
                go_wp2
                go_meet
                case rel => exact ⟨by rw [Ht_.out]; simp [t1, t2], S⟩
              · have t1' : (i : Int) < m := by omega
                have t3 : ¬ (m : Int) < en := by have := Hen.out; omega
                go_wp2
                go_meet
                case rel => exact ⟨by rw [Ht_.out]; simp [t1, t2], S⟩
            · have t1' : ¬ (i : Int) < m := by omega
              go_wp2
              go_meet
              case rel => exact ⟨by rw [Ht_.out]; simp [t1], S⟩
        case rest =>
        clear S
        obtain ⟨rfl, S⟩ := hcut
        go_upto_if 185 with fail
        go_cut [] from 25 (fun wx => St F w wx [Own 48 tcells 7 (.slice (some ⟨R, 0, none⟩) N c) (p ++ l1 ++ r1 ++ (l2 ++ r2 ++ q))])
        case first =>
          as_aux_lemma =>
            by_cases t1 : i < m
            · by_cases t2 : i < mid
              · have t0 : t = true := by rw [Ht_.out]; simp [t1, t2]
                subst t0
                go_wp2_with first | go_skip | ((with_reducible refine wpList_skip ?hw ?_); (case hw => with_unfolding_all rfl); simp only [Act.put, List.setIfInBounds_toArray, List.set_cons_succ, List.set_cons_zero]) | (go_at_call 248; obtain ⟨Fz, hF, hBk⟩ := S.lend1 0 rfl rfl; refine Calls.mono (rotate_calls R c N i m en (p ++ l1) l2 r1 (r2 ++ q) _ _ _ hF HN2.out (by have h1 := Ha.out; have h2 := HL1.out; simp; omega) (by have := HL2.out; omega) (by have h1 := HR1.out; have h2 := Hen.out; omega) (by have := HL2.out; omega) (by have := HR1.out; omega) hn) ?_; rintro e wz ⟨rfl, T⟩; replace S := hBk _ _ rfl T; clear hBk hF T; simp only [List.set_cons_zero] at S) | ((with_reducible refine tot_done ?ht ?_); (case ht => kernel_rfl)) | ((with_reducible apply wps_text S); (case hm => kernel_rfl); (case hB => decide +kernel); clear S; intro wz S) | ((with_reducible apply wps_loada (T := 48) (k := 7) S 0); (case hx | hi => rfl); (case hk => exact Nat.le_of_ble_eq_true rfl); (case hT => decide +kernel))
                go_meet
                case rel => simpa using S
              · have t0 : t = false := by rw [Ht_.out]; simp [t2]
                subst t0
                have hr1 : r1 = [] := List.eq_nil_of_length_eq_zero (by have := HR1.out; omega)
                go_wp2_with first | go_skip | ((with_reducible refine wpList_skip ?hw ?_); (case hw => with_unfolding_all rfl); simp only [Act.put, List.setIfInBounds_toArray, List.set_cons_succ, List.set_cons_zero]) | ((with_reducible refine tot_done ?ht ?_); (case ht => kernel_rfl)) | ((with_reducible apply wps_text S); (case hm => kernel_rfl); (case hB => decide +kernel); clear S; intro wz S) | ((with_reducible apply wps_loada (T := 48) (k := 7) S 0); (case hx | hi => rfl); (case hk => exact Nat.le_of_ble_eq_true rfl); (case hT => decide +kernel))
                go_meet
                case rel => subst hr1; simpa using S
            · have t0 : t = false := by rw [Ht_.out]; simp [t1]
              subst t0
              have hl2 : l2 = [] := List.eq_nil_of_length_eq_zero (by have := HL2.out; omega)
              go_wp2_with first | go_skip | ((with_reducible refine wpList_skip ?hw ?_); (case hw => with_unfolding_all rfl); simp only [Act.put, List.setIfInBounds_toArray, List.set_cons_succ, List.set_cons_zero]) | ((with_reducible refine tot_done ?ht ?_); (case ht => kernel_rfl)) | ((with_reducible apply wps_text S); (case hm => kernel_rfl); (case hB => decide +kernel); clear S; intro wz S) | ((with_reducible apply wps_loada (T := 48) (k := 7) S 0); (case hx | hi => rfl); (case hk => exact Nat.le_of_ble_eq_true rfl); (case hT => decide +kernel))
              go_meet
              case rel => subst hl2; simpa using S
        case rest =>
          clear S HX HN2
          have S := hcut
          clear hcut
          obtain ⟨t', ht'⟩ : ∃ t : Bool, t = decide (a < i ∧ i < mid) := ⟨_, rfl⟩
          have Ht' := Lib.hid ht'
          clear ht'
          go_upto_region 41 with fail
          go_cut [199] from 25 (fun v wx => v = .bool t' ∧ St F w wx [Own 48 tcells 7 (.slice (some ⟨R, 0, none⟩) N c) (p ++ l1 ++ r1 ++ (l2 ++ r2 ++ q))])
          case first =>
            as_aux_lemma =>
              by_cases t1 : a < i
              · by_cases t2 : i < mid
                · have t1' : (a : Int) < i := by omega
                  have t2' : (i : Int) < mid := by omega
                  go_wp2
                  go_meet
                  case rel => exact ⟨by rw [Ht'.out]; simp [t1, t2], S⟩
                · have t1' : (a : Int) < i := by omega
                  have t2' : ¬ (i : Int) < mid := by omega
                  go_wp2
                  go_meet
                  case rel => exact ⟨by rw [Ht'.out]; simp [t2], S⟩
              · have t1' : ¬ (a : Int) < i := by omega
                go_wp2
                go_meet
                case rel => exact ⟨by rw [Ht'.out]; simp [t1], S⟩
          case rest =>
          clear S
          obtain ⟨rfl, S⟩ := hcut
          go_upto_if 199 with fail
          go_cut [] from 25 (fun wx => ∃ s1 : List TE, s1.Perm (l1 ++ r1) ∧ Srt s1 ∧ St F w wx [Own 48 tcells 7 (.slice (some ⟨R, 0, none⟩) N c) (p ++ s1 ++ l2 ++ r2 ++ q)])
          case first =>
            as_aux_lemma =>
              by_cases t1 : a < i
              · by_cases t2 : i < mid
                · have t0 : t' = true := by rw [Ht'.out]; simp [t1, t2]
                  subst t0
                  go_wp2_with first | go_skip | ((with_reducible refine wpList_skip ?hw ?_); (case hw => with_unfolding_all rfl); simp only [Act.put, List.setIfInBounds_toArray, List.set_cons_succ, List.set_cons_zero]) | (go_at_call 215; obtain ⟨Fz, hF, hBk⟩ := S.lend1 0 rfl rfl; refine Calls.mono (HIH.out R c N a i mid p l1 r1 (l2 ++ r2 ++ q) _ _ hF (by have := HLen.out; simp; omega) Ha.out (by have := HL1.out; omega) (by have := HR1.out; omega) (by have := HL1.out; omega) (by have := HR1.out; omega) HSl.out.1 HSr.out.1 HT1.out hn HLL.out.1) ?_; rintro e wz ⟨rfl, ys, ⟨s1, hp1, hs1, rfl⟩, T⟩; replace S := hBk _ _ rfl T; clear hBk hF T; simp only [List.set_cons_zero] at S) | ((with_reducible refine tot_done ?ht ?_); (case ht => kernel_rfl)) | ((with_reducible apply wps_text S); (case hm => kernel_rfl); (case hB => decide +kernel); clear S; intro wz S) | ((with_reducible apply wps_loada (T := 48) (k := 7) S 0); (case hx | hi => rfl); (case hk => exact Nat.le_of_ble_eq_true rfl); (case hT => decide +kernel))
                  go_meet
                  case rel => exact ⟨s1, hp1, hs1, by simpa using S⟩
                · have t0 : t' = false := by rw [Ht'.out]; simp [t2]
                  subst t0
                  have hr1 : r1 = [] := List.eq_nil_of_length_eq_zero (by have := HR1.out; omega)
                  go_wp2_with first | go_skip | ((with_reducible refine wpList_skip ?hw ?_); (case hw => with_unfolding_all rfl); simp only [Act.put, List.setIfInBounds_toArray, List.set_cons_succ, List.set_cons_zero]) | ((with_reducible refine tot_done ?ht ?_); (case ht => kernel_rfl)) | ((with_reducible apply wps_text S); (case hm => kernel_rfl); (case hB => decide +kernel); clear S; intro wz S) | ((with_reducible apply wps_loada (T := 48) (k := 7) S 0); (case hx | hi => rfl); (case hk => exact Nat.le_of_ble_eq_true rfl); (case hT => decide +kernel))
                  go_meet
                  case rel => subst hr1; exact ⟨l1, by simp, HSl.out.1, by simpa using S⟩
              · have t0 : t' = false := by rw [Ht'.out]; simp [t1]
                subst t0
                have hl1 : l1 = [] := List.eq_nil_of_length_eq_zero (by have := HL1.out; omega)
                go_wp2_with first | go_skip | ((with_reducible refine wpList_skip ?hw ?_); (case hw => with_unfolding_all rfl); simp only [Act.put, List.setIfInBounds_toArray, List.set_cons_succ, List.set_cons_zero]) | ((with_reducible refine tot_done ?ht ?_); (case ht => kernel_rfl)) | ((with_reducible apply wps_text S); (case hm => kernel_rfl); (case hB => decide +kernel); clear S; intro wz S) | ((with_reducible apply wps_loada (T := 48) (k := 7) S 0); (case hx | hi => rfl); (case hk => exact Nat.le_of_ble_eq_true rfl); (case hT => decide +kernel))
                go_meet
                case rel => subst hl1; exact ⟨r1, by simp, HSr.out.1, by simpa using S⟩
          case rest =>
            clear S
            obtain ⟨s1, hp1, hs1, S⟩ := hcut
            have hl1 := hp1.length_eq
            rw [List.length_append] at hl1
            have Hp1 := Lib.hid hp1
            have Hs1 := Lib.hid hs1
            have Hl1 := Lib.hid hl1
            clear hp1 hs1 hl1
            by_cases t1 : i < m
            · by_cases t2 : en < b
              · have t1' : (mid : Int) < en := by have := Hen.out; omega
                have t2' : (en : Int) < b := by omega
                go_wp2_with first | go_skip | ((with_reducible refine wpList_skip ?hw ?_); (case hw => with_unfolding_all rfl); simp only [Act.put, List.setIfInBounds_toArray, List.set_cons_succ, List.set_cons_zero]) | (go_at_call 215; obtain ⟨Fz, hF, hBk⟩ := S.lend1 0 rfl rfl; refine Calls.mono (HIH.out R c N mid en b (p ++ s1) l2 r2 q _ _ hF (by have h1 := HLen.out; have h2 := Hl1.out; simp; omega) (by have h1 := Hl1.out; have h2 := HL1.out; have h3 := HR1.out; have h4 := Ha.out; simp; omega) (by have h1 := HL2.out; have h2 := Hen.out; omega) (by have h1 := HR2.out; have h2 := Hen.out; omega) (by have := HL2.out; omega) (by have h1 := HR2.out; have h2 := Hen.out; omega) HSl.out.2 HSr.out.2 HT2.out hn HLL.out.2) ?_; rintro e wz ⟨rfl, ys, ⟨s2, hp2, hs2, rfl⟩, T⟩; replace S := hBk _ _ rfl T; clear hBk hF T; simp only [List.set_cons_zero] at S) | ((with_reducible refine tot_done ?ht ?_); (case ht => kernel_rfl)) | ((with_reducible apply wps_text S); (case hm => kernel_rfl); (case hB => decide +kernel); clear S; intro wz S) | ((with_reducible apply wps_loada (T := 48) (k := 7) S 0); (case hx | hi => rfl); (case hk => exact Nat.le_of_ble_eq_true rfl); (case hT => decide +kernel))
                go_end0
                exact ⟨rfl, _, merged_cut Hl.out Hr.out HC.out Hp1.out Hs1.out hp2 hs2, by simpa using S⟩
              · have t1' : (mid : Int) < en := by have := Hen.out; omega
                have t2' : ¬ (en : Int) < b := by omega
                have hr2 : r2 = [] := List.eq_nil_of_length_eq_zero (by have h1 := HR2.out; have h2 := Hen.out; omega)
                go_wp2_with first | go_skip | ((with_reducible refine wpList_skip ?hw ?_); (case hw => with_unfolding_all rfl); simp only [Act.put, List.setIfInBounds_toArray, List.set_cons_succ, List.set_cons_zero]) | ((with_reducible refine tot_done ?ht ?_); (case ht => kernel_rfl)) | ((with_reducible apply wps_text S); (case hm => kernel_rfl); (case hB => decide +kernel); clear S; intro wz S) | ((with_reducible apply wps_loada (T := 48) (k := 7) S 0); (case hx | hi => rfl); (case hk => exact Nat.le_of_ble_eq_true rfl); (case hT => decide +kernel))
                go_end0
                exact ⟨rfl, _, merged_cut Hl.out Hr.out HC.out Hp1.out Hs1.out (s2 := l2) (by rw [hr2]; simp) HSl.out.2, by subst hr2; simpa using S⟩
            · have t1' : ¬ (mid : Int) < en := by have := Hen.out; omega
              have hl2 : l2 = [] := List.eq_nil_of_length_eq_zero (by have := HL2.out; omega)
              go_wp2_with first | go_skip | ((with_reducible refine wpList_skip ?hw ?_); (case hw => with_unfolding_all rfl); simp only [Act.put, List.setIfInBounds_toArray, List.set_cons_succ, List.set_cons_zero]) | ((with_reducible refine tot_done ?ht ?_); (case ht => kernel_rfl)) | ((with_reducible apply wps_text S); (case hm => kernel_rfl); (case hB => decide +kernel); clear S; intro wz S) | ((with_reducible apply wps_loada (T := 48) (k := 7) S 0); (case hx | hi => rfl); (case hk => exact Nat.le_of_ble_eq_true rfl); (case hT => decide +kernel))
              go_end0
              exact ⟨rfl, _, merged_cut Hl.out Hr.out HC.out Hp1.out Hs1.out (s2 := r2) (by rw [hl2]; simp) HSr.out.2, by subst hl2; simpa using S⟩
theorem sym_below : ∀ n, SymBelow n
  | 0 => fun _ _ _ _ _ _ _ _ _ _ _ _ _ _ _ _ _ _ _ _ _ _ _ h => absurd h (by omega)
  | n + 1 => fun R c N a m b p l r q w F h hN ha hm hb h1 h2 hl hr ht hn hlt => by
    by_cases e1 : l.length = 1
    · obtain ⟨x, rfl⟩ := List.length_eq_one_iff.1 e1
      exact sym1_calls R c N a m b p r q x w F h hN ha hm hb h2 hr (fun y hy => ht x (by simp) y hy) hn
    · by_cases e2 : r.length = 1
      · obtain ⟨y, rfl⟩ := List.length_eq_one_iff.1 e2
        exact sym2_calls R c N a m b p l q y w F h hN ha hm hb (by omega) hl (fun x hx => ht x hx y (by simp)) hn
      · exact sym3_calls n (sym_below n) R c N a m b p l r q w F h hN ha hm hb (by omega) (by omega) hl hr ht hn (by omega)
theorem sym_calls (R c N a m b : Nat) (p l r q : List TE) (w : World) (F : Nat → Prop) (h : (Own 48 tcells 7 (.slice (some ⟨R, 0, none⟩) N c) (p ++ l ++ r ++ q)).at_ w F)
    (hN : N = (p ++ l ++ r ++ q).length) (ha : a = p.length) (hm : m = a + l.length) (hb : b = m + r.length) (h1 : 0 < l.length) (h2 : 0 < r.length) (hl : Srt l) (hr : Srt r) (ht : ∀ x ∈ l, ∀ y ∈ r, x.2 < y.2) (hn : N ≤ 65536) :
    Calls Tryz.prog 215 #[.slice (some ⟨R, 0, none⟩) N c, .int .i64 a, .int .i64 m, .int .i64 b, .func (.func 123) #[] #[]] w (SymPost F R c N p l r q w) :=
  sym_below (l.length + r.length + 1) R c N a m b p l r q w F h hN ha hm hb h1 h2 hl hr ht hn (by omega)
end Go.Proofs.YtmpfbkfemlhekaaGreatDoor
