import Derived.Test.YtmjljoaakdocaaaGreatDoorY17
import Derived.Deep.Cut
import Derived.Test.YtmjljoaakdocaaaGreatDoorY15
/- The walk of slices.SortStableFunc's merge: the third case, and all. -/
set_option maxHeartbeats 16000000
set_option maxRecDepth 100000
namespace Go.Proofs.YtmjljoaakdocaaaGreatDoor
open Go Go.RowKit Reg Mem
open List (set_cons_succ set_cons_zero setIfInBounds_toArray cons_append nil_append)
def SymBelow (n : Nat) : Prop:=∀ (R c N a m b : Nat) (p l r q : List TE) (w : World) (F : Nat → Prop),(Own 58 tcells 7 (.slice (some ⟨R,0,none⟩) N c) (p ++ l ++ r ++ q)).at_ w F →
 N = (p ++ l ++ r ++ q).length → a = p.length → m = a + l.length → b = m + r.length → 0 < l.length → 0 < r.length → Srt l → Srt r → (∀ x ∈ l,∀ y ∈ r,x.2 < y.2) → N ≤ 65536 → l.length + r.length < n →
 Calls Tryz.prog 154 #[.slice (some ⟨R,0,none⟩) N c,.int .i64 a,.int .i64 m,.int .i64 b,.func (.func 72) #[] #[]] w (SymPost F R c N p l r q w)
theorem sym3_calls (n : Nat) (IH : SymBelow n) (R c N a m b : Nat) (p l r q : List TE) (w : World) (F : Nat → Prop) (h : (Own 58 tcells 7 (.slice (some ⟨R,0,none⟩) N c) (p ++ l ++ r ++ q)).at_ w F)
 (hN : N = (p ++ l ++ r ++ q).length) (ha : a = p.length) (hm : m = a + l.length) (hb : b = m + r.length) (hl0 : 1 < l.length) (hr0 : 1 < r.length) (hl : Srt l) (hr : Srt r) (ht : ∀ x ∈ l,∀ y ∈ r,x.2 < y.2) (hn : N ≤ 65536) (hlr : l.length + r.length ≤ n) :
 Calls Tryz.prog 154 #[.slice (some ⟨R,0,none⟩) N c,.int .i64 a,.int .i64 m,.int .i64 b,.func (.func 72) #[] #[]] w (SymPost F R c N p l r q w):=by
 have S:=St.one w h
 have hP : Parts p l r q (p ++ l ++ r ++ q) a m b:=⟨rfl,ha,hm,hb⟩
 have hbN : b ≤ N:=by have:=hP.len;omega
 have HL : Hid (N = (p ++ l ++ r ++ q).length):=hN
 have hab : a + 1 < m:=by omega
 have hmb : m + 1 < b:=by omega
 have hm2 : ((m : Int) - a == 1) = false:=beq_eq_false_iff_ne.2 (by omega)
 have hm3 : ((b : Int) - m == 1) = false:=beq_eq_false_iff_ne.2 (by omega)
 have HIH:=Lib.hid IH
 have Hlr:=Lib.hid hlr
 have Hm:=Lib.hid hm
 have HP:=Lib.hid hP
 have Ha:=Lib.hid ha
 have Hl:=Lib.hid hl
 have Hr:=Lib.hid hr
 have Ht:=Lib.hid ht
 have Hb:=Lib.hid hb
 clear h hN ha hm hb hl hr ht hP hl0 hr0 IH hlr
 obtain ⟨mid,hmid⟩ : ∃ mid,mid = (a + b) / 2:=⟨_,rfl⟩
 have gm1 : ((a : Int) + b) / 2 = mid:=by omega
 have gm2 : a < mid:=by omega
 have gm3 : mid < b:=by omega
 obtain ⟨s,e,hse⟩ : ∃ s e : Nat,(mid < m ∧ s + b = mid + m ∧ e = mid) ∨ (m ≤ mid ∧ s = a ∧ e = m):=by
  by_cases hc : mid < m
  · exact ⟨mid + m - b,mid,.inl ⟨hc,by omega,rfl⟩⟩
  · exact ⟨a,m,.inr ⟨by omega,rfl,rfl⟩⟩
 have hsle : s ≤ e:=by omega
 have hsa : a ≤ s:=by omega
 have hem : e ≤ m:=by omega
 have hemid : e ≤ mid:=by omega
 obtain ⟨xs,Hxs⟩ : ∃ xs,Hid (p ++ l ++ r ++ q = xs):=⟨_,rfl⟩
 have HF:=Lib.hid (falls3 HP.out Hl.out Hr.out (s:=s) (e:=e) (n:=mid + m - 1) hsa hem (fun c h1 h2=>by omega))
 have HB0 : Hid (BS (fun k=>!tless (att (p ++ l ++ r ++ q) (mid + m - 1 - k)) (att (p ++ l ++ r ++ q) k)) s e s e):=BS.start (by omega)
 have Hmid:=Lib.hid hmid
 have Hse:=Lib.hid hse
 rw [Hxs.out] at S HF HB0 HL HP
 clear hmid hse
 go_enter Tryz.func154,Tryz.ntmps154
 go_upto_if 140 with fail
 go_cut [20,21] from 25 (fun v1 v2 wx=>v1 = .int .i64 s ∧ v2 = .int .i64 e ∧ St F w wx [Own 58 tcells 7 (.slice (some ⟨R,0,none⟩) N c) xs])
 case first=>
  as_aux_lemma=>
   by_cases hc : mid < m
   · have hc2 : (mid : Int) < m:=by omega
     go_wp2
     go_meet
     case rel=>exact ⟨by have:=Hse.out;congr 1;omega,by have:=Hse.out;congr 1;omega,S⟩
   · have hc2 : ¬ (mid : Int) < m:=by omega
     go_wp2
     go_meet
     case rel=>exact ⟨by have:=Hse.out;congr 1;omega,by have:=Hse.out;congr 1;omega,S⟩
 case rest=>
  clear S
  obtain ⟨rfl,rfl,S⟩:=hcut
  go_wp2_with first | ((with_reducible apply wps_loada (T:=58) (k:=7) S 0);(case hx|hi=>rfl);(case hk=>exact nle rfl);(case hT=>decide +kernel))
  go_loopw [20,21] (fun i j wr=>BsRel F R c N xs (fun k=>!tless (att xs (mid + m - 1 - k)) (att xs k)) s e w i j wr) (fun i j _=>(intOf j - intOf i).toNat)
  case atStart=>exact ⟨s,e,rfl,rfl,HB0.out,S⟩
  case round=>
   clear S HB0
   obtain ⟨i,j,rfl,rfl,hB,S⟩:=hrel
   have b1:=hB.le1
   have b2:=hB.le2
   have b3:=hB.le3
   by_cases hij : i < j
   · have hh:=half_lt hij
     obtain ⟨k,hk⟩ : ∃ k,k = (i + j) / 2:=⟨_,rfl⟩
     rw [← hk] at hh
     have hk2 : ((i : Int) + j) / 2 = k:=by omega
     have HZ : Hid (xs[k]? = some (att xs k)):=some_att (by have:=HL.out;omega)
     have HY : Hid (xs[mid + m - 1 - k]? = some (att xs (mid + m - 1 - k))):=some_att (by have:=HL.out;have:=Hse.out;omega)
     have hkN : k < N:=by omega
     have hk3 : (0 : Int) ≤ mid + m - 1 - k:=by omega
     have hk4 : (mid : Int) + m - 1 - k < N:=by have:=Hse.out;omega
     cases hc : tless (att xs (mid + m - 1 - k)) (att xs k) with
     | false=>
       as_aux_lemma=>
        have HC:=Lib.hid (cmpEv_no hc)
        have HB2:=Lib.hid (hB.up HF.out hh.1 hh.2 (by simp [hc]))
        generalize att xs k = z at *
        generalize att xs (mid + m - 1 - k) = y at *
        have HB:=Lib.hid hB
        have Hc:=Lib.hid hc
        have Hk:=Lib.hid hk
        have B1:=Lib.hid b1
        clear hB hc hk b1
        go_wp2_with first | ((with_reducible apply wps_loada_own tlen S 0 (hj:=HY.out) (q:=0) (vs:=[.int .i64 y.1.key.at_,.int .i64 y.1.key.src,.int .i64 y.1.key.sent,.int .i64 y.1.key.no,.int .i64 y.1.dst,.int .i64 y.1.kind,.int .i64 y.1.data]) (m:=7));(case hx|hi=>rfl);(case hn=>omega);(case hm|hv=>rfl);(case hT=>decide +kernel)) | ((with_reducible apply wps_loada_own tlen S 0 (hj:=HZ.out) (q:=0) (vs:=[.int .i64 z.1.key.at_,.int .i64 z.1.key.src,.int .i64 z.1.key.sent,.int .i64 z.1.key.no,.int .i64 z.1.dst,.int .i64 z.1.kind,.int .i64 z.1.data]) (m:=7));(case hx|hi=>rfl);(case hn=>omega);(case hm|hv=>rfl);(case hT=>decide +kernel)) | (go_at_call 72;refine Calls.mono (HC.out _) ?_;rintro e wz ⟨⟨cv,hcv,rfl⟩,hE⟩;have hcv2 : decide (cv < 0) = false:=(by simp;omega);replace S:=S.ext (Keep.of_below hE);clear hE) | ((with_reducible refine tot_done ?ht ?_);(case ht=>kernel_rfl)) | ((with_reducible apply wps_text S);(case hm=>kernel_rfl);(case hB=>decide +kernel);clear S;intro wz S)
        go_roundw
        case rel=>exact ⟨k + 1,j,by go_num,rfl,HB2.out,S⟩
        case measure=>first | (simp [intOf];done) | (simp [intOf];omega)
     | true=>
       as_aux_lemma=>
        have HC:=Lib.hid (cmpEv_yes hc)
        have HB2:=Lib.hid (hB.down HF.out hh.1 hh.2 (by simp [hc]))
        generalize att xs k = z at *
        generalize att xs (mid + m - 1 - k) = y at *
        have HB:=Lib.hid hB
        have Hc:=Lib.hid hc
        have Hk:=Lib.hid hk
        have B1:=Lib.hid b1
        clear hB hc hk b1
        go_wp2_with first | ((with_reducible apply wps_loada_own tlen S 0 (hj:=HY.out) (q:=0) (vs:=[.int .i64 y.1.key.at_,.int .i64 y.1.key.src,.int .i64 y.1.key.sent,.int .i64 y.1.key.no,.int .i64 y.1.dst,.int .i64 y.1.kind,.int .i64 y.1.data]) (m:=7));(case hx|hi=>rfl);(case hn=>omega);(case hm|hv=>rfl);(case hT=>decide +kernel)) | ((with_reducible apply wps_loada_own tlen S 0 (hj:=HZ.out) (q:=0) (vs:=[.int .i64 z.1.key.at_,.int .i64 z.1.key.src,.int .i64 z.1.key.sent,.int .i64 z.1.key.no,.int .i64 z.1.dst,.int .i64 z.1.kind,.int .i64 z.1.data]) (m:=7));(case hx|hi=>rfl);(case hn=>omega);(case hm|hv=>rfl);(case hT=>decide +kernel)) | (go_at_call 72;refine Calls.mono (HC.out _) ?_;rintro e wz ⟨rfl,hE⟩;replace S:=S.ext (Keep.of_below hE);clear hE) | ((with_reducible refine tot_done ?ht ?_);(case ht=>kernel_rfl)) | ((with_reducible apply wps_text S);(case hm=>kernel_rfl);(case hB=>decide +kernel);clear S;intro wz S)
        go_roundw
        case rel=>exact ⟨i,k,rfl,rfl,HB2.out,S⟩
        case measure=>first | (simp [intOf];done) | (simp [intOf];omega)
   · obtain rfl : i = j:=by omega
     have HC:=Lib.hid (cut3 HP.out Hl.out Hr.out Ht.out Hmid.out Hse.out hB)
     have hL1 : (l.take (i - a)).length = i - a:=by simp;have:=Hm.out;omega
     have hL2 : (l.drop (i - a)).length = m - i:=by simp;have:=Hm.out;omega
     have hR1 : (r.take (mid - i)).length = mid - i:=by simp;have:=Hb.out;have:=Hse.out;omega
     have hR2 : (r.drop (mid - i)).length = b + i - (mid + m):=by simp;have:=Hb.out;have:=Hse.out;omega
     have hie : i + b ≥ mid + m:=by have:=Hse.out;omega
     generalize l.take (i - a) = l1 at *
     generalize l.drop (i - a) = l2 at *
     generalize r.take (mid - i) = r1 at *
     generalize r.drop (mid - i) = r2 at *
     have him : i ≤ m:=by omega
     have himid : i ≤ mid:=by omega
     have hia : a ≤ i:=by omega
     obtain ⟨en,hen⟩ : ∃ en,en = mid + m - i:=⟨_,rfl⟩
     have hen2 : (mid : Int) + m - i = en:=by omega
     have hEl:=HC.out.el
     have hEr:=HC.out.er
     have HX : Hid (xs = p ++ l1 ++ l2 ++ r1 ++ (r2 ++ q)):=by rw [← Hxs.out,hEl,hEr];simp [Hid]
     have HLen : Hid (N = p.length + l1.length + l2.length + r1.length + r2.length + q.length):=by
      have:=HL.out
      rw [HX.out] at this
      show N = _
      rw [this];simp;omega
     have HSl : Hid (Srt l1 ∧ Srt l2):=by have:=Hl.out;rw [hEl] at this;exact ⟨(List.pairwise_append.1 this).1,(List.pairwise_append.1 this).2.1⟩
     have HSr : Hid (Srt r1 ∧ Srt r2):=by have:=Hr.out;rw [hEr] at this;exact ⟨(List.pairwise_append.1 this).1,(List.pairwise_append.1 this).2.1⟩
     have HT1 : Hid (∀ x ∈ l1,∀ y ∈ r1,x.2 < y.2):=fun x hx y hy=>Ht.out x (by rw [hEl];simp [hx]) y (by rw [hEr];simp [hy])
     have HT2 : Hid (∀ x ∈ l2,∀ y ∈ r2,x.2 < y.2):=fun x hx y hy=>Ht.out x (by rw [hEl];simp [hx]) y (by rw [hEr];simp [hy])
     have HLL : Hid (l1.length + r1.length < n ∧ l2.length + r2.length < n):=by
      have h1:=Hlr.out
      have h2:=Hm.out
      have h3:=Hb.out
      exact ⟨by omega,by omega⟩
     rw [HX.out] at S
     have hN2:=HL.out
     rw [HX.out] at hN2
     have hnb : en ≤ b:=by omega
     have HL1:=Lib.hid hL1
     have HL2:=Lib.hid hL2
     have HR1:=Lib.hid hR1
     have HR2:=Lib.hid hR2
     have HEl:=Lib.hid hEl
     have HEr:=Lib.hid hEr
     have Hen:=Lib.hid hen
     have HN2:=Lib.hid hN2
     clear hL1 hL2 hR1 hR2 hEl hEr hen hN2
     clear hB b1 b2 HF
     obtain ⟨t,ht⟩ : ∃ t : Bool,t = decide (i < m ∧ i < mid):=⟨_,rfl⟩
     have Ht_:=Lib.hid ht
     clear ht
     go_upto_region 39 with fail
     go_cut [185] from 25 (fun v wx=>v = .bool t ∧ St F w wx [Own 58 tcells 7 (.slice (some ⟨R,0,none⟩) N c) (p ++ l1 ++ l2 ++ r1 ++ (r2 ++ q))])
     case first=>
      as_aux_lemma=>
       by_cases t1 : i < m
       · by_cases t2 : i < mid
         · have t1' : (i : Int) < m:=by omega
           have t3 : (m : Int) < en:=by have:=Hen.out;omega
           go_wp2
           go_meet
           case rel=>exact ⟨by rw [Ht_.out];simp [t1,t2],S⟩
         · have t1' : (i : Int) < m:=by omega
           have t3 : ¬ (m : Int) < en:=by have:=Hen.out;omega
           go_wp2
           go_meet
           case rel=>exact ⟨by rw [Ht_.out];simp [t1,t2],S⟩
       · have t1' : ¬ (i : Int) < m:=by omega
         go_wp2
         go_meet
         case rel=>exact ⟨by rw [Ht_.out];simp [t1],S⟩
     case rest=>
     clear S
     obtain ⟨rfl,S⟩:=hcut
     go_upto_if 185 with fail
     go_cut [] from 25 (fun wx=>St F w wx [Own 58 tcells 7 (.slice (some ⟨R,0,none⟩) N c) (p ++ l1 ++ r1 ++ (l2 ++ r2 ++ q))])
     case first=>
      as_aux_lemma=>
       by_cases t1 : i < m
       · by_cases t2 : i < mid
         · have t0 : t = true:=by rw [Ht_.out];simp [t1,t2]
           subst t0
           go_wp2_with first | (go_at_call 189;obtain ⟨Fz,hF,hBk⟩:=S.lend1 0 rfl rfl;refine Calls.mono (rotate_calls R c N i m en (p ++ l1) l2 r1 (r2 ++ q) _ _ _ hF HN2.out (by have h1:=Ha.out;have h2:=HL1.out;simp;omega) (by have:=HL2.out;omega) (by have h1:=HR1.out;have h2:=Hen.out;omega) (by have:=HL2.out;omega) (by have:=HR1.out;omega) hn) ?_;rintro e wz ⟨rfl,T⟩;replace S:=hBk _ _ rfl T;clear hBk hF T;simp only [set_cons_zero] at S)
           go_meet
           case rel=>simpa using S
         · have t0 : t = false:=by rw [Ht_.out];simp [t2]
           subst t0
           have hr1 : r1 = []:=List.eq_nil_of_length_eq_zero (by have:=HR1.out;omega)
           go_wp2_with first | ((with_reducible apply wps_loada (T:=58) (k:=7) S 0);(case hx|hi=>rfl);(case hk=>exact nle rfl);(case hT=>decide +kernel))
           go_meet
           case rel=>subst hr1;simpa using S
       · have t0 : t = false:=by rw [Ht_.out];simp [t1]
         subst t0
         have hl2 : l2 = []:=List.eq_nil_of_length_eq_zero (by have:=HL2.out;omega)
         go_wp2_with first | ((with_reducible apply wps_loada (T:=58) (k:=7) S 0);(case hx|hi=>rfl);(case hk=>exact nle rfl);(case hT=>decide +kernel))
         go_meet
         case rel=>subst hl2;simpa using S
     case rest=>
      clear S HX HN2
      have S:=hcut
      clear hcut
      obtain ⟨t',ht'⟩ : ∃ t : Bool,t = decide (a < i ∧ i < mid):=⟨_,rfl⟩
      have Ht':=Lib.hid ht'
      clear ht'
      go_upto_region 41 with fail
      go_cut [199] from 25 (fun v wx=>v = .bool t' ∧ St F w wx [Own 58 tcells 7 (.slice (some ⟨R,0,none⟩) N c) (p ++ l1 ++ r1 ++ (l2 ++ r2 ++ q))])
      case first=>
       as_aux_lemma=>
        by_cases t1 : a < i
        · by_cases t2 : i < mid
          · have t1' : (a : Int) < i:=by omega
            have t2' : (i : Int) < mid:=by omega
            go_wp2
            go_meet
            case rel=>exact ⟨by rw [Ht'.out];simp [t1,t2],S⟩
          · have t1' : (a : Int) < i:=by omega
            have t2' : ¬ (i : Int) < mid:=by omega
            go_wp2
            go_meet
            case rel=>exact ⟨by rw [Ht'.out];simp [t2],S⟩
        · have t1' : ¬ (a : Int) < i:=by omega
          go_wp2
          go_meet
          case rel=>exact ⟨by rw [Ht'.out];simp [t1],S⟩
      case rest=>
      clear S
      obtain ⟨rfl,S⟩:=hcut
      go_upto_if 199 with fail
      go_cut [] from 25 (fun wx=>∃ s1 : List TE,s1.Perm (l1 ++ r1) ∧ Srt s1 ∧ St F w wx [Own 58 tcells 7 (.slice (some ⟨R,0,none⟩) N c) (p ++ s1 ++ l2 ++ r2 ++ q)])
      case first=>
       as_aux_lemma=>
        by_cases t1 : a < i
        · by_cases t2 : i < mid
          · have t0 : t' = true:=by rw [Ht'.out];simp [t1,t2]
            subst t0
            go_wp2_with first | (go_at_call 154;obtain ⟨Fz,hF,hBk⟩:=S.lend1 0 rfl rfl;refine Calls.mono (HIH.out R c N a i mid p l1 r1 (l2 ++ r2 ++ q) _ _ hF (by have:=HLen.out;simp;omega) Ha.out (by have:=HL1.out;omega) (by have:=HR1.out;omega) (by have:=HL1.out;omega) (by have:=HR1.out;omega) HSl.out.1 HSr.out.1 HT1.out hn HLL.out.1) ?_;rintro e wz ⟨rfl,ys,⟨s1,hp1,hs1,rfl⟩,T⟩;replace S:=hBk _ _ rfl T;clear hBk hF T;simp only [set_cons_zero] at S)
            go_meet
            case rel=>exact ⟨s1,hp1,hs1,by simpa using S⟩
          · have t0 : t' = false:=by rw [Ht'.out];simp [t2]
            subst t0
            have hr1 : r1 = []:=List.eq_nil_of_length_eq_zero (by have:=HR1.out;omega)
            go_wp2_with first | ((with_reducible apply wps_loada (T:=58) (k:=7) S 0);(case hx|hi=>rfl);(case hk=>exact nle rfl);(case hT=>decide +kernel))
            go_meet
            case rel=>subst hr1;exact ⟨l1,by simp,HSl.out.1,by simpa using S⟩
        · have t0 : t' = false:=by rw [Ht'.out];simp [t1]
          subst t0
          have hl1 : l1 = []:=List.eq_nil_of_length_eq_zero (by have:=HL1.out;omega)
          go_wp2_with first | ((with_reducible apply wps_loada (T:=58) (k:=7) S 0);(case hx|hi=>rfl);(case hk=>exact nle rfl);(case hT=>decide +kernel))
          go_meet
          case rel=>subst hl1;exact ⟨r1,by simp,HSr.out.1,by simpa using S⟩
      case rest=>
       clear S
       obtain ⟨s1,hp1,hs1,S⟩:=hcut
       have hl1:=hp1.length_eq
       rw [List.length_append] at hl1
       have Hp1:=Lib.hid hp1
       have Hs1:=Lib.hid hs1
       have Hl1:=Lib.hid hl1
       clear hp1 hs1 hl1
       by_cases t1 : i < m
       · by_cases t2 : en < b
         · have t1' : (mid : Int) < en:=by have:=Hen.out;omega
           have t2' : (en : Int) < b:=by omega
           go_wp2_with first | (go_at_call 154;obtain ⟨Fz,hF,hBk⟩:=S.lend1 0 rfl rfl;refine Calls.mono (HIH.out R c N mid en b (p ++ s1) l2 r2 q _ _ hF (by have h1:=HLen.out;have h2:=Hl1.out;simp;omega) (by have h1:=Hl1.out;have h2:=HL1.out;have h3:=HR1.out;have h4:=Ha.out;simp;omega) (by have h1:=HL2.out;have h2:=Hen.out;omega) (by have h1:=HR2.out;have h2:=Hen.out;omega) (by have:=HL2.out;omega) (by have h1:=HR2.out;have h2:=Hen.out;omega) HSl.out.2 HSr.out.2 HT2.out hn HLL.out.2) ?_;rintro e wz ⟨rfl,ys,⟨s2,hp2,hs2,rfl⟩,T⟩;replace S:=hBk _ _ rfl T;clear hBk hF T;simp only [set_cons_zero] at S)
           go_end0
           exact ⟨rfl,_,merged_cut Hl.out Hr.out HC.out Hp1.out Hs1.out hp2 hs2,by simpa using S⟩
         · have t1' : (mid : Int) < en:=by have:=Hen.out;omega
           have t2' : ¬ (en : Int) < b:=by omega
           have hr2 : r2 = []:=List.eq_nil_of_length_eq_zero (by have h1:=HR2.out;have h2:=Hen.out;omega)
           go_wp2_with first | ((with_reducible apply wps_loada (T:=58) (k:=7) S 0);(case hx|hi=>rfl);(case hk=>exact nle rfl);(case hT=>decide +kernel))
           go_end0
           exact ⟨rfl,_,merged_cut Hl.out Hr.out HC.out Hp1.out Hs1.out (s2:=l2) (by rw [hr2];simp) HSl.out.2,by subst hr2;simpa using S⟩
       · have t1' : ¬ (mid : Int) < en:=by have:=Hen.out;omega
         have hl2 : l2 = []:=List.eq_nil_of_length_eq_zero (by have:=HL2.out;omega)
         go_wp2_with first | ((with_reducible apply wps_loada (T:=58) (k:=7) S 0);(case hx|hi=>rfl);(case hk=>exact nle rfl);(case hT=>decide +kernel))
         go_end0
         exact ⟨rfl,_,merged_cut Hl.out Hr.out HC.out Hp1.out Hs1.out (s2:=r2) (by rw [hl2];simp) HSr.out.2,by subst hl2;simpa using S⟩
theorem sym_below : ∀ n,SymBelow n
 | 0=>fun _ _ _ _ _ _ _ _ _ _ _ _ _ _ _ _ _ _ _ _ _ _ _ h=>absurd h (by omega)
 | n + 1=>fun R c N a m b p l r q w F h hN ha hm hb h1 h2 hl hr ht hn hlt=>by
   by_cases e1 : l.length = 1
   · obtain ⟨x,rfl⟩:=List.length_eq_one_iff.1 e1
     exact sym1_calls R c N a m b p r q x w F h hN ha hm hb h2 hr (fun y hy=>ht x (by simp) y hy) hn
   · by_cases e2 : r.length = 1
     · obtain ⟨y,rfl⟩:=List.length_eq_one_iff.1 e2
       exact sym2_calls R c N a m b p l q y w F h hN ha hm hb (by omega) hl (fun x hx=>ht x hx y (by simp)) hn
     · exact sym3_calls n (sym_below n) R c N a m b p l r q w F h hN ha hm hb (by omega) (by omega) hl hr ht hn (by omega)
theorem sym_calls (R c N a m b : Nat) (p l r q : List TE) (w : World) (F : Nat → Prop) (h : (Own 58 tcells 7 (.slice (some ⟨R,0,none⟩) N c) (p ++ l ++ r ++ q)).at_ w F)
 (hN : N = (p ++ l ++ r ++ q).length) (ha : a = p.length) (hm : m = a + l.length) (hb : b = m + r.length) (h1 : 0 < l.length) (h2 : 0 < r.length) (hl : Srt l) (hr : Srt r) (ht : ∀ x ∈ l,∀ y ∈ r,x.2 < y.2) (hn : N ≤ 65536) :
 Calls Tryz.prog 154 #[.slice (some ⟨R,0,none⟩) N c,.int .i64 a,.int .i64 m,.int .i64 b,.func (.func 72) #[] #[]] w (SymPost F R c N p l r q w):=
 sym_below (l.length + r.length + 1) R c N a m b p l r q w F h hN ha hm hb h1 h2 hl hr ht hn (by omega)
end Go.Proofs.YtmjljoaakdocaaaGreatDoor
/- Stable sorting, plain: runs that are merged, and what the sorted list is. -/
namespace Go.Proofs.YtmjljoaakdocaaaGreatDoor
def InT (a : Nat) (l : List TE) : Prop:=∀ x ∈ l,a ≤ x.2 ∧ x.2 < a + l.length
inductive Runs (k : Nat) : Nat → List TE → Prop
 | last {a : Nat} {l : List TE} : l.length ≤ k → Srt l → InT a l → Runs k a l
 | cons {a : Nat} {l r : List TE} : l.length = k → Srt l → InT a l → Runs k (a + k) r → Runs k a (l ++ r)
structure Done (k a : Nat) (d : List TE) : Prop where
 len : d.length = a
 go : ∀ r,Runs k a r → Runs k 0 (d ++ r)
theorem Done.start (k : Nat) : Done k 0 []:=⟨rfl,fun _ h=>h⟩
theorem Done.step {k a : Nat} {d l : List TE} (h : Done k a d) (hl : l.length = k) (hs : Srt l) (hi : InT a l) : Done k (a + k) (d ++ l):=
 ⟨by rw [List.length_append,h.len,hl],fun r hr=>by rw [List.append_assoc];exact h.go _ (.cons hl hs hi hr)⟩
theorem InT.perm {a : Nat} {l m : List TE} (h : InT a l) (hp : m.Perm l) : InT a m:=fun x hx=>by
 have:=h x (hp.mem_iff.1 hx)
 rw [hp.length_eq];exact this
theorem InT.two {a k : Nat} {l m : List TE} (h1 : InT a l) (h2 : InT (a + k) m) (hl : l.length = k) : InT a (l ++ m) ∧ ∀ x ∈ l,∀ y ∈ m,x.2 < y.2:=by
 refine ⟨fun x hx=>?_,fun x hx y hy=>?_⟩
 · rw [List.length_append]
   rcases List.mem_append.1 hx with h | h
   · have:=h1 x h;omega
   · have:=h2 x h;omega
 · have:=h1 x hx;have:=h2 y hy;omega
theorem runs_two {k a : Nat} {r : List TE} (h : Runs k a r) (hk : 0 < k) (hl : 2 * k ≤ r.length) :
 ∃ l1 l2 r2 : List TE,r = l1 ++ l2 ++ r2 ∧ l1.length = k ∧ l2.length = k ∧ Srt l1 ∧ Srt l2 ∧ InT a l1 ∧ InT (a + k) l2 ∧ Runs k (a + 2 * k) r2:=by
 cases h with
 | last h1 h2 h3=>omega
 | @cons _ l r h1 h2 h3 h4=>
   cases h4 with
   | last g1 g2 g3=>
     have : r.length = k:=by simp at hl;omega
     exact ⟨l,r,[],by simp,h1,this,h2,g2,h3,g3,.last (by simp) List.Pairwise.nil (fun x hx=>by cases hx)⟩
   | @cons _ l' r' g1 g2 g3 g4=>exact ⟨l,l',r',by simp,h1,g1,h2,g2,h3,g3,by rw [show a + 2 * k = a + k + k by omega];exact g4⟩
theorem runs_one {k a : Nat} {r : List TE} (h : Runs k a r) (hl : r.length < 2 * k) (hl2 : k < r.length) :
 ∃ l1 l2 : List TE,r = l1 ++ l2 ∧ l1.length = k ∧ Srt l1 ∧ Srt l2 ∧ InT a l1 ∧ InT (a + k) l2:=by
 cases h with
 | last h1 h2 h3=>omega
 | @cons _ l r h1 h2 h3 h4=>
   cases h4 with
   | last g1 g2 g3=>exact ⟨l,r,rfl,h1,h2,g2,h3,g3⟩
   | @cons _ l' r' g1 g2 g3 g4=>
     have : r' = []:=List.eq_nil_of_length_eq_zero (by simp at hl;omega)
     subst this
     exact ⟨l,l' ++ [],rfl,h1,h2,by rw [List.append_nil];exact g2,h3,by rw [List.append_nil];exact g3⟩
theorem runs_srt {k a : Nat} {r : List TE} (h : Runs k a r) (hl : r.length ≤ k) : Srt r ∧ InT a r:=by
 cases h with
 | last h1 h2 h3=>exact ⟨h2,h3⟩
 | @cons _ l r h1 h2 h3 h4=>
   have : r = []:=List.eq_nil_of_length_eq_zero (by simp at hl;omega)
   subst this
   rw [List.append_nil];exact ⟨h2,h3⟩
def tag (l : List Event) : List TE:=l.zipIdx
theorem tag_len (l : List Event) : (tag l).length = l.length:=by simp [tag]
theorem tag_get (l : List Event) (i : Nat) : (tag l)[i]? = l[i]?.map fun x=>(x,i):=by simp [tag,List.getElem?_zipIdx]
theorem tag_map (l : List Event) : (tag l).map (·.1) = l:=by
 apply List.ext_getElem?
 intro i
 rw [List.getElem?_map,tag_get]
 cases l[i]? <;> rfl
theorem tag_idx {l : List Event} {i : Nat} {x : TE} (h : (tag l)[i]? = some x) : x.2 = i:=by
 rw [tag_get] at h
 obtain ⟨y,_,rfl⟩:=Option.map_eq_some_iff.1 h
 rfl
theorem tag_rise (l : List Event) : (tag l).Pairwise (fun x y=>x.2 < y.2):=by
 rw [List.pairwise_iff_getElem]
 intro i j hi hj hij
 rw [tag_idx (List.getElem?_eq_getElem hi),tag_idx (List.getElem?_eq_getElem hj)];exact hij
theorem tag_in (l : List Event) (a n : Nat) (h : a + n ≤ l.length) : InT a (((tag l).drop a).take n):=fun x hx=>by
 obtain ⟨k,hk,rfl⟩:=List.mem_take_iff_getElem.1 hx
 have hk2 : k < ((tag l).drop a).length:=by omega
 have e:=tag_idx (l:=l) (i:=a + k) (x:=((tag l).drop a)[k]) (by rw [← List.getElem?_drop];exact List.getElem?_eq_getElem hk2)
 rw [e]
 simp only [List.length_take,List.length_drop,tag_len]
 rw [List.length_drop,tag_len] at hk2
 omega
def insE (out : List Event) (x : Event) : List Event:=out.takeWhile (fun y=>!x.key.lt y.key) ++ x :: out.dropWhile (fun y=>!x.key.lt y.key)
def sortE (l : List Event) : List Event:=l.foldl insE []
def insT (out : List TE) (x : TE) : List TE:=out.takeWhile (fun y=>!tless x y) ++ x :: out.dropWhile (fun y=>!tless x y)
theorem insT_map (out : List TE) (x : TE) : (insT out x).map (·.1) = insE (out.map (·.1)) x.1:=by
 simp only [insT,insE,List.map_append,List.map_cons,List.takeWhile_map,List.dropWhile_map]
 rfl
theorem tw_mem {α : Type} {p : α → Bool} : ∀ {l : List α} {z : α},z ∈ l.takeWhile p → p z = true
 | [],z,h=>by simp at h
 | a :: l,z,h=>by
   rw [List.takeWhile_cons] at h
   split at h
   · rename_i ha
     rcases List.mem_cons.1 h with rfl | h
     · exact ha
     · exact tw_mem h
   · simp at h
theorem insT_perm (out : List TE) (x : TE) : (insT out x).Perm (x :: out):=by
 refine List.perm_middle.trans ?_
 rw [List.takeWhile_append_dropWhile]
theorem insT_srt {out : List TE} {x : TE} (hs : Srt out) (ht : ∀ y ∈ out,y.2 < x.2) : Srt (insT out x):=by
 have y1 : ∀ z ∈ out.takeWhile (fun y=>!tless x y),slt z x:=fun z hz=>by
  have h1:=tw_mem hz
  exact slt_no (by simpa using h1) (ht z ((List.takeWhile_sublist _).subset hz))
 have hd : Srt (out.dropWhile (fun y=>!tless x y)):=hs.sublist (List.dropWhile_sublist _)
 have y2 : ∀ z ∈ out.dropWhile (fun y=>!tless x y),slt x z:=by
  cases hq : out.dropWhile (fun y=>!tless x y) with
  | nil=>intro z hz;cases hz
  | cons y r=>
    have hy : tless x y = true:=by
     have:=List.head?_dropWhile_not (p:=fun y=>!tless x y) (l:=out)
     rw [hq] at this;simpa using this
    rw [hq] at hd
    intro z hz
    rcases List.mem_cons.1 hz with rfl | hz
    · exact slt_yes hy
    · exact slt_trans (slt_yes hy) ((List.pairwise_cons.1 hd).1 z hz)
 refine List.pairwise_append.2 ⟨hs.sublist (List.takeWhile_sublist _),List.pairwise_cons.2 ⟨y2,hd⟩,fun u hu v hv=>?_⟩
 rcases List.mem_cons.1 hv with rfl | hv
 · exact y1 u hu
 · exact slt_trans (y1 u hu) (y2 v hv)
theorem foldT : ∀ (l out : List TE),Srt out → (∀ x ∈ out,∀ y ∈ l,x.2 < y.2) → l.Pairwise (fun x y=>x.2 < y.2) → Srt (l.foldl insT out) ∧ (l.foldl insT out).Perm (out ++ l) ∧ (l.foldl insT out).map (·.1) = (l.map (·.1)).foldl insE (out.map (·.1))
 | [],out,hs,_,_=>by simpa using hs
 | x :: l,out,hs,ht,hl=>by
   have hl':=List.pairwise_cons.1 hl
   have hp:=insT_perm out x
   have h1:=insT_srt (x:=x) hs (fun y hy=>ht y hy x (by simp))
   obtain ⟨g1,g2,g3⟩:=foldT l (insT out x) h1 (fun y hy z hz=>by
    rcases List.mem_cons.1 (hp.mem_iff.1 hy) with rfl | hy
    · exact hl'.1 z hz
    · exact ht y hy z (by simp [hz])) hl'.2
   refine ⟨g1,?_,by rw [List.foldl_cons,g3,insT_map];rfl⟩
   rw [List.foldl_cons]
   refine g2.trans ((hp.append_right l).trans ?_)
   exact (List.perm_middle (l₁:=out)).symm
theorem sortE_of {l : List Event} {ys : List TE} (hp : ys.Perm (tag l)) (hs : Srt ys) : ys.map (·.1) = sortE l:=by
 obtain ⟨g1,g2,g3⟩:=foldT (tag l) [] List.Pairwise.nil (fun x hx=>by cases hx) (tag_rise l)
 rw [srt_uniq hs g1 (hp.trans (by simpa using g2.symm)),g3,tag_map];rfl
theorem sortE_ex (l : List Event) : ∃ ys : List TE,ys.Perm (tag l) ∧ Srt ys ∧ ys.map (·.1) = sortE l:=by
 obtain ⟨g1,g2,g3⟩:=foldT (tag l) [] List.Pairwise.nil (fun x hx=>by cases hx) (tag_rise l)
 exact ⟨_,by simpa using g2,g1,by rw [g3,tag_map];rfl⟩
theorem sortE_perm (l : List Event) : (sortE l).Perm l:=by
 obtain ⟨ys,h1,_,h3⟩:=sortE_ex l
 rw [← h3]
 have:=h1.map (·.1)
 rwa [tag_map] at this
theorem sortE_len (l : List Event) : (sortE l).length = l.length:=(sortE_perm l).length_eq
end Go.Proofs.YtmjljoaakdocaaaGreatDoor
/- The walk of slices.SortStableFunc. -/
namespace Go.Proofs.YtmjljoaakdocaaaGreatDoor
open Go Go.RowKit Reg Mem
open List (set_cons_succ set_cons_zero setIfInBounds_toArray cons_append nil_append)
def St1Rel (F : Nat → Prop) (R c N : Nat) (xs : List TE) (w : World) (av bv : Value) (wr : World) : Prop:=
 ∃ (a : Nat) (d : List TE),av = .int .i64 a ∧ bv = .int .i64 ((a + 20 : Nat) : Int) ∧ a ≤ N ∧ Done 20 a d ∧ d.Perm (xs.take a) ∧ St F w wr [Own 58 tcells 7 (.slice (some ⟨R,0,none⟩) N c) (d ++ xs.drop a)]
def St2Rel (F : Nat → Prop) (R c N : Nat) (xs : List TE) (w : World) (kv : Value) (wr : World) : Prop:=
 ∃ (k : Nat) (ys : List TE),kv = .int .i64 k ∧ 0 < k ∧ k ≤ 131072 ∧ Runs k 0 ys ∧ ys.Perm xs ∧ St F w wr [Own 58 tcells 7 (.slice (some ⟨R,0,none⟩) N c) ys]
def St3Rel (F : Nat → Prop) (R c N k : Nat) (xs : List TE) (w : World) (av bv : Value) (wr : World) : Prop:=
 ∃ (a : Nat) (d r : List TE),av = .int .i64 a ∧ bv = .int .i64 ((a + 2 * k : Nat) : Int) ∧ a ≤ N ∧ Done (2 * k) a d ∧ Runs k a r ∧ (d ++ r).Perm xs ∧ St F w wr [Own 58 tcells 7 (.slice (some ⟨R,0,none⟩) N c) (d ++ r)]
def StabPost (F : Nat → Prop) (R c N : Nat) (xs : List TE) (w : World) (e : Ending) (w' : World) : Prop:=
 e = .returned (.tuple #[]) ∧ ∃ ys : List TE,ys.Perm xs ∧ Srt ys ∧ St F w w' [Own 58 tcells 7 (.slice (some ⟨R,0,none⟩) N c) ys]
theorem stable_calls (R c N : Nat) (l : List Event) (w : World) (F : Nat → Prop) (h : (Own 58 tcells 7 (.slice (some ⟨R,0,none⟩) N c) (tag l)).at_ w F) (hN : N = l.length) (hn : N ≤ 65536) :
 Calls Tryz.prog 113 #[.slice (some ⟨R,0,none⟩) N c,.int .i64 N,.func (.func 72) #[] #[]] w (StabPost F R c N (tag l) w):=by
 have S:=St.one w h
 clear h
 have HI : Hid (∀ a n,a + n ≤ N → InT a (((tag l).drop a).take n)):=fun a n h=>tag_in l a n (by omega)
 have HR:=Lib.hid (tag_rise l)
 have HL : Hid ((tag l).length = N):=by rw [tag_len];exact hN.symm
 clear hN
 generalize tag l = xs at *
 go_enter Tryz.func113,Tryz.ntmps113
 go_wp2_with first | ((with_reducible refine tot_done ?ht ?_);(case ht=>kernel_rfl))
 go_loopw [7,8] (fun a b wr=>St1Rel F R c N xs w a b wr) (fun a _ _=>(N - intOf a).toNat)
 case atStart=>exact ⟨0,[],rfl,rfl,Nat.zero_le _,Done.start _,by simp,S⟩
 case round=>
  clear S
  obtain ⟨a,d,rfl,rfl,haN,hd,hp,S⟩:=hrel
  have hdl:=hd.len
  by_cases hlt : a + 20 ≤ N
  · have hlt2 : (a : Int) + 20 ≤ N:=by omega
    have e1 : d ++ xs.drop a = d ++ (xs.drop a).take 20 ++ xs.drop (a + 20):=by
     rw [List.append_assoc,← List.drop_drop,List.take_append_drop]
    have l1 : ((xs.drop a).take 20).length = 20:=by simp;have:=HL.out;omega
    have hpw : ((xs.drop a).take 20).Pairwise (fun x y=>x.2 < y.2):=(HR.out.sublist (List.drop_sublist _ _)).sublist (List.take_sublist _ _)
    have HE:=Lib.hid e1
    rw [HE.out] at S
    have HI2:=Lib.hid (HI.out a 20 hlt)
    have hlen : N = (d ++ (xs.drop a).take 20 ++ xs.drop (a + 20)).length:=by rw [← e1];simp;have:=HL.out;omega
    have Hdl:=Lib.hid hdl
    have L1:=Lib.hid l1
    have Hpw:=Lib.hid hpw
    have Hd:=Lib.hid hd
    have Hp:=Lib.hid hp
    have Hlen:=Lib.hid hlen
    clear hdl l1 hpw hd hp hlen
    clear e1
    go_wp2_with first | (go_at_call 153;obtain ⟨Fz,hF,hBk⟩:=S.lend1 0 rfl rfl;refine Calls.mono (insert_calls R c N a (a + 20) d ((xs.drop a).take 20) (xs.drop (a + 20)) _ _ hF Hlen.out Hdl.out.symm (by have:=L1.out;omega) hn Hpw.out) ?_;rintro e wz ⟨rfl,s,hs1,hs2,T⟩;replace S:=hBk _ _ rfl T;clear hBk hF T;simp only [set_cons_zero] at S)
    have hsl:=hs1.length_eq
    go_roundw
    case rel=>exact ⟨a + 20,d ++ s,by go_num,by go_num,by omega,Hd.out.step (by rw [hsl];exact L1.out) hs2 (HI2.out.perm hs1),by rw [List.take_add];exact Hp.out.append hs1,S⟩
    case measure=>first | (simp [intOf];done) | (simp [intOf];omega)
  · have hlt2 : ¬ (a : Int) + 20 ≤ N:=by omega
    have HE : Hid (d ++ xs.drop a = d ++ xs.drop a ++ []):=by simp [Hid]
    rw [HE.out] at S
    have hpw : (xs.drop a).Pairwise (fun x y=>x.2 < y.2):=HR.out.sublist (List.drop_sublist _ _)
    have HI2:=Lib.hid (HI.out a (N - a) (by omega))
    have hlen : N = (d ++ xs.drop a ++ []).length:=by simp;have:=HL.out;omega
    have l1 : (xs.drop a).length = N - a:=by simp;have:=HL.out;omega
    have Hdl:=Lib.hid hdl
    have L1:=Lib.hid l1
    have Hpw:=Lib.hid hpw
    have Hd:=Lib.hid hd
    have Hp:=Lib.hid hp
    have Hlen:=Lib.hid hlen
    clear hdl l1 hpw hd hp hlen
    go_wp2_with first | (go_at_call 153;obtain ⟨Fz,hF,hBk⟩:=S.lend1 0 rfl rfl;refine Calls.mono (insert_calls R c N a N d (xs.drop a) [] _ _ hF Hlen.out Hdl.out.symm (by have:=L1.out;omega) hn Hpw.out) ?_;rintro e wz ⟨rfl,s,hs1,hs2,T⟩;replace S:=hBk _ _ rfl T;clear hBk hF T;simp only [set_cons_zero] at S)
    have hsl:=hs1.length_eq
    have HP : Hid ((d ++ s ++ []).Perm xs):=by
     have:=Hp.out.append hs1
     rw [List.take_append_drop] at this
     simpa [Hid] using this
    have HRun : Hid (Runs 20 0 (d ++ s ++ [])):=by
     have e : (xs.drop a).take (N - a) = xs.drop a:=List.take_of_length_le (by have:=L1.out;omega)
     have h1:=HI2.out
     rw [e] at h1
     rw [List.append_nil]
     exact Hd.out.go _ (.last (by rw [hsl];have:=L1.out;omega) hs2 (h1.perm hs1))
    clear hs1 hs2 hsl
    generalize d ++ s ++ [] = ys at *
    go_loopw [6] (fun kv wr=>St2Rel F R c N xs w kv wr) (fun kv _=>(N - intOf kv).toNat)
    case atStart=>exact ⟨20,ys,rfl,by omega,by omega,HRun.out,HP.out,S⟩
    case round=>
     clear S HP HRun
     obtain ⟨k,ys,rfl,hk0,hkM,hrun,hp2,S⟩:=hrel
     have hyl : ys.length = N:=by rw [hp2.length_eq];exact HL.out
     by_cases hkN : k < N
     · have hkN2 : (k : Int) < N:=by omega
       have Hrun:=Lib.hid hrun
       have Hp2:=Lib.hid hp2
       have Hyl:=Lib.hid hyl
       clear hp2 hyl
       clear hrun
       go_wp2_with first | ((with_reducible refine tot_done ?ht ?_);(case ht=>kernel_rfl))
       go_loopw [7,8] (fun a b wr=>St3Rel F R c N k xs w a b wr) (fun a _ _=>(N - intOf a).toNat)
       case atStart=>exact ⟨0,[],ys,rfl,by go_num,Nat.zero_le _,Done.start _,Hrun.out,by simpa using Hp2.out,by simpa using S⟩
       case round=>
        clear S Hrun Hp2 Hyl
        obtain ⟨a,d,r,rfl,rfl,haN,hd,hrun,hp3,S⟩:=hrel
        have hdl:=hd.len
        have hlen : d.length + r.length = N:=by have:=hp3.length_eq;rw [List.length_append] at this;rw [this];exact HL.out
        by_cases hab : a + 2 * k ≤ N
        · have hab2 : (a : Int) + 2 * k ≤ N:=by omega
          obtain ⟨l1,l2,r2,rfl,g1,g2,g3,g4,g5,g6,g7⟩:=runs_two hrun hk0 (by omega)
          obtain ⟨i1,i2⟩:=g5.two g6 g1
          have HE : Hid (d ++ (l1 ++ l2 ++ r2) = d ++ l1 ++ l2 ++ r2):=by simp [Hid]
          rw [HE.out] at S
          have hlen2 : N = (d ++ l1 ++ l2 ++ r2).length:=by simp at hlen ⊢;omega
          have Hdl:=Lib.hid hdl
          have Hlen:=Lib.hid hlen
          have Hd:=Lib.hid hd
          have Hrun:=Lib.hid hrun
          have Hp3:=Lib.hid hp3
          have G1:=Lib.hid g1
          have G2:=Lib.hid g2
          have G3:=Lib.hid g3
          have G4:=Lib.hid g4
          have G5:=Lib.hid g5
          have G6:=Lib.hid g6
          have G7:=Lib.hid g7
          have I1:=Lib.hid i1
          have I2:=Lib.hid i2
          have Hlen2:=Lib.hid hlen2
          clear hdl hlen hd hrun hp3 g1 g2 g3 g4 g5 g6 g7 i1 i2 hlen2
          go_wp2_with first | (go_at_call 154;obtain ⟨Fz,hF,hBk⟩:=S.lend1 0 rfl rfl;refine Calls.mono (sym_calls R c N a (a + k) (a + 2 * k) d l1 l2 r2 _ _ hF Hlen2.out Hdl.out.symm (by have:=G1.out;omega) (by have:=G2.out;omega) (by have:=G1.out;omega) (by have:=G2.out;omega) G3.out G4.out I2.out hn) ?_;rintro e wz ⟨rfl,ys,⟨s,hs1,hs2,rfl⟩,T⟩;replace S:=hBk _ _ rfl T;clear hBk hF T;simp only [set_cons_zero] at S)
          have hsl:=hs1.length_eq
          go_roundw
          case rel=>exact ⟨a + 2 * k,d ++ s,r2,by go_num,by go_num,by omega,Hd.out.step (by rw [hsl,List.length_append,G1.out,G2.out];omega) hs2 (I1.out.perm hs1),G7.out,((hs1.append_left d).append_right r2).trans (by have:=Hp3.out;rwa [HE.out,List.append_assoc d] at this),S⟩
          case measure=>first | (simp [intOf];done) | (simp [intOf];omega)
        · have hab2 : ¬ (a : Int) + 2 * k ≤ N:=by omega
          by_cases hm : a + k < N
          · have hm2 : (a : Int) + k < N:=by omega
            obtain ⟨l1,l2,rfl,g1,g3,g4,g5,g6⟩:=runs_one hrun (by omega) (by omega)
            obtain ⟨i1,i2⟩:=g5.two g6 g1
            have g2 : l2.length = N - (a + k):=by simp at hlen;omega
            have HE : Hid (d ++ (l1 ++ l2) = d ++ l1 ++ l2 ++ []):=by simp [Hid]
            rw [HE.out] at S
            have hlen2 : N = (d ++ l1 ++ l2 ++ []).length:=by simp at hlen ⊢;omega
            have Hdl:=Lib.hid hdl
            have Hlen:=Lib.hid hlen
            have Hd:=Lib.hid hd
            have Hrun:=Lib.hid hrun
            have Hp3:=Lib.hid hp3
            have G1:=Lib.hid g1
            have G2:=Lib.hid g2
            have G3:=Lib.hid g3
            have G4:=Lib.hid g4
            have G5:=Lib.hid g5
            have G6:=Lib.hid g6
            have I1:=Lib.hid i1
            have I2:=Lib.hid i2
            have Hlen2:=Lib.hid hlen2
            clear hdl hlen hd hrun hp3 g1 g2 g3 g4 g5 g6 i1 i2 hlen2
            go_wp2_with first | (go_at_call 154;obtain ⟨Fz,hF,hBk⟩:=S.lend1 0 rfl rfl;refine Calls.mono (sym_calls R c N a (a + k) N d l1 l2 [] _ _ hF Hlen2.out Hdl.out.symm (by have:=G1.out;omega) (by have:=G2.out;omega) (by have:=G1.out;omega) (by have:=G2.out;omega) G3.out G4.out I2.out hn) ?_;rintro e wz ⟨rfl,ys,⟨s,hs1,hs2,rfl⟩,T⟩;replace S:=hBk _ _ rfl T;clear hBk hF T;simp only [set_cons_zero] at S)
            have hsl:=hs1.length_eq
            go_roundw
            case rel=>exact ⟨2 * k,d ++ s ++ [],by go_num,by omega,by omega,by rw [List.append_nil];exact Hd.out.go _ (.last (by rw [hsl,List.length_append,G1.out,G2.out];omega) hs2 (I1.out.perm hs1)),by rw [List.append_nil];exact (hs1.append_left d).trans Hp3.out,S⟩
            case measure=>first | (simp [intOf];done) | (simp [intOf];omega)
          · have hm2 : ¬ (a : Int) + k < N:=by omega
            obtain ⟨g1,g2⟩:=runs_srt hrun (by omega)
            have HRun : Hid (Runs (2 * k) 0 (d ++ r)):=hd.go _ (.last (by omega) g1 g2)
            have Hdl:=Lib.hid hdl
            have Hlen:=Lib.hid hlen
            have Hd:=Lib.hid hd
            have Hrun:=Lib.hid hrun
            have Hp3:=Lib.hid hp3
            have G1:=Lib.hid g1
            have G2:=Lib.hid g2
            clear hdl hlen hd hrun hp3 g1 g2
            go_wp2_with first | ((with_reducible refine tot_done ?ht ?_);(case ht=>kernel_rfl))
            go_roundw
            case rel=>exact ⟨2 * k,d ++ r,by go_num,by omega,by omega,HRun.out,Hp3.out,S⟩
            case measure=>first | (simp [intOf];done) | (simp [intOf];omega)
     · have hkN2 : ¬ (k : Int) < N:=by omega
       have HS:=Lib.hid (runs_srt hrun (by omega)).1
       have Hrun:=Lib.hid hrun
       have Hp2:=Lib.hid hp2
       have Hyl:=Lib.hid hyl
       clear hp2 hyl
       clear hrun
       go_wp2_with first | ((with_reducible refine tot_done ?ht ?_);(case ht=>kernel_rfl))
       go_end0
       exact ⟨rfl,ys,Hp2.out,HS.out,S⟩
theorem stableF_calls (R c N : Nat) (l : List Event) (w : World) (F : Nat → Prop) (h : (Own 58 tcells 7 (.slice (some ⟨R,0,none⟩) N c) (tag l)).at_ w F) (hN : N = l.length) (hn : N ≤ 65536) :
 Calls Tryz.prog 71 #[.slice (some ⟨R,0,none⟩) N c,.func (.func 72) #[] #[]] w (StabPost F R c N (tag l) w):=by
 have S:=St.one w h
 clear h
 have HN:=Lib.hid hN
 clear hN
 go_enter Tryz.func71,Tryz.ntmps71
 go_wp2_with first | (go_at_call 113;obtain ⟨Fz,hF,hBk⟩:=S.lend1 0 rfl rfl;refine Calls.mono (stable_calls R c N l _ _ hF HN.out hn) ?_;rintro e wz ⟨rfl,ys,hy1,hy2,T⟩;replace S:=hBk _ _ rfl T;clear hBk hF T;simp only [set_cons_zero] at S)
 go_end0
 exact ⟨rfl,ys,hy1,hy2,S⟩
end Go.Proofs.YtmjljoaakdocaaaGreatDoor
/- The walk of keys.Sort. -/
namespace Go.Proofs.YtmjljoaakdocaaaGreatDoor
open Go Go.RowKit Reg Mem
open List (set_cons_succ set_cons_zero setIfInBounds_toArray cons_append nil_append)
theorem ecells : ∀ e : Event,e.cells.length = 7:=fun _=>rfl
theorem eone : ∀ e : Event,∀ u ∈ e.cells,u.oneCell' = true:=fun _=>by simp [Event.cells,Value.oneCell']
theorem elem_Ev : Elem Tryz.prog 53 58 7 56:=⟨_,.agg #[.int .i64 0,.int .i64 0,.int .i64 0,.int .i64 0,.int .i64 0,.int .i64 0,.int .i64 0],Tryz.underlying53,rfl,by kernel_rfl,by kernel_rfl,by kernel_rfl,by kernel_rfl,by omega⟩
theorem clone_Ev {ad : Option Addr} {n c : Nat} {xs : List _} (w : World) (F : Nat → Prop) (h : (Sl true Event.cells 7 (.slice ad n c) xs).at_ w F) (hn : xs.length ≤ 4294967296) :
 Calls Tryz.prog 70 #[.slice ad n c] w fun e w'=>∃ ad' c',e = .returned (.slice ad' xs.length c') ∧ (0 < xs.length → ∃ R,ad' = some ⟨R,0,none⟩) ∧ St (fun _=>False) w w' [Own 58 Event.cells 7 (.slice ad' xs.length c') xs]:=by
 have S : St (fun _=>False) w w [Sl true Event.cells 7 (.slice ad n c) xs]:=(St.init _ w).share rfl rfl h
 have hq : ∀ (w : World) (a : Option Addr) (n c n' c' : Nat),(binOp .eql 53 (.slice a n c) (.slice none n' c')).run Tryz.prog w = .ok (.bool a.isNone) w:=fun w a n c n' c'=>Lib.run_eql_slice_nil w _ _ a n c n' c' Tryz.underlying53
 cases ad with
 | none=>
   have hx : xs = []:=by
    obtain ⟨a,c',e,h1,h2,_⟩:=h.1
    simp only [Value.slice.injEq] at e
    obtain ⟨rfl,rfl,rfl⟩:=e
    exact List.eq_nil_of_length_eq_zero (by have:=h2 rfl;omega)
   subst hx
   go_enter Tryz.func70,Tryz.ntmps70
   go_wp2_with first | ((with_reducible refine tot_done ?ht ?_);(case ht=>kernel_rfl))
   go_ret
   exact ⟨_,_,rfl,fun h=>absurd h (by simp),((S.nil 58 Event.cells 7).pick [0] rfl)⟩
 | some a0=>
   go_enter Tryz.func70,Tryz.ntmps70
   go_wp2_with first | ((with_reducible apply wps_build0 (T:=53) (E:=58) Event.cells 7 S);(case hr=>intro w;kernel_rfl);clear S;intro bz wz S) | ((with_reducible apply wps_appends elem_Ev ecells eone (by decide) S 0 (j:=1));(case hx|hy|hi|hj=>rfl);(case hl=>first | omega | (simp;omega));clear S;intro az nz cz wz hnz S;simp only [set_cons_zero] at S)
   go_ret
   obtain rfl : nz = xs.length:=by have:=hnz.out;simp at this;omega
   simp only [nil_append] at S
   refine ⟨_,_,rfl,fun h0=>?_,S.pick [0] rfl⟩
   obtain ⟨F,hF⟩:=S.get (i:=0) rfl
   rcases hF.1.2 with ⟨_,e⟩ | ⟨g,cap,cur,e,_⟩
   · omega
   · simp only [Value.slice.injEq] at e;exact ⟨g,e.1⟩
theorem insert0_calls (ad : Option Addr) (c : Nat) (cv : Value) (w : World) : Calls Tryz.prog 153 #[.slice ad 0 c,.int .i64 0,.int .i64 0,cv] w fun e w'=>e = .returned (.tuple #[]) ∧ Below w.heap.size w w':=by
 have S:=St.init (fun _=>False) w
 go_enter Tryz.func153,Tryz.ntmps153
 go_wp2_with first | ((with_reducible apply wps_loada (T:=58) (k:=7) S 3);(case hx|hi=>rfl);(case hk=>exact nle rfl);(case hT=>decide +kernel))
 go_loopw [8,9] (fun i _ wr=>i = .int .i64 1 ∧ St (fun _=>False) w wr []) (fun _ _ _=>0)
 case atStart=>exact ⟨rfl,S⟩
 case round=>
  clear S
  obtain ⟨rfl,S⟩:=hrel
  go_wp2_with first | ((with_reducible apply wps_loada (T:=58) (k:=7) S 3);(case hx|hi=>rfl);(case hk=>exact nle rfl);(case hT=>decide +kernel))
  go_end0
  exact ⟨rfl,S.below⟩
theorem stable0_calls (ad : Option Addr) (c : Nat) (cv : Value) (w : World) : Calls Tryz.prog 113 #[.slice ad 0 c,.int .i64 0,cv] w fun e w'=>e = .returned (.tuple #[]) ∧ Below w.heap.size w w':=by
 have S:=St.init (fun _=>False) w
 go_enter Tryz.func113,Tryz.ntmps113
 go_wp2_with first | ((with_reducible refine tot_done ?ht ?_);(case ht=>kernel_rfl))
 go_loopw [7,8] (fun a b wr=>a = .int .i64 0 ∧ b = .int .i64 20 ∧ St (fun _=>False) w wr []) (fun _ _ _=>0)
 case atStart=>exact ⟨rfl,rfl,S⟩
 case round=>
  clear S
  obtain ⟨rfl,rfl,S⟩:=hrel
  go_wp2_with first | (go_at_call 153;refine Calls.mono (insert0_calls _ _ _ _) ?_;rintro e wz ⟨rfl,hE⟩;replace S:=S.ext (Keep.of_below hE);clear hE)
  go_loopw [6] (fun k wr=>k = .int .i64 20 ∧ St (fun _=>False) w wr []) (fun _ _=>0)
  case atStart=>exact ⟨rfl,S⟩
  case round=>
   clear S
   obtain ⟨rfl,S⟩:=hrel
   go_wp2_with first | ((with_reducible refine tot_done ?ht ?_);(case ht=>kernel_rfl))
   go_end0
   exact ⟨rfl,S.below⟩
theorem stableF0_calls (ad : Option Addr) (c : Nat) (cv : Value) (w : World) : Calls Tryz.prog 71 #[.slice ad 0 c,cv] w fun e w'=>e = .returned (.tuple #[]) ∧ Below w.heap.size w w':=by
 have S:=St.init (fun _=>False) w
 go_enter Tryz.func71,Tryz.ntmps71
 go_wp2_with first | (go_at_call 113;refine Calls.mono (stable0_calls _ _ _ _) ?_;rintro e wz ⟨rfl,hE⟩;replace S:=S.ext (Keep.of_below hE);clear hE)
 go_end0
 exact ⟨rfl,S.below⟩
theorem tag_flat (l : List Event) : flatE Event.cells l = flatE tcells (tag l):=by
 have e : tcells = fun x : TE=>Event.cells x.1:=rfl
 conv=>lhs;rw [← tag_map l]
 simp [flatE,e,List.flatMap_map]
theorem flat_tag (ys : List TE) : flatE tcells ys = flatE Event.cells (ys.map (·.1)):=by
 have e : tcells = fun x : TE=>Event.cells x.1:=rfl
 simp [flatE,e,List.flatMap_map]
def SortPost (l : List Event) (w : World) (e : Ending) (w' : World) : Prop:=
 ∃ ad c,e = .returned (.slice ad l.length c) ∧ St (fun _=>False) w w' [Own 58 Event.cells 7 (.slice ad l.length c) (sortE l)]
theorem sort_calls (v : Value) (l : List Event) (w : World) (F : Nat → Prop) (h : (Sl true Event.cells 7 v l).at_ w F) (hn : l.length ≤ 65536) : Calls Tryz.prog 43 #[v] w (SortPost l w):=by
 have S : St (fun _=>False) w w [Sl true Event.cells 7 v l]:=(St.init _ w).share rfl rfl h
 obtain ⟨ad,cp,rfl,_⟩:=(S.sl 0 rfl).elim fun _ h=>h.form
 clear h
 go_enter Tryz.func43,Tryz.ntmps43
 go_wp2_with first | ((with_reducible refine tot_done ?ht ?_);(case ht=>kernel_rfl))
 refine Calls.mono (clone_Ev _ _ (S.get (i:=0) rfl).choose_spec (by omega)) ?_
 rintro e wz ⟨ad2,c2,rfl,hhd,T⟩
 replace S:=S.join T rfl
 simp only [cons_append,nil_append] at S
 clear T
 by_cases h0 : l.length = 0
 · obtain rfl : l = []:=List.eq_nil_of_length_eq_zero h0
   clear hhd
   simp only [List.length_nil] at *
   go_wp2_with first | (go_at_call 71;refine Calls.mono (stableF0_calls _ _ _ _) ?_;rintro e wz ⟨rfl,hE⟩;replace S:=S.ext (Keep.of_below hE);clear hE)
   go_ret
   exact ⟨_,_,rfl,S.pick [0] rfl⟩
 · obtain ⟨R,rfl⟩:=hhd (by omega)
   clear hhd
   have S2:=S.conv 0 rfl (tag l) (tag_len l).symm (tag_flat l)
   clear S
   have S:=S2
   clear S2
   simp only [set_cons_zero] at S
   go_wp2_with first | (go_at_call 71;obtain ⟨Fz,hF,hBk⟩:=S.lend1 0 rfl rfl;refine Calls.mono (stableF_calls R c2 l.length l _ _ hF rfl hn) ?_;rintro e wz ⟨rfl,ys,hy1,hy2,T⟩;replace S:=hBk _ _ rfl T;clear hBk hF T;simp only [set_cons_zero] at S)
   go_ret
   have e1 : l.length = ys.length:=by rw [hy1.length_eq,tag_len]
   have S2:=S.conv 0 rfl (ys.map (·.1)) (by simp) (flat_tag ys)
   rw [sortE_of hy1 hy2] at S2
   simp only [set_cons_zero] at S2
   exact ⟨_,_,rfl,S2.pick [0] rfl⟩
end Go.Proofs.YtmjljoaakdocaaaGreatDoor
