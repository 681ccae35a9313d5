import Derived.Test.YtmjljoaakdocaaaGreatDoorY16
/- The walk of slices.SortStableFunc's merge. -/
set_option maxHeartbeats 16000000
set_option maxRecDepth 100000
namespace Go.Proofs.YtmjljoaakdocaaaGreatDoor
open Go Go.RowKit Reg Mem
open List (set_cons_succ set_cons_zero setIfInBounds_toArray cons_append nil_append)
def BsRel (F : Nat → Prop) (R c N : Nat) (xs : List TE) (f : Nat → Bool) (lo hi : Nat) (w : World) (iv jv : Value) (wr : World) : Prop:=
 ∃ (i j : Nat),iv = .int .i64 i ∧ jv = .int .i64 j ∧ BS f lo hi i j ∧ St F w wr [Own 58 tcells 7 (.slice (some ⟨R,0,none⟩) N c) xs]
def Mv1Rel (F : Nat → Prop) (R c N a : Nat) (p r q : List TE) (x : TE) (w : World) (kv : Value) (wr : World) : Prop:=
 ∃ (o k : Nat),k ≤ r.length ∧ kv = .int .i64 o ∧ o = a + k ∧ St F w wr [Own 58 tcells 7 (.slice (some ⟨R,0,none⟩) N c) (p ++ r.take k ++ x :: (r.drop k ++ q))]
def SymPost (F : Nat → Prop) (R c N : Nat) (p l r q : List TE) (w : World) (e : Ending) (w' : World) : Prop:=
 e = .returned (.tuple #[]) ∧ ∃ ys,Merged p l r q ys ∧ St F w w' [Own 58 tcells 7 (.slice (some ⟨R,0,none⟩) N c) ys]
theorem mv_step {p r q : List TE} {x y : TE} {k o : Nat} (hy : r[k]? = some y) (ho : o = p.length + k) :
 (p ++ r.take k ++ x :: (r.drop k ++ q))[o]? = some x ∧ (p ++ r.take k ++ x :: (r.drop k ++ q))[o + 1]? = some y ∧ (((p ++ r.take k ++ x :: (r.drop k ++ q)).set o y)[o + 1]? = some y) ∧
 ((p ++ r.take k ++ x :: (r.drop k ++ q)).set o y).set (o + 1) x = p ++ r.take (k + 1) ++ x :: (r.drop (k + 1) ++ q):=by
 obtain ⟨h1,e⟩:=List.getElem?_eq_some_iff.1 hy
 have hd : r.drop k = y :: r.drop (k + 1):=by rw [← e];exact List.drop_eq_getElem_cons h1
 have ht : r.take (k + 1) = r.take k ++ [y]:=by rw [List.take_add_one,hy];rfl
 have lt : (r.take k).length = k:=by simp;omega
 have e1 : (p ++ r.take k ++ x :: (r.drop k ++ q))[o]? = some x:=get_mid (by simp [lt];omega)
 have e2 : (p ++ r.take k ++ x :: (r.drop k ++ q))[o + 1]? = some y:=by
  have:=get_mid (p:=p ++ r.take k ++ [x]) (q:=r.drop (k + 1) ++ q) (x:=y) (k:=o + 1) (by simp [lt];omega)
  rw [hd];simpa using this
 refine ⟨e1,e2,by rw [List.getElem?_set_ne (by omega)];exact e2,?_⟩
 have s1:=set_mid (p:=p ++ r.take k) (q:=r.drop k ++ q) (x:=x) (y:=y) (k:=o) (by simp [lt];omega)
 have s2:=set_mid (p:=p ++ r.take k ++ [y]) (q:=r.drop (k + 1) ++ q) (x:=y) (y:=x) (k:=o + 1) (by simp [lt];omega)
 rw [s1,hd,ht]
 simpa using s2
theorem half_lt {i j : Nat} (h : i < j) : i ≤ (i + j) / 2 ∧ (i + j) / 2 < j:=by omega
theorem sym1_calls (R c N a m b : Nat) (p r q : List TE) (x : TE) (w : World) (F : Nat → Prop) (h : (Own 58 tcells 7 (.slice (some ⟨R,0,none⟩) N c) (p ++ [x] ++ r ++ q)).at_ w F)
 (hN : N = (p ++ [x] ++ r ++ q).length) (ha : a = p.length) (hm : m = a + 1) (hb : b = m + r.length) (hr0 : 0 < r.length) (hr : Srt r) (ht : ∀ y ∈ r,x.2 < y.2) (hn : N ≤ 65536) :
 Calls Tryz.prog 154 #[.slice (some ⟨R,0,none⟩) N c,.int .i64 a,.int .i64 m,.int .i64 b,.func (.func 72) #[] #[]] w (SymPost F R c N p [x] r q w):=by
 have S:=St.one w h
 have hP : Parts p [x] r q (p ++ [x] ++ r ++ q) a m b:=⟨rfl,ha,by simp [hm],hb⟩
 have HF:=Lib.hid (falls1 hP hr x)
 have HB0 : Hid (BS (fun k=>tless (att (p ++ [x] ++ r ++ q) k) x) m b m b):=BS.start (by omega)
 have hbN : b ≤ N:=by have:=hP.len;omega
 have HL : Hid (N = (p ++ [x] ++ r ++ q).length):=hN
 have HX : Hid ((p ++ [x] ++ r ++ q)[a]? = some x):=by have:=hP.left (k:=0) (by simp);simpa [Hid] using this
 have hab : a < m:=by omega
 have hmb : m < b:=by omega
 have hm1 : ((m : Int) - a) = 1:=by omega
 have hm2 : ((m : Int) - a == 1) = true:=by rw [hm1];rfl
 have Hm:=Lib.hid hm
 have HP:=Lib.hid hP
 have Ha:=Lib.hid ha
 have Hr:=Lib.hid hr
 have Ht:=Lib.hid ht
 have Hb:=Lib.hid hb
 clear h hN ha hm hb hr ht hP hm1 hr0
 obtain ⟨xs,Hxs⟩ : ∃ xs,Hid (p ++ [x] ++ r ++ q = xs):=⟨_,rfl⟩
 rw [Hxs.out] at S HF HB0 HL HX HP
 go_enter Tryz.func154,Tryz.ntmps154
 go_wp2_with first | ((with_reducible apply wps_loada (T:=58) (k:=7) S 3);(case hx|hi=>rfl);(case hk=>exact nle rfl);(case hT=>decide +kernel))
 go_loopw [10,11] (fun i j wr=>BsRel F R c N xs (fun k=>tless (att xs k) x) m b w i j wr) (fun i j _=>(intOf j - intOf i).toNat)
 case atStart=>exact ⟨m,b,rfl,rfl,HB0.out,S⟩
 case round=>
  clear S HB0
  obtain ⟨i,j,rfl,rfl,hB,S⟩:=hrel
  have b1:=hB.le1
  have b2:=hB.le2
  have b3:=hB.le3
  by_cases hij : i < j
  · have hh:=half_lt hij
    obtain ⟨k,hk⟩ : ∃ k,k = (i + j) / 2:=⟨_,rfl⟩
    rw [← hk] at hh
    have hk2 : ((i : Int) + j) / 2 = k:=by omega
    have HZ : Hid (xs[k]? = some (att xs k)):=some_att (by have:=HL.out;omega)
    have hkN : k < N:=by omega
    cases hc : tless (att xs k) x with
    | true=>
      have HC:=Lib.hid (cmpEv_yes hc)
      have HB2:=Lib.hid (hB.up HF.out hh.1 hh.2 hc)
      generalize att xs k = z at *
      have HB:=Lib.hid hB
      have Hc:=Lib.hid hc
      have Hk:=Lib.hid hk
      have B1:=Lib.hid b1
      clear hB hc hk b1
      go_wp2_with first | ((with_reducible apply wps_loada_own tlen S 0 (hj:=HX.out) (q:=0) (vs:=[.int .i64 x.1.key.at_,.int .i64 x.1.key.src,.int .i64 x.1.key.sent,.int .i64 x.1.key.no,.int .i64 x.1.dst,.int .i64 x.1.kind,.int .i64 x.1.data]) (m:=7));(case hx|hi=>rfl);(case hn=>omega);(case hm|hv=>rfl);(case hT=>decide +kernel)) | ((with_reducible apply wps_loada_own tlen S 0 (hj:=HZ.out) (q:=0) (vs:=[.int .i64 z.1.key.at_,.int .i64 z.1.key.src,.int .i64 z.1.key.sent,.int .i64 z.1.key.no,.int .i64 z.1.dst,.int .i64 z.1.kind,.int .i64 z.1.data]) (m:=7));(case hx|hi=>rfl);(case hn=>omega);(case hm|hv=>rfl);(case hT=>decide +kernel)) | (go_at_call 72;refine Calls.mono (HC.out _) ?_;rintro e wz ⟨rfl,hE⟩;replace S:=S.ext (Keep.of_below hE);clear hE) | ((with_reducible refine tot_done ?ht ?_);(case ht=>kernel_rfl)) | ((with_reducible apply wps_text S);(case hm=>kernel_rfl);(case hB=>decide +kernel);clear S;intro wz S)
      go_roundw
      case rel=>exact ⟨k + 1,j,by go_num,rfl,HB2.out,S⟩
      case measure=>first | (simp [intOf];done) | (simp [intOf];omega)
    | false=>
      have HC:=Lib.hid (cmpEv_no hc)
      have HB2:=Lib.hid (hB.down HF.out hh.1 hh.2 hc)
      generalize att xs k = z at *
      have HB:=Lib.hid hB
      have Hc:=Lib.hid hc
      have Hk:=Lib.hid hk
      have B1:=Lib.hid b1
      clear hB hc hk b1
      go_wp2_with first | ((with_reducible apply wps_loada_own tlen S 0 (hj:=HX.out) (q:=0) (vs:=[.int .i64 x.1.key.at_,.int .i64 x.1.key.src,.int .i64 x.1.key.sent,.int .i64 x.1.key.no,.int .i64 x.1.dst,.int .i64 x.1.kind,.int .i64 x.1.data]) (m:=7));(case hx|hi=>rfl);(case hn=>omega);(case hm|hv=>rfl);(case hT=>decide +kernel)) | ((with_reducible apply wps_loada_own tlen S 0 (hj:=HZ.out) (q:=0) (vs:=[.int .i64 z.1.key.at_,.int .i64 z.1.key.src,.int .i64 z.1.key.sent,.int .i64 z.1.key.no,.int .i64 z.1.dst,.int .i64 z.1.kind,.int .i64 z.1.data]) (m:=7));(case hx|hi=>rfl);(case hn=>omega);(case hm|hv=>rfl);(case hT=>decide +kernel)) | (go_at_call 72;refine Calls.mono (HC.out _) ?_;rintro e wz ⟨⟨cv,hcv,rfl⟩,hE⟩;have hcv2 : ¬ cv < 0:=(by omega);replace S:=S.ext (Keep.of_below hE);clear hE) | ((with_reducible refine tot_done ?ht ?_);(case ht=>kernel_rfl)) | ((with_reducible apply wps_text S);(case hm=>kernel_rfl);(case hB=>decide +kernel);clear S;intro wz S)
      go_roundw
      case rel=>exact ⟨i,k,rfl,rfl,HB2.out,S⟩
      case measure=>first | (simp [intOf];done) | (simp [intOf];omega)
  · obtain rfl : i = j:=by omega
    have HM:=Lib.hid (merge1 HP.out Hr.out Ht.out hB)
    have htl : (r.take (i - m)).length = i - m:=by simp;have:=Hb.out;omega
    have HS : Hid (xs = p ++ (r.take (i - m)).take 0 ++ x :: ((r.take (i - m)).drop 0 ++ (r.drop (i - m) ++ q))):=by
     rw [← Hxs.out]
     show p ++ [x] ++ r ++ q = _
     rw [List.take_zero,List.drop_zero,← List.append_assoc (r.take _),List.take_append_drop];simp
    rw [HS.out] at S
    obtain ⟨i',hi'⟩ : ∃ n,i = n + 1:=⟨i - 1,by omega⟩
    have gi : i - m = i' - a:=by have:=Hm.out;omega
    rw [gi] at S HM htl
    have gi2 : a ≤ i':=by have:=Hm.out;omega
    have gi3 : i' < i:=by omega
    have Hi':=Lib.hid hi'
    clear hi'
    have ga0 : i' < N:=by omega
    clear hB b1 gi
    go_wp2_with first | ((with_reducible apply wps_loada (T:=58) (k:=7) S 0);(case hx|hi=>rfl);(case hk=>exact nle rfl);(case hT=>decide +kernel))
    go_loopw [13] (fun kv wr=>Mv1Rel F R c N a p (r.take (i' - a)) (r.drop (i' - a) ++ q) x w kv wr) (fun kv _=>(i - intOf kv).toNat)
    case atStart=>exact ⟨a,0,Nat.zero_le _,rfl,rfl,S⟩
    case round=>
     clear S
     obtain ⟨o,k,hk,rfl,hok,S⟩:=hrel
     by_cases hlt : k < i' - a
     · obtain ⟨y,hy⟩ : ∃ y,(r.take (i' - a))[k]? = some y:=⟨_,List.getElem?_eq_getElem (by omega)⟩
       obtain ⟨m1,m2,m3,m4⟩:=mv_step (p:=p) (q:=r.drop (i' - a) ++ q) (x:=x) (o:=o) hy (by have:=Ha.out;omega)
       have hoi : (o : Int) < i - 1:=by have:=Hi'.out;omega
       have hoi2 : o + 1 < N:=by omega
       have M1:=Lib.hid m1
       have M2:=Lib.hid m2
       have M3:=Lib.hid m3
       have M4:=Lib.hid m4
       have Hy:=Lib.hid hy
       have Hk:=Lib.hid hk
       have Hok:=Lib.hid hok
       have Htl:=Lib.hid htl
       have Hlt:=Lib.hid hlt
       clear m1 m2 m3 m4 hy hk hok htl hlt
       generalize p ++ (r.take (i' - a)).take k ++ x :: ((r.take (i' - a)).drop k ++ (r.drop (i' - a) ++ q)) = cur at *
       go_wp2_with first | ((with_reducible apply wps_loada_own tlen S 0 (hj:=M1.out) (q:=0) (vs:=[.int .i64 x.1.key.at_,.int .i64 x.1.key.src,.int .i64 x.1.key.sent,.int .i64 x.1.key.no,.int .i64 x.1.dst,.int .i64 x.1.kind,.int .i64 x.1.data]) (m:=7));(case hx|hi=>rfl);(case hn=>omega);(case hm|hv=>rfl);(case hT=>decide +kernel)) | ((with_reducible apply wps_loada_own tlen S 0 (hj:=M2.out) (q:=0) (vs:=[.int .i64 y.1.key.at_,.int .i64 y.1.key.src,.int .i64 y.1.key.sent,.int .i64 y.1.key.no,.int .i64 y.1.dst,.int .i64 y.1.kind,.int .i64 y.1.data]) (m:=7));(case hx|hi=>rfl);(case hn=>omega);(case hm|hv=>rfl);(case hT=>decide +kernel)) | ((with_reducible apply wps_store_owna tlen S 0 (hj:=M1.out) (e':=y) (q:=0) (vs:=[.int .i64 y.1.key.at_,.int .i64 y.1.key.src,.int .i64 y.1.key.sent,.int .i64 y.1.key.no,.int .i64 y.1.dst,.int .i64 y.1.kind,.int .i64 y.1.data]) (m:=7));(case hx=>rfl);(case hn=>omega);(case hi|hy|hm|h1|he=>rfl);(case hq=>exact nle rfl);(case hT=>decide +kernel);clear S;intro wz S;simp only [set_cons_zero] at S) | ((with_reducible apply wps_store_owna tlen S 0 (hj:=M3.out) (e':=x) (q:=0) (vs:=[.int .i64 x.1.key.at_,.int .i64 x.1.key.src,.int .i64 x.1.key.sent,.int .i64 x.1.key.no,.int .i64 x.1.dst,.int .i64 x.1.kind,.int .i64 x.1.data]) (m:=7));(case hx=>rfl);(case hn=>omega);(case hi|hy|hm|h1|he=>rfl);(case hq=>exact nle rfl);(case hT=>decide +kernel);clear S;intro wz S;simp only [set_cons_zero] at S) | ((with_reducible refine tot_done ?ht ?_);(case ht=>kernel_rfl)) | ((with_reducible apply wps_text S);(case hm=>kernel_rfl);(case hB=>decide +kernel);clear S;intro wz S)
       rw [M4.out] at S
       go_roundw
       case rel=>exact ⟨o + 1,k + 1,by have h1:=Hlt.out;have h2:=Htl.out;omega,by go_num,by have h1:=Hok.out;omega,S⟩
       case measure=>first | (simp [intOf];done) | (simp [intOf];omega)
     · have hoi : ¬ (o : Int) < i - 1:=by have:=Hi'.out;omega
       have e1 : (r.take (i' - a)).take k = r.take (i' - a):=List.take_of_length_le (by omega)
       have e2 : (r.take (i' - a)).drop k = []:=List.drop_eq_nil_of_le (by omega)
       rw [e1,e2] at S
       have e3 : p ++ r.take (i' - a) ++ x :: ([] ++ (r.drop (i' - a) ++ q)) = p ++ r.take (i' - a) ++ [x] ++ r.drop (i' - a) ++ q:=by simp
       rw [e3] at S
       clear hk hok e1 e2 e3
       go_wp2_with first | ((with_reducible apply wps_loada (T:=58) (k:=7) S 0);(case hx|hi=>rfl);(case hk=>exact nle rfl);(case hT=>decide +kernel))
       go_end0
       exact ⟨rfl,_,HM.out,S⟩
theorem mv_back {p r q : List TE} {x y : TE} {k o : Nat} (hy : r[k]? = some y) (ho : o = p.length + k) :
 (p ++ r.take (k + 1) ++ x :: (r.drop (k + 1) ++ q))[o + 1]? = some x ∧ (p ++ r.take (k + 1) ++ x :: (r.drop (k + 1) ++ q))[o]? = some y ∧ (((p ++ r.take (k + 1) ++ x :: (r.drop (k + 1) ++ q)).set (o + 1) y)[o]? = some y) ∧
 ((p ++ r.take (k + 1) ++ x :: (r.drop (k + 1) ++ q)).set (o + 1) y).set o x = p ++ r.take k ++ x :: (r.drop k ++ q):=by
 obtain ⟨h1,e⟩:=List.getElem?_eq_some_iff.1 hy
 have hd : r.drop k = y :: r.drop (k + 1):=by rw [← e];exact List.drop_eq_getElem_cons h1
 have ht : r.take (k + 1) = r.take k ++ [y]:=by rw [List.take_add_one,hy];rfl
 have lt : (r.take k).length = k:=by simp;omega
 rw [ht,hd]
 have e1 : (p ++ (r.take k ++ [y]) ++ x :: (r.drop (k + 1) ++ q))[o + 1]? = some x:=get_mid (by simp [lt];omega)
 have e2 : (p ++ (r.take k ++ [y]) ++ x :: (r.drop (k + 1) ++ q))[o]? = some y:=by
  have:=get_mid (p:=p ++ r.take k) (q:=x :: (r.drop (k + 1) ++ q)) (x:=y) (k:=o) (by simp [lt];omega)
  simpa using this
 refine ⟨e1,e2,by rw [List.getElem?_set_ne (by omega)];exact e2,?_⟩
 have s1:=set_mid (p:=p ++ (r.take k ++ [y])) (q:=r.drop (k + 1) ++ q) (x:=x) (y:=y) (k:=o + 1) (by simp [lt];omega)
 have s2:=set_mid (p:=p ++ r.take k) (q:=y :: (r.drop (k + 1) ++ q)) (x:=y) (y:=x) (k:=o) (by simp [lt];omega)
 rw [s1]
 simpa using s2
theorem sym2_calls (R c N a m b : Nat) (p l q : List TE) (y : TE) (w : World) (F : Nat → Prop) (h : (Own 58 tcells 7 (.slice (some ⟨R,0,none⟩) N c) (p ++ l ++ [y] ++ q)).at_ w F)
 (hN : N = (p ++ l ++ [y] ++ q).length) (ha : a = p.length) (hm : m = a + l.length) (hb : b = m + 1) (hl0 : 1 < l.length) (hl : Srt l) (ht : ∀ x ∈ l,x.2 < y.2) (hn : N ≤ 65536) :
 Calls Tryz.prog 154 #[.slice (some ⟨R,0,none⟩) N c,.int .i64 a,.int .i64 m,.int .i64 b,.func (.func 72) #[] #[]] w (SymPost F R c N p l [y] q w):=by
 have S:=St.one w h
 have hP : Parts p l [y] q (p ++ l ++ [y] ++ q) a m b:=⟨rfl,ha,hm,by simp [hb]⟩
 have HF:=Lib.hid (falls2 hP hl y)
 have HB0 : Hid (BS (fun k=>!tless y (att (p ++ l ++ [y] ++ q) k)) a m a m):=BS.start (by omega)
 have hbN : b ≤ N:=by have:=hP.len;omega
 have HL : Hid (N = (p ++ l ++ [y] ++ q).length):=hN
 have HY : Hid ((p ++ l ++ [y] ++ q)[m]? = some y):=by have:=hP.right (k:=0) (by simp);simpa [Hid] using this
 have hab : a + 1 < m:=by omega
 have hmb : m < b:=by omega
 have hm2 : ((m : Int) - a == 1) = false:=beq_eq_false_iff_ne.2 (by omega)
 have hm3 : ((b : Int) - m == 1) = true:=by rw [show (b : Int) - m = 1 by omega];rfl
 have Hm:=Lib.hid hm
 have HP:=Lib.hid hP
 have Ha:=Lib.hid ha
 have Hl:=Lib.hid hl
 have Ht:=Lib.hid ht
 have Hb:=Lib.hid hb
 clear h hN ha hm hb hl ht hP hl0
 obtain ⟨xs,Hxs⟩ : ∃ xs,Hid (p ++ l ++ [y] ++ q = xs):=⟨_,rfl⟩
 rw [Hxs.out] at S HF HB0 HL HY HP
 go_enter Tryz.func154,Tryz.ntmps154
 go_wp2_with first | ((with_reducible apply wps_loada (T:=58) (k:=7) S 3);(case hx|hi=>rfl);(case hk=>exact nle rfl);(case hT=>decide +kernel))
 go_loopw [14,15] (fun i j wr=>BsRel F R c N xs (fun k=>!tless y (att xs k)) a m w i j wr) (fun i j _=>(intOf j - intOf i).toNat)
 case atStart=>exact ⟨a,m,rfl,rfl,HB0.out,S⟩
 case round=>
  clear S HB0
  obtain ⟨i,j,rfl,rfl,hB,S⟩:=hrel
  have b1:=hB.le1
  have b2:=hB.le2
  have b3:=hB.le3
  by_cases hij : i < j
  · have hh:=half_lt hij
    obtain ⟨k,hk⟩ : ∃ k,k = (i + j) / 2:=⟨_,rfl⟩
    rw [← hk] at hh
    have hk2 : ((i : Int) + j) / 2 = k:=by omega
    have HZ : Hid (xs[k]? = some (att xs k)):=some_att (by have:=HL.out;omega)
    have hkN : k < N:=by omega
    cases hc : tless y (att xs k) with
    | false=>
      have HC:=Lib.hid (cmpEv_no hc)
      have HB2:=Lib.hid (hB.up HF.out hh.1 hh.2 (by simp [hc]))
      generalize att xs k = z at *
      have HB:=Lib.hid hB
      have Hc:=Lib.hid hc
      have Hk:=Lib.hid hk
      have B1:=Lib.hid b1
      clear hB hc hk b1
      go_wp2_with first | ((with_reducible apply wps_loada_own tlen S 0 (hj:=HY.out) (q:=0) (vs:=[.int .i64 y.1.key.at_,.int .i64 y.1.key.src,.int .i64 y.1.key.sent,.int .i64 y.1.key.no,.int .i64 y.1.dst,.int .i64 y.1.kind,.int .i64 y.1.data]) (m:=7));(case hx|hi=>rfl);(case hn=>omega);(case hm|hv=>rfl);(case hT=>decide +kernel)) | ((with_reducible apply wps_loada_own tlen S 0 (hj:=HZ.out) (q:=0) (vs:=[.int .i64 z.1.key.at_,.int .i64 z.1.key.src,.int .i64 z.1.key.sent,.int .i64 z.1.key.no,.int .i64 z.1.dst,.int .i64 z.1.kind,.int .i64 z.1.data]) (m:=7));(case hx|hi=>rfl);(case hn=>omega);(case hm|hv=>rfl);(case hT=>decide +kernel)) | (go_at_call 72;refine Calls.mono (HC.out _) ?_;rintro e wz ⟨⟨cv,hcv,rfl⟩,hE⟩;have hcv2 : decide (cv < 0) = false:=(by simp;omega);replace S:=S.ext (Keep.of_below hE);clear hE) | ((with_reducible refine tot_done ?ht ?_);(case ht=>kernel_rfl)) | ((with_reducible apply wps_text S);(case hm=>kernel_rfl);(case hB=>decide +kernel);clear S;intro wz S)
      go_roundw
      case rel=>exact ⟨k + 1,j,by go_num,rfl,HB2.out,S⟩
      case measure=>first | (simp [intOf];done) | (simp [intOf];omega)
    | true=>
      have HC:=Lib.hid (cmpEv_yes hc)
      have HB2:=Lib.hid (hB.down HF.out hh.1 hh.2 (by simp [hc]))
      generalize att xs k = z at *
      have HB:=Lib.hid hB
      have Hc:=Lib.hid hc
      have Hk:=Lib.hid hk
      have B1:=Lib.hid b1
      clear hB hc hk b1
      go_wp2_with first | ((with_reducible apply wps_loada_own tlen S 0 (hj:=HY.out) (q:=0) (vs:=[.int .i64 y.1.key.at_,.int .i64 y.1.key.src,.int .i64 y.1.key.sent,.int .i64 y.1.key.no,.int .i64 y.1.dst,.int .i64 y.1.kind,.int .i64 y.1.data]) (m:=7));(case hx|hi=>rfl);(case hn=>omega);(case hm|hv=>rfl);(case hT=>decide +kernel)) | ((with_reducible apply wps_loada_own tlen S 0 (hj:=HZ.out) (q:=0) (vs:=[.int .i64 z.1.key.at_,.int .i64 z.1.key.src,.int .i64 z.1.key.sent,.int .i64 z.1.key.no,.int .i64 z.1.dst,.int .i64 z.1.kind,.int .i64 z.1.data]) (m:=7));(case hx|hi=>rfl);(case hn=>omega);(case hm|hv=>rfl);(case hT=>decide +kernel)) | (go_at_call 72;refine Calls.mono (HC.out _) ?_;rintro e wz ⟨rfl,hE⟩;replace S:=S.ext (Keep.of_below hE);clear hE) | ((with_reducible refine tot_done ?ht ?_);(case ht=>kernel_rfl)) | ((with_reducible apply wps_text S);(case hm=>kernel_rfl);(case hB=>decide +kernel);clear S;intro wz S)
      go_roundw
      case rel=>exact ⟨i,k,rfl,rfl,HB2.out,S⟩
      case measure=>first | (simp [intOf];done) | (simp [intOf];omega)
  · obtain rfl : i = j:=by omega
    have HM:=Lib.hid (merge2 HP.out Hl.out Ht.out hB)
    obtain ⟨t,ht0⟩ : ∃ t,t = i - a:=⟨_,rfl⟩
    rw [← ht0] at HM
    have htl : (l.drop t).length = m - i:=by simp;have:=Hm.out;omega
    have hpl : (p ++ l.take t).length = i:=by simp;have:=Hm.out;have:=Ha.out;omega
    have HS : Hid (xs = p ++ l.take t ++ (l.drop t).take (m - i) ++ y :: ((l.drop t).drop (m - i) ++ q)):=by
     have e1 : (l.drop t).take (m - i) = l.drop t:=List.take_of_length_le (by omega)
     have e2 : (l.drop t).drop (m - i) = []:=List.drop_eq_nil_of_le (by omega)
     rw [← Hxs.out,e1,e2]
     show p ++ l ++ [y] ++ q = _
     rw [List.append_assoc p (l.take t),List.take_append_drop];simp
    rw [HS.out] at S
    clear hB b1
    go_wp2_with first | ((with_reducible apply wps_loada (T:=58) (k:=7) S 0);(case hx|hi=>rfl);(case hk=>exact nle rfl);(case hT=>decide +kernel))
    go_loopw [17] (fun kv wr=>Mv1Rel F R c N i (p ++ l.take t) (l.drop t) q y w kv wr) (fun kv _=>(intOf kv).toNat)
    case atStart=>exact ⟨m,m - i,by omega,rfl,by omega,S⟩
    case round=>
     clear S
     obtain ⟨o,k,hk,rfl,hok,S⟩:=hrel
     by_cases hlt : 0 < k
     · obtain ⟨k,rfl⟩ : ∃ n,k = n + 1:=⟨k - 1,by omega⟩
       obtain ⟨o,rfl⟩ : ∃ n,o = n + 1:=⟨o - 1,by omega⟩
       obtain ⟨z,hz⟩ : ∃ z,(l.drop t)[k]? = some z:=⟨_,List.getElem?_eq_getElem (by omega)⟩
       obtain ⟨m1,m2,m3,m4⟩:=mv_back (p:=p ++ l.take t) (q:=q) (x:=y) (o:=o) hz (by omega)
       have hoi : (i : Int) < o + 1:=by omega
       have hoN : o + 1 < N:=by omega
       have M1:=Lib.hid m1
       have M2:=Lib.hid m2
       have M3:=Lib.hid m3
       have M4:=Lib.hid m4
       have Hz:=Lib.hid hz
       have Hk:=Lib.hid hk
       have Hok:=Lib.hid hok
       have Htl:=Lib.hid htl
       have Hpl:=Lib.hid hpl
       have Ht0:=Lib.hid ht0
       clear m1 m2 m3 m4 hz hk hok htl hpl ht0
       generalize p ++ l.take t ++ (l.drop t).take (k + 1) ++ y :: ((l.drop t).drop (k + 1) ++ q) = cur at *
       go_wp2_with first | ((with_reducible apply wps_loada_own tlen S 0 (hj:=M1.out) (q:=0) (vs:=[.int .i64 y.1.key.at_,.int .i64 y.1.key.src,.int .i64 y.1.key.sent,.int .i64 y.1.key.no,.int .i64 y.1.dst,.int .i64 y.1.kind,.int .i64 y.1.data]) (m:=7));(case hx|hi=>rfl);(case hn=>omega);(case hm|hv=>rfl);(case hT=>decide +kernel)) | ((with_reducible apply wps_loada_own tlen S 0 (hj:=M2.out) (q:=0) (vs:=[.int .i64 z.1.key.at_,.int .i64 z.1.key.src,.int .i64 z.1.key.sent,.int .i64 z.1.key.no,.int .i64 z.1.dst,.int .i64 z.1.kind,.int .i64 z.1.data]) (m:=7));(case hx|hi=>rfl);(case hn=>omega);(case hm|hv=>rfl);(case hT=>decide +kernel)) | ((with_reducible apply wps_store_owna tlen S 0 (hj:=M1.out) (e':=z) (q:=0) (vs:=[.int .i64 z.1.key.at_,.int .i64 z.1.key.src,.int .i64 z.1.key.sent,.int .i64 z.1.key.no,.int .i64 z.1.dst,.int .i64 z.1.kind,.int .i64 z.1.data]) (m:=7));(case hx=>rfl);(case hn=>omega);(case hi|hy|hm|h1|he=>rfl);(case hq=>exact nle rfl);(case hT=>decide +kernel);clear S;intro wz S;simp only [set_cons_zero] at S) | ((with_reducible apply wps_store_owna tlen S 0 (hj:=M3.out) (e':=y) (q:=0) (vs:=[.int .i64 y.1.key.at_,.int .i64 y.1.key.src,.int .i64 y.1.key.sent,.int .i64 y.1.key.no,.int .i64 y.1.dst,.int .i64 y.1.kind,.int .i64 y.1.data]) (m:=7));(case hx=>rfl);(case hn=>omega);(case hi|hy|hm|h1|he=>rfl);(case hq=>exact nle rfl);(case hT=>decide +kernel);clear S;intro wz S;simp only [set_cons_zero] at S) | ((with_reducible refine tot_done ?ht ?_);(case ht=>kernel_rfl)) | ((with_reducible apply wps_text S);(case hm=>kernel_rfl);(case hB=>decide +kernel);clear S;intro wz S)
       rw [M4.out] at S
       go_roundw
       case rel=>exact ⟨o,k,by have:=Hk.out;omega,by go_num,by have:=Hok.out;omega,S⟩
       case measure=>first | (simp [intOf];done) | (simp [intOf];omega)
     · obtain rfl : k = 0:=by omega
       have hoi : ¬ (i : Int) < o:=by omega
       have e3 : p ++ l.take t ++ (l.drop t).take 0 ++ y :: ((l.drop t).drop 0 ++ q) = p ++ l.take t ++ [y] ++ l.drop t ++ q:=by simp
       rw [e3] at S
       clear hk hok e3
       go_wp2_with first | ((with_reducible apply wps_loada (T:=58) (k:=7) S 0);(case hx|hi=>rfl);(case hk=>exact nle rfl);(case hT=>decide +kernel))
       go_end0
       exact ⟨rfl,_,HM.out,S⟩
end Go.Proofs.YtmjljoaakdocaaaGreatDoor
