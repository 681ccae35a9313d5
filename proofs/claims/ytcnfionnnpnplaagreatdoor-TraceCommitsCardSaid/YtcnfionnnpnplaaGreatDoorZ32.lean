import Derived.Test.YtcnfionnnpnplaaGreatDoorZ31
import Derived.Test.YtcnfionnnpnplaaGreatDoorZ18
import Derived.Test.YtcnfionnnpnplaaGreatDoorZ21
import Derived.Test.YtcnfionnnpnplaaGreatDoorZ04
/- The walk of the document's Wrong (chapter 20). -/
set_option maxHeartbeats 16000000
set_option maxRecDepth 100000
namespace Go.Proofs.YtcnfionnnpnplaaGreatDoor
open Go Go.RowKit Reg Mem
open List (set_cons_succ set_cons_zero setIfInBounds_toArray cons_append nil_append)
theorem rise_get {L : List BatE} : Rise L ↔ ∀ (k i : Nat) a b,k < i → L[k]? = some a → L[i]? = some b → a.lp = b.lp → a.at_ < b.at_:=by
 unfold Rise
 rw [List.pairwise_iff_getElem]
 constructor
 · intro h k i a b hki ha hb
   obtain ⟨h1,rfl⟩:=List.getElem?_eq_some_iff.1 ha
   obtain ⟨h2,rfl⟩:=List.getElem?_eq_some_iff.1 hb
   exact h k i h1 h2 hki
 · intro h i j hi hj hij
   exact h i j _ _ hij (List.getElem?_eq_getElem hi) (List.getElem?_eq_getElem hj)
def RwRel1 (L : List Asn) (l : List BatV) (n : Nat) (w : World) (i : Value) (wr : World) : Prop:=
 ∃ j : Nat,j ≤ l.length ∧ i = .int .i64 j ∧ Hid (∀ x ∈ l.take j,0 ≤ x.b.lp ∧ x.b.lp < n) ∧ St (fun _=>False) w wr L
def RwRel2 (L : List Asn) (l : List BatV) (w : World) (i : Value) (wr : World) : Prop:=
 ∃ j : Nat,j ≤ l.length ∧ i = .int .i64 j ∧ Hid (∀ (k i : Nat) a b,k < i → i < j → l[k]? = some a → l[i]? = some b → a.b.lp = b.b.lp → a.b.at_ < b.b.at_) ∧ St (fun _=>False) w wr L
def RwRel3 (L : List Asn) (l : List BatV) (j : Nat) (x : BatV) (w : World) (i : Value) (wr : World) : Prop:=
 ∃ k : Nat,k ≤ j ∧ i = .int .i64 k ∧ Hid (∀ (q : Nat) a,q < k → l[q]? = some a → a.b.lp = x.b.lp → a.b.at_ < x.b.at_) ∧ St (fun _=>False) w wr L
theorem rise_mapV {l : List BatV} (h : ∀ (k i : Nat) a b,k < i → l[k]? = some a → l[i]? = some b → a.b.lp = b.b.lp → a.b.at_ < b.b.at_) : Rise (l.map (·.b)):=rise_get.2 fun k i a b hki ha hb=>by
 rw [List.getElem?_map,Option.map_eq_some_iff] at ha hb
 obtain ⟨x,hx,rfl⟩:=ha
 obtain ⟨y,hy,rfl⟩:=hb
 exact h k i x y hki hx hy
theorem rwrong20_calls (vP vS vE vF vG : Value) (aL : Option Addr) (n cL : Nat) (ad1 : Option Addr) (c1 : Nat) (la : List BatV) (ad2 : Option Addr) (c2 : Nat) (lb : List BatV) (w : World) (F1 F2 : Nat → Prop) (h1 : (Sl true BatV.cells 8 (.slice ad1 la.length c1) la).at_ w F1) (h2 : (Sl true BatV.cells 8 (.slice ad2 lb.length c2) lb).at_ w F2)
 (hn1 : la.length ≤ 65536) (hn2 : lb.length ≤ 65536) :
 Calls Tryz.prog 16 #[.agg #[vP,.slice aL n cL,vS,vE,vF,vG],.slice ad1 la.length c1,.slice ad2 lb.length c2] w fun r w'=>r = .returned (.int .i64 (wrongT n (la.map (·.b)) (lb.map (·.b)))) ∧ Below w.heap.size w w':=by
 have S : St (fun _=>False) w w [Sl true BatV.cells 8 (.slice ad1 la.length c1) la,Sl true BatV.cells 8 (.slice ad2 lb.length c2) lb]:=((St.init _ w).share (A:=Sl true BatV.cells 8 (.slice ad2 lb.length c2) lb) rfl rfl h2).share (A:=Sl true BatV.cells 8 (.slice ad1 la.length c1) la) rfl rfl h1
 clear h1 h2
 go_enter Tryz.func16,Tryz.ntmps16
 go_wp2_with first | ((with_reducible apply wps_boxa (E:=34) S);(case hx=>rfl);clear S;intro b3 wz S)
 go_loopw [7] (fun i wr=>RwRel1 _ lb n w i wr) (fun i _=>lb.length - (intOf i).toNat)
 case atStart=>exact ⟨0,Nat.zero_le _,rfl,Lib.hid (fun x hx=>by simp at hx),S⟩
 case round=>
  clear S
  obtain ⟨j,hj,rfl,HIN,S⟩:=hrel
  by_cases hlt : j < lb.length
  · obtain ⟨x,hx⟩ : ∃ x,lb[j]? = some x:=⟨_,List.getElem?_eq_getElem hlt⟩
    obtain ⟨R0,o0,rfl⟩ : ∃ R o,ad2 = some ⟨R,o,none⟩:=(S.sl 2 rfl).elim fun F h=>h.head (by omega)
    have hlt2 : (j : Int) < lb.length:=by omega
    have HX:=Lib.hid hx
    clear hx
    obtain ⟨⟨xat,xlp,xins,xthn,xsent⟩,xai,xci,xao,xco⟩:=x
    by_cases hr : 0 ≤ xlp ∧ xlp < n
    · have f1 : decide (xlp < 0) = false:=decide_eq_false (by omega)
      have f2 : decide (xlp ≥ (n : Int)) = false:=decide_eq_false (by omega)
      have f3 : decide ((n : Int) ≤ xlp) = false:=decide_eq_false (by omega)
      have HIN2 : Hid (∀ x ∈ lb.take (j + 1),0 ≤ x.b.lp ∧ x.b.lp < n):=Lib.hid fun z hz=>by
       rw [take_snoc HX.out] at hz
       rcases List.mem_append.1 hz with hz | hz
       · exact HIN.out z hz
       · rw [List.mem_singleton] at hz;subst hz;exact hr
      clear hr
      go_wp2_with first | ((with_reducible apply wps_load S 0);(case hx|hi|hu=>rfl);(case hT=>decide +kernel))
      (refine wp_region_w (soft:=[0,1,2,3,4,5,6,7,8,9,10,11,12,13,14,15,16]) S ?hm ?hB ?_);(case hm=>kernel_rfl);(case hB=>decide +kernel);clear S
      iterate 17
       (with_reducible apply softs_cons)
       (case hw=>
         (with_reducible apply soft_of);(case hi=>rfl)
         intro T wz S
         simp only [cons_append,nil_append] at S
         go_wp2_with first | ((with_reducible apply wps_load_el S 2 (hj:=HX.out) (q:=1) (u:=.int .i64 xlp));(case hx|hi=>rfl);(case hn=>omega);(case hu=>rfl);(case hT=>decide +kernel)) | ((with_reducible refine tot_done ?ht ?_);(case ht=>kernel_rfl)) | ((with_reducible apply wps_load S 0);(case hx|hi|hu=>rfl);(case hT=>decide +kernel))
         exact ⟨rfl,S⟩)
       (case hs=>exact ⟨_,rfl,by kernel_rfl⟩)
      refine softs_nil ?_
      (with_reducible apply W_done);(case hn=>rfl);(case hr=>decide +kernel)
      intro wz S
      simp only [List.append_nil] at S
      go_wp2_with first | ((with_reducible apply wps_load S 0);(case hx|hi|hu=>rfl);(case hT=>decide +kernel))
      go_roundw
      case rel=>exact ⟨j + 1,by omega,by go_num,HIN2,S⟩
      case measure=>simp [intOf];omega
    · have HC : Hid (wrongT n (la.map (·.b)) (lb.map (·.b)) = 10):=Lib.hid (by
       unfold wrongT
       rw [if_pos]
       intro g
       have:=g _ (List.mem_map.2 ⟨_,List.mem_of_getElem? HX.out,rfl⟩)
       simp only at this
       omega)
      rcases (show xlp < 0 ∨ (¬ xlp < 0 ∧ (n : Int) ≤ xlp) by omega) with f1 | ⟨f1,f2⟩
      · have f3 : decide (xlp < 0) = true:=decide_eq_true f1
        clear hr f1
        go_wp2_with first | ((with_reducible apply wps_load S 0);(case hx|hi|hu=>rfl);(case hT=>decide +kernel))
        (refine wp_region_w (soft:=[0,1,2,3,4,5,6,7,8,9,10,11,12,13,14,15,16]) S ?hm ?hB ?_);(case hm=>kernel_rfl);(case hB=>decide +kernel);clear S
        iterate 17
         (with_reducible apply softs_cons)
         (case hw=>
           (with_reducible apply soft_of);(case hi=>rfl)
           intro T wz S
           simp only [cons_append,nil_append] at S
           go_wp2_with first | ((with_reducible apply wps_load_el S 2 (hj:=HX.out) (q:=1) (u:=.int .i64 xlp));(case hx|hi=>rfl);(case hn=>omega);(case hu=>rfl);(case hT=>decide +kernel)) | ((with_reducible refine tot_done ?ht ?_);(case ht=>kernel_rfl))
           exact ⟨rfl,S⟩)
         (case hs=>exact ⟨_,rfl,by kernel_rfl⟩)
        refine softs_nil ?_
        (with_reducible apply W_done);(case hn=>rfl);(case hr=>decide +kernel)
        intro wz S
        simp only [List.append_nil] at S
        go_wp2_with first | ((with_reducible apply wps_load S 0);(case hx|hi|hu=>rfl);(case hT=>decide +kernel))
        go_ret
        rw [HC.out]
        exact ⟨rfl,S.below⟩
      · have f3 : decide (xlp < 0) = false:=decide_eq_false f1
        have f4 : decide (xlp ≥ (n : Int)) = true:=decide_eq_true f2
        have f5 : decide ((n : Int) ≤ xlp) = true:=decide_eq_true f2
        clear hr f1 f2
        go_wp2_with first | ((with_reducible apply wps_load S 0);(case hx|hi|hu=>rfl);(case hT=>decide +kernel))
        (refine wp_region_w (soft:=[0,1,2,3,4,5,6,7,8,9,10,11,12,13,14,15,16]) S ?hm ?hB ?_);(case hm=>kernel_rfl);(case hB=>decide +kernel);clear S
        iterate 17
         (with_reducible apply softs_cons)
         (case hw=>
           (with_reducible apply soft_of);(case hi=>rfl)
           intro T wz S
           simp only [cons_append,nil_append] at S
           go_wp2_with first | ((with_reducible apply wps_load_el S 2 (hj:=HX.out) (q:=1) (u:=.int .i64 xlp));(case hx|hi=>rfl);(case hn=>omega);(case hu=>rfl);(case hT=>decide +kernel)) | ((with_reducible refine tot_done ?ht ?_);(case ht=>kernel_rfl)) | ((with_reducible apply wps_load S 0);(case hx|hi|hu=>rfl);(case hT=>decide +kernel))
           exact ⟨rfl,S⟩)
         (case hs=>exact ⟨_,rfl,by kernel_rfl⟩)
        refine softs_nil ?_
        (with_reducible apply W_done);(case hn=>rfl);(case hr=>decide +kernel)
        intro wz S
        simp only [List.append_nil] at S
        go_wp2_with first | ((with_reducible apply wps_load S 0);(case hx|hi|hu=>rfl);(case hT=>decide +kernel))
        go_ret
        rw [HC.out]
        exact ⟨rfl,S.below⟩
  · obtain rfl : j = lb.length:=by omega
    have HIN2 : Hid (inRange n (lb.map (·.b))):=Lib.hid fun b hb=>by
     obtain ⟨x,hx,rfl⟩:=List.mem_map.1 hb
     exact HIN.out x (by rw [List.take_length];exact hx)
    clear HIN hlt hj
    replace S:=S.nil 67 BatV.cells 8
    go_wp2_with first | ((with_reducible apply wps_appends elem_RBat bvcells bvone (by decide) S 0 (j:=2));(case hx|hy|hi|hj=>rfl);(case hl=>simp;omega);clear S;intro az nz cz wz hnz S;simp only [set_cons_succ,set_cons_zero,nil_append] at S) | ((with_reducible apply wps_appends elem_RBat bvcells bvone (by decide) S 0 (j:=3));(case hx|hy|hi|hj=>rfl);(case hl=>omega);clear S;intro az2 nz2 cz2 wz hnz2 S;simp only [set_cons_succ,set_cons_zero] at S)
    obtain ⟨l,hl⟩ : ∃ l,la ++ lb = l:=⟨_,rfl⟩
    have HLL : Hid (la.map (·.b) ++ lb.map (·.b) = l.map (·.b)):=Lib.hid (by rw [← List.map_append,hl])
    have hln : nz2 = l.length:=by have:=hnz2.out;rw [this,← hl,List.length_append]
    have hl6 : l.length ≤ 131072:=by rw [← hl,List.length_append];omega
    rw [hl,hln] at S
    rw [hln]
    have HBAD : Hid (¬ Rise (l.map (·.b)) → wrongT n (la.map (·.b)) (lb.map (·.b)) = 18):=Lib.hid fun h=>by
     unfold wrongT;rw [if_neg (fun g=>g HIN2.out),HLL.out,if_neg h]
    have HGOOD : Hid (Rise (l.map (·.b)) → wrongT n (la.map (·.b)) (lb.map (·.b)) = 0):=Lib.hid fun h=>by
     unfold wrongT;rw [if_neg (fun g=>g HIN2.out),HLL.out,if_pos h]
    clear hln hl hnz hnz2
    clear HIN2
    replace S:=S.pick [0,1] rfl
    simp only [pick,nth] at S
    go_loopw [9] (fun i wr=>RwRel2 _ l w i wr) (fun i _=>l.length - (intOf i).toNat)
    case atStart=>exact ⟨0,Nat.zero_le _,rfl,Lib.hid (fun k i a b h1 h2=>by omega),S⟩
    case round=>
     clear S
     obtain ⟨j,hj,rfl,HR,S⟩:=hrel
     have hj6 : (j : Int) ≤ 131072:=by omega
     by_cases hlt : j < l.length
     · obtain ⟨x,hx⟩ : ∃ x,l[j]? = some x:=⟨_,List.getElem?_eq_getElem hlt⟩
       have hlt2 : (j : Int) < l.length:=by omega
       obtain ⟨Rr,crr,e⟩:=own_hd 0 S rfl (by omega)
       simp only [Value.slice.injEq] at e
       obtain ⟨rfl,hq,rfl⟩:=e
       clear hq
       have HX:=Lib.hid hx
       clear hx
       obtain ⟨⟨xat,xlp,xins,xthn,xsent⟩,xai,xci,xao,xco⟩:=x
       go_wp2_with first | ((with_reducible apply wps_load S 0);(case hx|hi|hu=>rfl);(case hT=>decide +kernel))
       go_loopw [10] (fun i wr=>RwRel3 _ l j ⟨⟨xat,xlp,xins,xthn,xsent⟩,xai,xci,xao,xco⟩ w i wr) (fun i _=>j - (intOf i).toNat)
       case atStart=>exact ⟨0,Nat.zero_le _,rfl,Lib.hid (fun q a h=>by omega),S⟩
       case round=>
        clear S
        obtain ⟨k,hk,rfl,HR3,S⟩:=hrel
        by_cases hkt : k < j
        · obtain ⟨y,hy⟩ : ∃ y,l[k]? = some y:=⟨_,List.getElem?_eq_getElem (by omega)⟩
          have hkt2 : (k : Int) < j:=by omega
          have hkt3 : (k : Int) < l.length:=by omega
          have HY:=Lib.hid hy
          clear hy
          obtain ⟨⟨yat,ylp,yins,ythn,ysent⟩,yai,yci,yao,yco⟩:=y
          by_cases e1 : ylp = xlp
          · have f1 : (ylp == xlp) = true:=by simp [e1]
            by_cases e2 : yat < xat
            · have f2 : decide (yat ≥ xat) = false:=decide_eq_false (by omega)
              have f3 : decide (xat ≤ yat) = false:=decide_eq_false (by omega)
              have HR4 : Hid (∀ (q : Nat) (a : BatV),q < k + 1 → l[q]? = some a → a.b.lp = xlp → a.b.at_ < xat):=Lib.hid fun q a hq ha he=>by
               rcases Nat.lt_or_ge q k with h | h
               · exact HR3.out q a h ha he
               · obtain rfl : q = k:=by omega
                 rw [HY.out] at ha;cases ha;exact e2
              clear e1 e2
              go_wp2_with first | ((with_reducible apply wps_load S 0);(case hx|hi|hu=>rfl);(case hT=>decide +kernel))
              (refine wp_region_w (soft:=[0,1,2,3,4,5,6,7,8,9,10,11,12,13,14,15,16,17,18,19,20,21,22,23]) S ?hm ?hB ?_);(case hm=>kernel_rfl);(case hB=>decide +kernel);clear S
              iterate 24
               (with_reducible apply softs_cons)
               (case hw=>
                 (with_reducible apply soft_of);(case hi=>rfl)
                 intro T wz S
                 simp only [cons_append,nil_append] at S
                 go_wp2_with first | ((with_reducible apply wps_load_own bvcells S 0 (hj:=HY.out) (q:=1) (u:=.int .i64 ylp));(case hx|hi=>rfl);(case hn=>omega);(case hu=>rfl);(case hT=>decide +kernel)) | ((with_reducible apply wps_load_own bvcells S 0 (hj:=HX.out) (q:=1) (u:=.int .i64 xlp));(case hx|hi=>rfl);(case hn=>omega);(case hu=>rfl);(case hT=>decide +kernel)) | ((with_reducible apply wps_load_own bvcells S 0 (hj:=HY.out) (q:=0) (u:=.int .i64 yat));(case hx|hi=>rfl);(case hn=>omega);(case hu=>rfl);(case hT=>decide +kernel)) | ((with_reducible apply wps_load_own bvcells S 0 (hj:=HX.out) (q:=0) (u:=.int .i64 xat));(case hx|hi=>rfl);(case hn=>omega);(case hu=>rfl);(case hT=>decide +kernel)) | ((with_reducible refine tot_done ?ht ?_);(case ht=>kernel_rfl))
                 exact ⟨rfl,S⟩)
               (case hs=>exact ⟨_,rfl,by kernel_rfl⟩)
              refine softs_nil ?_
              (with_reducible apply W_done);(case hn=>rfl);(case hr=>decide +kernel)
              intro wz S
              simp only [List.append_nil] at S
              go_wp2_with first | ((with_reducible apply wps_load S 0);(case hx|hi|hu=>rfl);(case hT=>decide +kernel))
              go_roundw
              case rel=>exact ⟨k + 1,by omega,by go_num,HR4,S⟩
              case measure=>simp [intOf];omega
            · have f2 : decide (yat ≥ xat) = true:=decide_eq_true (by omega)
              have f3 : decide (xat ≤ yat) = true:=decide_eq_true (by omega)
              have HW:=Lib.hid (HBAD.out fun g=>e2 (rise_get.1 g k j _ _ hkt (by rw [List.getElem?_map,HY.out];rfl) (by rw [List.getElem?_map,HX.out];rfl) e1))
              clear e1 e2
              go_wp2_with first | ((with_reducible apply wps_load S 0);(case hx|hi|hu=>rfl);(case hT=>decide +kernel))
              (refine wp_region_w (soft:=[0,1,2,3,4,5,6,7,8,9,10,11,12,13,14,15,16,17,18,19,20,21,22,23]) S ?hm ?hB ?_);(case hm=>kernel_rfl);(case hB=>decide +kernel);clear S
              iterate 24
               (with_reducible apply softs_cons)
               (case hw=>
                 (with_reducible apply soft_of);(case hi=>rfl)
                 intro T wz S
                 simp only [cons_append,nil_append] at S
                 go_wp2_with first | ((with_reducible apply wps_load_own bvcells S 0 (hj:=HY.out) (q:=1) (u:=.int .i64 ylp));(case hx|hi=>rfl);(case hn=>omega);(case hu=>rfl);(case hT=>decide +kernel)) | ((with_reducible apply wps_load_own bvcells S 0 (hj:=HX.out) (q:=1) (u:=.int .i64 xlp));(case hx|hi=>rfl);(case hn=>omega);(case hu=>rfl);(case hT=>decide +kernel)) | ((with_reducible apply wps_load_own bvcells S 0 (hj:=HY.out) (q:=0) (u:=.int .i64 yat));(case hx|hi=>rfl);(case hn=>omega);(case hu=>rfl);(case hT=>decide +kernel)) | ((with_reducible apply wps_load_own bvcells S 0 (hj:=HX.out) (q:=0) (u:=.int .i64 xat));(case hx|hi=>rfl);(case hn=>omega);(case hu=>rfl);(case hT=>decide +kernel)) | ((with_reducible refine tot_done ?ht ?_);(case ht=>kernel_rfl))
                 exact ⟨rfl,S⟩)
               (case hs=>exact ⟨_,rfl,by kernel_rfl⟩)
              refine softs_nil ?_
              (with_reducible apply W_done);(case hn=>rfl);(case hr=>decide +kernel)
              intro wz S
              simp only [List.append_nil] at S
              go_wp2_with first | ((with_reducible apply wps_load S 0);(case hx|hi|hu=>rfl);(case hT=>decide +kernel))
              go_ret
              rw [HW.out]
              exact ⟨rfl,S.below⟩
          · have f1 : (ylp == xlp) = false:=by simp [e1]
            have HR4 : Hid (∀ (q : Nat) (a : BatV),q < k + 1 → l[q]? = some a → a.b.lp = xlp → a.b.at_ < xat):=Lib.hid fun q a hq ha he=>by
             rcases Nat.lt_or_ge q k with h | h
             · exact HR3.out q a h ha he
             · obtain rfl : q = k:=by omega
               rw [HY.out] at ha;cases ha;exact absurd he e1
            clear e1
            go_wp2_with first | ((with_reducible apply wps_load S 0);(case hx|hi|hu=>rfl);(case hT=>decide +kernel))
            (refine wp_region_w (soft:=[0,1,2,3,4,5,6,7,8,9,10,11,12,13,14,15,16,17,18,19,20,21,22,23]) S ?hm ?hB ?_);(case hm=>kernel_rfl);(case hB=>decide +kernel);clear S
            iterate 24
             (with_reducible apply softs_cons)
             (case hw=>
               (with_reducible apply soft_of);(case hi=>rfl)
               intro T wz S
               simp only [cons_append,nil_append] at S
               go_wp2_with first | ((with_reducible apply wps_load_own bvcells S 0 (hj:=HY.out) (q:=1) (u:=.int .i64 ylp));(case hx|hi=>rfl);(case hn=>omega);(case hu=>rfl);(case hT=>decide +kernel)) | ((with_reducible apply wps_load_own bvcells S 0 (hj:=HX.out) (q:=1) (u:=.int .i64 xlp));(case hx|hi=>rfl);(case hn=>omega);(case hu=>rfl);(case hT=>decide +kernel)) | ((with_reducible refine tot_done ?ht ?_);(case ht=>kernel_rfl))
               exact ⟨rfl,S⟩)
             (case hs=>exact ⟨_,rfl,by kernel_rfl⟩)
            refine softs_nil ?_
            (with_reducible apply W_done);(case hn=>rfl);(case hr=>decide +kernel)
            intro wz S
            simp only [List.append_nil] at S
            go_wp2_with first | ((with_reducible apply wps_load S 0);(case hx|hi|hu=>rfl);(case hT=>decide +kernel))
            go_roundw
            case rel=>exact ⟨k + 1,by omega,by go_num,HR4,S⟩
            case measure=>simp [intOf];omega
        · obtain rfl : k = j:=by omega
          have HR2 : Hid (∀ (k2 i : Nat) (a b : BatV),k2 < i → i < k + 1 → l[k2]? = some a → l[i]? = some b → a.b.lp = b.b.lp → a.b.at_ < b.b.at_):=Lib.hid fun k2 i a b h1 h2 ha hb he=>by
           rcases Nat.lt_or_ge i k with h | h
           · exact HR.out k2 i a b h1 h ha hb he
           · obtain rfl : i = k:=by omega
             rw [HX.out] at hb;cases hb
             exact HR3.out k2 a h1 ha he
          clear hkt hk
          go_wp2_with first | ((with_reducible apply wps_load S 0);(case hx|hi|hu=>rfl);(case hT=>decide +kernel))
          go_roundw
          case rel=>exact ⟨k + 1,by omega,by go_num,HR2,S⟩
          case measure=>simp [intOf];omega
     · obtain rfl : j = l.length:=by omega
       have HW:=Lib.hid (HGOOD.out (rise_mapV fun k i a b h1 ha hb he=>HR.out k i a b h1 (List.getElem?_eq_some_iff.1 hb).1 ha hb he))
       clear hlt hj
       go_wp2_with first | ((with_reducible apply wps_load S 0);(case hx|hi|hu=>rfl);(case hT=>decide +kernel))
       go_ret
       rw [HW.out]
       exact ⟨rfl,S.below⟩
end Go.Proofs.YtcnfionnnpnplaaGreatDoor
/- The walks of the document's States (chapter 20) and of the law's States (chapter 9), where both are one. -/
namespace Go.Proofs.YtcnfionnnpnplaaGreatDoor
open Go Go.RowKit Reg Mem
open List (set_cons_succ set_cons_zero setIfInBounds_toArray cons_append nil_append)
def StsRel9 (v1 v2 : Value) (ss : List State) (w : World) (i : Value) (wr : World) : Prop:=
 ∃ j : Nat,j ≤ ss.length ∧ i = .int .i64 j ∧ St (fun _=>False) w wr [Sl true State.cells 4 v1 ss,Sl true State.cells 4 v2 ss]
theorem stseq9_calls (v1 v2 : Value) (ss : List State) (w : World) (F1 F2 : Nat → Prop) (h1 : (Sl true State.cells 4 v1 ss).at_ w F1) (h2 : (Sl true State.cells 4 v2 ss).at_ w F2) (hn : ss.length ≤ 65536) :
 Calls Tryz.prog 19 #[v1,v2] w fun r w'=>r = .returned (.bool true) ∧ Below w.heap.size w w':=by
 have S : St (fun _=>False) w w [Sl true State.cells 4 v1 ss,Sl true State.cells 4 v2 ss]:=((St.init _ w).share rfl rfl h2).share rfl rfl h1
 obtain ⟨a1,c1,rfl,_⟩:=(S.sl 0 rfl).elim fun _ h=>h.form
 obtain ⟨a2,c2,rfl,_⟩:=(S.sl 1 rfl).elim fun _ h=>h.form
 clear h1 h2
 go_enter Tryz.func19,Tryz.ntmps19
 go_wp2_with first | ((with_reducible apply wps_loada (T:=50) (k:=4) S 0);(case hx|hi=>rfl);(case hk=>exact nle rfl);(case hT=>decide +kernel))
 go_loopw [5] (fun i wr=>StsRel9 (.slice a1 ss.length c1) (.slice a2 ss.length c2) ss w i wr) (fun i _=>ss.length - (intOf i).toNat)
 case atStart=>exact ⟨0,Nat.zero_le _,rfl,S⟩
 case round=>
  clear S
  obtain ⟨j,hj,rfl,S⟩:=hrel
  by_cases hlt : j < ss.length
  · obtain ⟨x,hx⟩ : ∃ x,ss[j]? = some x:=⟨_,List.getElem?_eq_getElem hlt⟩
    obtain ⟨R1,o1,rfl⟩ : ∃ R o,a1 = some ⟨R,o,none⟩:=(S.sl 0 rfl).elim fun F h=>h.head (by omega)
    obtain ⟨R2,o2,rfl⟩ : ∃ R o,a2 = some ⟨R,o,none⟩:=(S.sl 1 rfl).elim fun F h=>h.head (by omega)
    have hlt2 : (j : Int) < ss.length:=by omega
    have HN : Hid ((!ceqs x.cells x.cells) = false):=Lib.hid (by simp [State.cells,ceqs,ceq])
    have Hx:=Lib.hid hx
    clear hx
    go_wp2_with first | ((with_reducible apply wps_loada (T:=50) (k:=4) S 0);(case hx|hi=>rfl);(case hk=>exact nle rfl);(case hT=>decide +kernel))
    (refine wp_region_w (soft:=[0,1,2,3,4,5,6,7,8]) S ?hm ?hB ?_);(case hm=>kernel_rfl);(case hB=>decide +kernel);clear S
    iterate 9
     (with_reducible apply softs_cons)
     (case hw=>
       (with_reducible apply soft_of);(case hi=>rfl)
       intro T wz S
       simp only [cons_append,nil_append] at S
       go_wp2_with first | ((with_reducible apply wps_loada_el S 0 (hj:=Hx.out) (q:=0) (vs:=[.int .i64 x.n0,.int .i64 x.n1,.int .i64 x.n2,.int .i64 x.n3]) (m:=4));(case hx|hi=>rfl);(case hn=>omega);(case hm|hv=>rfl);(case hT=>decide +kernel)) | ((with_reducible apply wps_loada_el S 1 (hj:=Hx.out) (q:=0) (vs:=[.int .i64 x.n0,.int .i64 x.n1,.int .i64 x.n2,.int .i64 x.n3]) (m:=4));(case hx|hi=>rfl);(case hn=>omega);(case hm|hv=>rfl);(case hT=>decide +kernel)) | ((with_reducible apply wpList_neq_agg (t:=50) (ks:=[.int .i64,.int .i64,.int .i64,.int .i64]) (b:=_));(case hx|hy=>rfl);(case hl|ha|hg=>kernel_rfl);(case hfx|hfy=>rfl);(case hb=>exact HN.out)) | ((with_reducible refine tot_done ?ht ?_);(case ht=>kernel_rfl))
       exact ⟨rfl,S⟩)
     (case hs=>exact ⟨_,rfl,by kernel_rfl⟩)
    refine softs_nil ?_
    (with_reducible apply W_done);(case hn=>rfl);(case hr=>decide +kernel)
    intro wz S
    simp only [List.append_nil] at S
    go_wp2_with first | ((with_reducible apply wps_loada (T:=50) (k:=4) S 0);(case hx|hi=>rfl);(case hk=>exact nle rfl);(case hT=>decide +kernel))
    go_roundw
    case rel=>exact ⟨j + 1,by omega,by go_num,S⟩
    case measure=>simp [intOf];omega
  · obtain rfl : j = ss.length:=by omega
    clear hlt hj
    go_wp2_with first | ((with_reducible apply wps_loada (T:=50) (k:=4) S 0);(case hx|hi=>rfl);(case hk=>exact nle rfl);(case hT=>decide +kernel))
    go_ret
    exact ⟨rfl,S.below⟩
def RstRel1 (L : List Asn) (lps : List Place) (w : World) (v i : Value) (wr : World) : Prop:=
 ∃ j : Nat,j ≤ lps.length ∧ i = .int .i64 j ∧ St (fun _=>False) w wr (Mem.Own 50 State.cells 4 v ((lps.take j).map (·.first)) :: L)
def RstRel2 (L : List Asn) (v : Value) (l : List BatV) (ss : List State) (w : World) (i : Value) (wr : World) : Prop:=
 ∃ (j : Nat) (s2 : List State),j ≤ l.length ∧ i = .int .i64 j ∧ Hid (s2 = ((l.take j).map (·.b)).foldl setst ss) ∧ St (fun _=>False) w wr (L ++ [Mem.Own 50 State.cells 4 v s2])
theorem setst_lenJ : ∀ (bs : List BatE) (ss : List State),(bs.foldl setst ss).length = ss.length
 | [],_=>rfl
 | b :: bs,ss=>by rw [List.foldl_cons,setst_lenJ bs];simp [setst]
def RstPost (ss : List State) (w : World) (e : Ending) (w' : World) : Prop:=
 ∃ a cp,e = .returned (.slice a ss.length cp) ∧ St (fun _=>False) w w' [Mem.Own 50 State.cells 4 (.slice a ss.length cp) ss]
theorem rstates20_calls (vP vS vE vF vG : Value) (aL : Option Addr) (cL : Nat) (lps : List Place) (ad : Option Addr) (c : Nat) (l : List BatV) (w : World) (F1 F2 : Nat → Prop) (h1 : (Sl true Place.cells 5 (.slice aL lps.length cL) lps).at_ w F1) (h2 : (Sl true BatV.cells 8 (.slice ad l.length c) l).at_ w F2)
 (hn1 : lps.length ≤ 65536) (hn2 : l.length ≤ 65536) (hi : inRange lps.length (l.map (·.b))) :
 Calls Tryz.prog 21 #[.agg #[vP,.slice aL lps.length cL,vS,vE,vF,vG],.slice ad l.length c] w (RstPost ((l.map (·.b)).foldl setst (lps.map (·.first))) w):=by
 have S : St (fun _=>False) w w [Sl true Place.cells 5 (.slice aL lps.length cL) lps,Sl true BatV.cells 8 (.slice ad l.length c) l]:=((St.init _ w).share (A:=Sl true BatV.cells 8 (.slice ad l.length c) l) rfl rfl h2).share rfl rfl h1
 clear h1 h2
 have HI:=Lib.hid hi
 clear hi
 go_enter Tryz.func21,Tryz.ntmps21
 go_wp2_with first | ((with_reducible apply wps_boxa (E:=34) S);(case hx=>rfl);clear S;intro b2 wz S)
 go_loopw [5,6] (fun v i wr=>RstRel1 _ lps w v i wr) (fun _ i _=>lps.length - (intOf i).toNat)
 case atStart=>exact ⟨0,Nat.zero_le _,rfl,S.nil 50 State.cells 4⟩
 case round=>
  clear S
  obtain ⟨j,hj,rfl,S⟩:=hrel
  obtain ⟨t,HT⟩ : ∃ t,Hid ((lps.take j).map (·.first) = t):=⟨_,rfl⟩
  rw [HT.out] at S
  have htl : t.length = j:=by rw [← HT.out,List.length_map,List.length_take];omega
  have htl2 : t.length < 4294967296:=by omega
  obtain ⟨a1,c1,rfl,_⟩:=(S.ownsl sacells 0 rfl).elim fun _ h=>h.form
  by_cases hlt : j < lps.length
  · obtain ⟨p,hp⟩ : ∃ p,lps[j]? = some p:=⟨_,List.getElem?_eq_getElem hlt⟩
    obtain ⟨R0,o0,rfl⟩ : ∃ R o,aL = some ⟨R,o,none⟩:=(S.sl 2 rfl).elim fun F h=>h.head (by omega)
    have hlt2 : (j : Int) < lps.length:=by omega
    have HT2 : Hid ((lps.take (j + 1)).map (·.first) = t ++ [p.first]):=Lib.hid (by rw [take_snoc hp,List.map_append,HT.out];rfl)
    have HP:=Lib.hid hp
    clear hp htl
    go_wp2_with first | ((with_reducible apply wps_load S 1);(case hx|hi|hu=>rfl);(case hT=>decide +kernel)) | ((with_reducible apply wps_loada_el S 2 (hj:=HP.out) (q:=1) (vs:=[.int .i64 p.first.n0,.int .i64 p.first.n1,.int .i64 p.first.n2,.int .i64 p.first.n3]) (m:=4));(case hx|hi=>rfl);(case hn=>omega);(case hm|hv=>rfl);(case hT=>decide +kernel)) | ((with_reducible apply wps_build1a (T:=64) (E:=50) S);(case hx=>rfl);(case hr=>intro w;kernel_rfl);clear S;intro bz wz S) | ((with_reducible apply wps_append1 elem_Sst sacells saone (by decide) S 1 (j:=0) (e:=p.first));(case hx|hy|hi|hj|he=>rfl);(case hl=>omega);clear S;intro az nz cz wz hnz S;simp only [set_cons_succ,set_cons_zero] at S)
    go_roundw
    case rel=>
     refine ⟨j + 1,by omega,by go_num,?_⟩
     rw [HT2.out]
     exact S.pick [1,2,3,4] rfl
    case measure=>simp [intOf];omega
  · obtain rfl : j = lps.length:=by omega
    rw [List.take_length] at HT
    have HTL:=Lib.hid htl
    have ht6 : t.length ≤ 65536:=by omega
    have hts : (lps.map (·.first)) = t:=HT.out
    clear hlt hj htl
    replace S:=S.pick [1,3,0] rfl
    simp only [pick,nth] at S
    have HTT:=Lib.hid hts
    clear hts HT
    go_wp2_with first | ((with_reducible apply wps_load S 0);(case hx|hi|hu=>rfl);(case hT=>decide +kernel))
    go_loopw [7] (fun i wr=>RstRel2 [Blk false b2 #[vP,.slice aL lps.length cL,vS,vE,vF,vG] 34,Sl true BatV.cells 8 (.slice ad l.length c) l] (.slice a1 t.length c1) l t w i wr) (fun i _=>l.length - (intOf i).toNat)
    case atStart=>exact ⟨0,t,Nat.zero_le _,rfl,Lib.hid rfl,S⟩
    case round=>
     clear S
     obtain ⟨j,s2,hj,rfl,HS2,S⟩:=hrel
     simp only [cons_append,nil_append] at S
     by_cases hlt : j < l.length
     · obtain ⟨x,hx⟩ : ∃ x,l[j]? = some x:=⟨_,List.getElem?_eq_getElem hlt⟩
       obtain ⟨R0,o0,rfl⟩ : ∃ R o,ad = some ⟨R,o,none⟩:=(S.sl 1 rfl).elim fun F h=>h.head (by omega)
       have hlt2 : (j : Int) < l.length:=by omega
       have hxr:=HI.out x.b (List.mem_map.2 ⟨x,List.mem_of_getElem? hx,rfl⟩)
       obtain ⟨k,hk⟩ : ∃ k : Nat,x.b.lp = k:=⟨x.b.lp.toNat,by omega⟩
       have hs2l : s2.length = t.length:=by rw [HS2.out,setst_lenJ]
       have hkl : k < t.length:=by have:=HTL.out;omega
       have hkl2 : (k : Int) < t.length:=by omega
       obtain ⟨s0,hs0⟩ : ∃ s,s2[k]? = some s:=⟨_,List.getElem?_eq_getElem (by omega)⟩
       have HS3 : Hid (s2.set k x.b.thn = ((l.take (j + 1)).map (·.b)).foldl setst t):=Lib.hid (by
        rw [take_snoc hx,List.map_append,List.foldl_append,← HS2.out]
        simp only [List.map_cons,List.map_nil,List.foldl_cons,List.foldl_nil,setst,hk,Int.toNat_natCast])
       obtain ⟨Rr,crr,e⟩:=own_hd 2 S rfl (by omega)
       simp only [Value.slice.injEq] at e
       obtain ⟨rfl,hq,rfl⟩:=e
       have HX:=Lib.hid hx
       have HS0:=Lib.hid hs0
       clear hq hx hxr hs2l hs0
       obtain ⟨⟨xat,xlp,xins,xthn,xsent⟩,xai,xci,xao,xco⟩:=x
       simp only at hk HS3
       subst hk
       go_upto_region 9 with first | ((with_reducible apply wps_loada (T:=50) (k:=4) S 0);(case hx|hi=>rfl);(case hk=>exact nle rfl);(case hT=>decide +kernel))
       (refine wp_region_wt (soft:=[0,1,2,3,4,5,6,7,8,9,10,11]) (L:=[_,_]) (T:=[_]) S ?hm ?hB ?_);(case hm=>kernel_rfl);(case hB=>decide +kernel);clear S
       iterate 12
        (with_reducible apply softs_cons)
        (case hw=>
          (with_reducible apply soft_of);(case hi=>rfl)
          intro T wz S
          simp only [cons_append,nil_append] at S
          go_wp2_with first | ((with_reducible apply wps_load_el S 1 (hj:=HX.out) (q:=1) (u:=.int .i64 k));(case hx|hi=>rfl);(case hn=>omega);(case hu=>rfl);(case hT=>decide +kernel)) | ((with_reducible apply wps_loada_el S 1 (hj:=HX.out) (q:=3) (vs:=[.int .i64 xthn.n0,.int .i64 xthn.n1,.int .i64 xthn.n2,.int .i64 xthn.n3]) (m:=4));(case hx|hi=>rfl);(case hn=>omega);(case hm|hv=>rfl);(case hT=>decide +kernel)) | ((with_reducible refine tot_done ?ht ?_);(case ht=>kernel_rfl))
          exact ⟨rfl,S⟩)
        (case hs=>exact ⟨_,rfl,by kernel_rfl⟩)
       refine softs_nil ?_
       (with_reducible apply W_hard1 (i:=12));(case hn=>rfl);(case hr=>decide +kernel)
       intro wz S
       (with_reducible apply hard_of);(case hi=>rfl)
       simp only [cons_append,nil_append] at S
       go_wp2_with first | ((with_reducible apply wps_store_owna sacells S 2 (hj:=HS0.out) (e':=xthn) (q:=0) (vs:=[.int .i64 xthn.n0,.int .i64 xthn.n1,.int .i64 xthn.n2,.int .i64 xthn.n3]) (m:=4));(case hx=>rfl);(case hn=>omega);(case hi|hy|hm|h1|he=>rfl);(case hq=>exact nle rfl);(case hT=>decide +kernel);clear S;intro wz S;simp only [set_cons_succ,set_cons_zero] at S) | ((with_reducible refine tot_done ?ht ?_);(case ht=>kernel_rfl))
       refine ⟨_,S,?_⟩
       clear S
       (with_reducible apply W_done);(case hn=>rfl);(case hr=>decide +kernel)
       intro wz S
       repeat (first | simp only at S | simp only [pick] at S | simp only [nth] at S | simp only [set_cons_succ] at S | simp only [set_cons_zero] at S | simp only [setIfInBounds_toArray] at S | simp only [setAll] at S | simp only [cons_append] at S | simp only [nil_append] at S | simp only [List.append_nil] at S)
       go_wp2_with first | ((with_reducible apply wps_loada (T:=50) (k:=4) S 0);(case hx|hi=>rfl);(case hk=>exact nle rfl);(case hT=>decide +kernel))
       go_roundw
       case rel=>exact ⟨j + 1,s2.set k xthn,by omega,by go_num,HS3,S⟩
       case measure=>simp [intOf];omega
     · obtain rfl : j = l.length:=by omega
       rw [List.take_length] at HS2
       have HSL : Hid (s2.length = t.length):=Lib.hid (by rw [HS2.out,setst_lenJ])
       clear hlt hj
       go_wp2_with first | ((with_reducible apply wps_loada (T:=50) (k:=4) S 0);(case hx|hi=>rfl);(case hk=>exact nle rfl);(case hT=>decide +kernel))
       go_ret
       have S2:=S.pick [2] rfl
       simp only [pick,nth] at S2
       refine ⟨a1,c1,?_,?_⟩
       · rw [HTT.out,← HS2.out,HSL.out];rfl
       · rw [HTT.out,← HS2.out,HSL.out];exact S2
end Go.Proofs.YtcnfionnnpnplaaGreatDoor
/- The walk of the law's few (chapter 20). -/
namespace Go.Proofs.YtcnfionnnpnplaaGreatDoor
open Go Go.RowKit Reg Mem
open List (set_cons_succ set_cons_zero setIfInBounds_toArray cons_append nil_append)
def fewOne (b : BatE) : Bool:=decide (b.ins.length ≤ 20) && decide (b.sent.length ≤ 80) && b.ins.all fun e=>decide (0 ≤ e.key.at_ ∧ e.key.at_ ≤ 1073741824)
def fewT (l : List BatE) : Bool:=l.all fewOne && decide (l.length ≤ 40)
def FewRel20 (L : List Asn) (l : List BatV) (w : World) (i : Value) (wr : World) : Prop:=
 ∃ j : Nat,j ≤ l.length ∧ i = .int .i64 j ∧ Hid (((l.take j).map (·.b)).all fewOne = true) ∧ St (fun _=>False) w wr L
def FewRelB20 (L : List Asn) (l : List Event) (w : World) (i : Value) (wr : World) : Prop:=
 ∃ j : Nat,j ≤ l.length ∧ i = .int .i64 j ∧ Hid ((l.take j).all (fun e=>decide (0 ≤ e.key.at_ ∧ e.key.at_ ≤ 1073741824)) = true) ∧ St (fun _=>False) w wr L
theorem few20_calls (ad : Option Addr) (c : Nat) (l : List BatV) (w : World) (F F2 F3 : Nat → Prop) (h : (Sl true BatV.cells 8 (.slice ad l.length c) l).at_ w F) (h2 : (insA true l).at_ w F2) (h3 : (outA true l).at_ w F3) (hn : l.length ≤ 9223372036854775807) (hn2 : ∀ x ∈ l,x.b.ins.length ≤ 9223372036854775807) :
 Calls Tryz.prog 7 #[.slice ad l.length c] w fun e w'=>e = .returned (.bool (fewT (l.map (·.b)))) ∧ Below w.heap.size w w':=by
 have S : St (fun _=>False) w w [Sl true BatV.cells 8 (.slice ad l.length c) l,insA true l,outA true l]:=(((St.init _ w).share (A:=outA true l) rfl rfl h3).share (A:=insA true l) rfl rfl h2).share (A:=Sl true BatV.cells 8 (.slice ad l.length c) l) rfl rfl h
 clear h h2 h3
 have HN2:=Lib.hid hn2
 clear hn2
 go_enter Tryz.func7,Tryz.ntmps7
 go_wp2_with first | ((with_reducible apply wps_load S 0);(case hx|hi|hu=>rfl);(case hT=>decide +kernel))
 go_loopw [3] (fun i wr=>FewRel20 _ l w i wr) (fun i _=>l.length - (intOf i).toNat)
 case atStart=>exact ⟨0,Nat.zero_le _,rfl,Lib.hid rfl,S⟩
 case round=>
  clear S
  obtain ⟨j,hj,rfl,HA,S⟩:=hrel
  by_cases hlt : j < l.length
  · obtain ⟨x,hx⟩ : ∃ x,l[j]? = some x:=⟨_,List.getElem?_eq_getElem hlt⟩
    obtain ⟨R,o,rfl⟩ : ∃ R o,ad = some ⟨R,o,none⟩:=(S.sl 0 rfl).elim fun F h=>h.head (by omega)
    have hlt2 : (j : Int) < l.length:=by omega
    have HXM:=Lib.hid (List.mem_of_getElem? hx)
    have hxn:=HN2.out x HXM.out
    have HBAD : Hid (fewOne x.b = false → fewT (l.map (·.b)) = false):=Lib.hid fun hb=>by
     unfold fewT
     have : (l.map (·.b)).all fewOne = false:=by
      rw [← Bool.not_eq_true,List.all_eq_true]
      intro g
      have:=g x.b (List.mem_map.2 ⟨x,HXM.out,rfl⟩)
      rw [hb] at this;cases this
     rw [this,Bool.false_and]
    have HGO : Hid (fewOne x.b = true → ((l.take (j + 1)).map (·.b)).all fewOne = true):=Lib.hid fun hb=>by
     rw [take_snoc hx,List.map_append,List.all_append,HA.out];simp [hb]
    have HX:=Lib.hid hx
    replace S:=S.also (A':=Sl true Event.cells 7 x.vi x.b.ins) 1 rfl rfl rfl (fun F h=>⟨F,fun _ hb=>hb,ins_el h HXM.out⟩)
    clear hx
    obtain ⟨⟨xat,xlp,xins,xthn,xsent⟩,xai,xci,xao,xco⟩:=x
    simp only [BatV.vi] at S
    simp only at hxn HBAD HGO
    by_cases h20 : xins.length ≤ 20
    case neg=>
     have f1 : decide ((xins.length : Int) > 20) = true:=decide_eq_true (by omega)
     have f2 : decide ((20 : Int) < xins.length) = true:=decide_eq_true (by omega)
     have HF:=Lib.hid (HBAD.out (by unfold fewOne;simp only [decide_eq_false h20,Bool.false_and]))
     clear h20
     go_wp2_with first | ((with_reducible apply wps_load_el S 1 (hj:=HX.out) (q:=2) (u:=.slice xai xins.length xci));(case hx|hi=>rfl);(case hn=>omega);(case hu=>rfl);(case hT=>decide +kernel))
     go_ret
     exact ⟨ret_bool HF.out.symm,S.below⟩
    have f1 : decide ((xins.length : Int) > 20) = false:=decide_eq_false (by omega)
    have f2 : decide ((20 : Int) < xins.length) = false:=decide_eq_false (by omega)
    by_cases h80 : xsent.length ≤ 80
    case neg=>
     have f3 : decide ((xsent.length : Int) > 80) = true:=decide_eq_true (by omega)
     have f4 : decide ((80 : Int) < xsent.length) = true:=decide_eq_true (by omega)
     have HF:=Lib.hid (HBAD.out (by unfold fewOne;simp only [decide_eq_false h80,Bool.and_false,Bool.false_and]))
     clear h20 h80
     go_wp2_with first | ((with_reducible apply wps_load_el S 1 (hj:=HX.out) (q:=2) (u:=.slice xai xins.length xci));(case hx|hi=>rfl);(case hn=>omega);(case hu=>rfl);(case hT=>decide +kernel)) | ((with_reducible apply wps_load_el S 1 (hj:=HX.out) (q:=7) (u:=.slice xao xsent.length xco));(case hx|hi=>rfl);(case hn=>omega);(case hu=>rfl);(case hT=>decide +kernel))
     go_ret
     exact ⟨ret_bool HF.out.symm,S.below⟩
    have f3 : decide ((xsent.length : Int) > 80) = false:=decide_eq_false (by omega)
    have f4 : decide ((80 : Int) < xsent.length) = false:=decide_eq_false (by omega)
    have HFO : Hid (fewOne ⟨xat,xlp,xins,xthn,xsent⟩ = xins.all fun e=>decide (0 ≤ e.key.at_ ∧ e.key.at_ ≤ 1073741824)):=Lib.hid (by unfold fewOne;simp only [decide_eq_true h20,decide_eq_true h80,Bool.true_and])
    clear h80
    go_wp2_with first | ((with_reducible apply wps_load_el S 1 (hj:=HX.out) (q:=2) (u:=.slice xai xins.length xci));(case hx|hi=>rfl);(case hn=>omega);(case hu=>rfl);(case hT=>decide +kernel)) | ((with_reducible apply wps_load_el S 1 (hj:=HX.out) (q:=7) (u:=.slice xao xsent.length xco));(case hx|hi=>rfl);(case hn=>omega);(case hu=>rfl);(case hT=>decide +kernel))
    go_loopw [4] (fun i wr=>FewRelB20 _ xins w i wr) (fun i _=>xins.length - (intOf i).toNat)
    case atStart=>exact ⟨0,Nat.zero_le _,rfl,Lib.hid rfl,S⟩
    case round=>
     clear S
     obtain ⟨k,hk,rfl,HA2,S⟩:=hrel
     by_cases hkt : k < xins.length
     · obtain ⟨y,hy⟩ : ∃ y,xins[k]? = some y:=⟨_,List.getElem?_eq_getElem hkt⟩
       obtain ⟨R2,o2,rfl⟩ : ∃ R o,xai = some ⟨R,o,none⟩:=(S.sl 0 rfl).elim fun F h=>h.head (by omega)
       have hkt2 : (k : Int) < xins.length:=by omega
       have HY:=Lib.hid hy
       have HGO2 : Hid (0 ≤ y.key.at_ ∧ y.key.at_ ≤ 1073741824 → (xins.take (k + 1)).all (fun e=>decide (0 ≤ e.key.at_ ∧ e.key.at_ ≤ 1073741824)) = true):=Lib.hid fun hb=>by
        rw [take_snoc hy,List.all_append,HA2.out];simp [hb]
       have HBAD2 : Hid (¬ (0 ≤ y.key.at_ ∧ y.key.at_ ≤ 1073741824) → fewT (l.map (·.b)) = false):=Lib.hid fun hb=>HBAD.out (by
        rw [HFO.out,← Bool.not_eq_true,List.all_eq_true]
        intro g
        have:=g y (List.mem_of_getElem? HY.out)
        rw [decide_eq_true_eq] at this
        exact hb this)
       clear hy
       by_cases g1 : y.key.at_ < 0
       · have f5 : decide (y.key.at_ < 0) = true:=decide_eq_true g1
         have HF:=Lib.hid (HBAD2.out (by omega))
         clear g1
         go_wp2_with first | ((with_reducible apply wps_load_el S 1 (hj:=HX.out) (q:=2) (u:=.slice (some ⟨R2,o2,none⟩) xins.length xci));(case hx|hi=>rfl);(case hn=>omega);(case hu=>rfl);(case hT=>decide +kernel)) | ((with_reducible apply wps_load_el S 0 (hj:=HY.out) (q:=0) (u:=.int .i64 y.key.at_));(case hx|hi=>rfl);(case hn=>omega);(case hu=>rfl);(case hT=>decide +kernel))
         go_ret
         exact ⟨ret_bool HF.out.symm,S.below⟩
       have f5 : decide (y.key.at_ < 0) = false:=decide_eq_false g1
       by_cases g2 : y.key.at_ ≤ 1073741824
       case neg=>
        have f6 : decide (y.key.at_ > 1073741824) = true:=decide_eq_true (by omega)
        have f7 : decide (1073741824 < y.key.at_) = true:=decide_eq_true (by omega)
        have HF:=Lib.hid (HBAD2.out (by omega))
        clear g1 g2
        go_wp2_with first | ((with_reducible apply wps_load_el S 1 (hj:=HX.out) (q:=2) (u:=.slice (some ⟨R2,o2,none⟩) xins.length xci));(case hx|hi=>rfl);(case hn=>omega);(case hu=>rfl);(case hT=>decide +kernel)) | ((with_reducible apply wps_load_el S 0 (hj:=HY.out) (q:=0) (u:=.int .i64 y.key.at_));(case hx|hi=>rfl);(case hn=>omega);(case hu=>rfl);(case hT=>decide +kernel))
        go_ret
        exact ⟨ret_bool HF.out.symm,S.below⟩
       have f6 : decide (y.key.at_ > 1073741824) = false:=decide_eq_false (by omega)
       have f7 : decide (1073741824 < y.key.at_) = false:=decide_eq_false (by omega)
       have HG2:=Lib.hid (HGO2.out ⟨by omega,g2⟩)
       clear g1 g2
       go_wp2_with first | ((with_reducible apply wps_load_el S 1 (hj:=HX.out) (q:=2) (u:=.slice (some ⟨R2,o2,none⟩) xins.length xci));(case hx|hi=>rfl);(case hn=>omega);(case hu=>rfl);(case hT=>decide +kernel)) | ((with_reducible apply wps_load_el S 0 (hj:=HY.out) (q:=0) (u:=.int .i64 y.key.at_));(case hx|hi=>rfl);(case hn=>omega);(case hu=>rfl);(case hT=>decide +kernel))
       go_roundw
       case rel=>exact ⟨k + 1,by omega,by go_num,HG2,S⟩
       case measure=>simp [intOf];omega
     · obtain rfl : k = xins.length:=by omega
       have HG:=Lib.hid (HGO.out (by rw [HFO.out];have:=HA2.out;rwa [List.take_length] at this))
       clear hkt hk
       go_wp2_with first | ((with_reducible apply wps_load_el S 1 (hj:=HX.out) (q:=2) (u:=.slice xai xins.length xci));(case hx|hi=>rfl);(case hn=>omega);(case hu=>rfl);(case hT=>decide +kernel))
       go_roundw
       case rel=>exact ⟨j + 1,by omega,by go_num,HG,S.pick [1,2,3] rfl⟩
       case measure=>simp [intOf];omega
  · obtain rfl : j = l.length:=by omega
    rw [List.take_length] at HA
    have HF : Hid (fewT (l.map (·.b)) = decide (l.length ≤ 40)):=Lib.hid (by unfold fewT;rw [HA.out,Bool.true_and,List.length_map])
    clear hlt hj
    by_cases h40 : l.length ≤ 40
    · have f1 : decide ((l.length : Int) ≤ 40) = true:=decide_eq_true (by omega)
      rw [decide_eq_true h40] at HF
      clear h40
      go_wp2_with first | ((with_reducible apply wps_load S 0);(case hx|hi|hu=>rfl);(case hT=>decide +kernel))
      go_ret
      exact ⟨ret_bool (by rw [HF.out]),S.below⟩
    · have f1 : decide ((l.length : Int) ≤ 40) = false:=decide_eq_false (by omega)
      rw [decide_eq_false h40] at HF
      clear h40
      go_wp2_with first | ((with_reducible apply wps_load S 0);(case hx|hi|hu=>rfl);(case hT=>decide +kernel))
      go_ret
      exact ⟨ret_bool (by rw [HF.out]),S.below⟩
end Go.Proofs.YtcnfionnnpnplaaGreatDoor
/- Plain: how much a trace of few batches is; a commit in two parts. No program in sight. -/
namespace Go.Proofs.YtcnfionnnpnplaaGreatDoor
open Go Go.RowKit Mem
open List (set_cons_succ set_cons_zero setIfInBounds_toArray cons_append nil_append)
structure FewB (m : List BatE) (k : Nat) : Prop where
 len : m.length ≤ k
 each : ∀ b ∈ m,b.ins.length ≤ 20 ∧ b.sent.length ≤ 80 ∧ ∀ e ∈ b.ins,0 ≤ e.key.at_ ∧ e.key.at_ ≤ 1073741824
theorem few_of {l : List BatE} (h : fewT l = true) : FewB l 40:=by
 unfold fewT at h
 rw [Bool.and_eq_true,decide_eq_true_eq,List.all_eq_true] at h
 refine ⟨h.2,fun b hb=>?_⟩
 have:=h.1 b hb
 unfold fewOne at this
 simp only [Bool.and_eq_true,decide_eq_true_eq,List.all_eq_true] at this
 exact ⟨this.1.1,this.1.2,fun e he=>this.2 e he⟩
theorem FewB.sub {m l : List BatE} {k : Nat} (h : FewB m k) (hs : l.Sublist m) : FewB l k:=⟨Nat.le_trans hs.length_le h.len,fun b hb=>h.each b (hs.subset hb)⟩
theorem FewB.app {m l : List BatE} {j k : Nat} (h : FewB m k) (g : FewB l j) : FewB (m ++ l) (k + j):=⟨by rw [List.length_append];have:=h.len;have:=g.len;omega,fun b hb=>(List.mem_append.1 hb).elim (h.each b) (g.each b)⟩
theorem FewB.small {m : List BatE} {k : Nat} (h : FewB m k) (hk : k ≤ 80) : SmallB m:=⟨by have:=h.len;omega,fun b hb=>by have:=h.each b hb;omega⟩
theorem flat_le {α : Type} {f : BatE → List α} {n : Nat} : ∀ {m : List BatE},(∀ b ∈ m,(f b).length ≤ n) → (m.flatMap f).length ≤ m.length * n
 | [],_=>by simp
 | b :: m,h=>by
   have h1:=h b (by simp)
   have h2:=flat_le (m:=m) fun x hx=>h x (List.mem_cons_of_mem _ hx)
   rw [List.flatMap_cons,List.length_append,List.length_cons,Nat.add_mul]
   omega
theorem ahead_flat {α : Type} {f : BatE → List α} {u : Int} : ∀ t : TrE,((aheadT u t).flatMap fun p=>p.1.flatMap f).length ≤ (t.flatMap fun p=>p.1.flatMap f).length
 | []=>Nat.le_refl _
 | p :: t=>by
   have h1:=ahead_flat (f:=f) (u:=u) t
   unfold aheadT at *
   rw [List.map_cons,List.flatMap_cons,List.flatMap_cons,List.length_append,List.length_append]
   have h2 : ((aheadE u p.1).flatMap f).length ≤ (p.1.flatMap f).length:=by
    unfold aheadE
    conv=>rhs;rw [← List.takeWhile_append_dropWhile (p:=fun b : BatE=>decide (b.at_ < u)) (l:=p.1),List.flatMap_append,List.length_append]
    omega
   simp only
   omega
theorem isT_small {c : Cfg} {m : List BatE} {t : TrE} {k : Nat} {u : Int} (h : IsT c m t) (hi : inRange c.lps.length m) (hf : FewB m k) (hk : k ≤ 80) (hl : c.lps.length ≤ 32) (hst : c.starts.length ≤ 256) :
 SmallT t ∧ SmallH c u t ∧ (t.flatMap (·.1)).length ≤ 65536:=by
 have hp:=isT_perm h hi
 have hmem : ∀ p ∈ t,∀ b ∈ p.1,b ∈ m:=fun p hp' b hb=>hp.mem_iff.1 (List.mem_flatMap.2 ⟨p,hp',hb⟩)
 have hfl : ∀ {α : Type} (f : BatE → List α) (n : Nat),(∀ b ∈ m,(f b).length ≤ n) → ((aheadT u t).flatMap fun p=>p.1.flatMap f).length ≤ m.length * n:=fun f n hn=>by
  refine Nat.le_trans (ahead_flat t) ?_
  have e : (t.flatMap fun p=>p.1.flatMap f) = (t.flatMap (·.1)).flatMap f:=by rw [List.flatMap_assoc]
  rw [e]
  have h2:=flat_le (f:=f) (n:=n) (m:=t.flatMap (·.1)) fun b hb=>hn b (hp.mem_iff.1 hb)
  rwa [hp.length_eq] at h2
 have hlen:=hf.len
 refine ⟨⟨by have:=h.1;omega,fun p hp'=>⟨?_,fun b hb=>?_⟩⟩,⟨?_,?_,fun p hp' b hb e he=>?_⟩,by rw [hp.length_eq];omega⟩
 · have h3 : p.1.length ≤ (t.flatMap (·.1)).length:=by
    obtain ⟨i,hi2,rfl⟩:=List.mem_iff_getElem.1 hp'
    have:=sub_flat (f:=fun p : List BatE × State=>p.1) (List.getElem?_eq_getElem hi2)
    rw [List.length_append] at this
    omega
   rw [hp.length_eq] at h3
   omega
 · have:=hf.each b (hmem p hp' b hb);omega
 · have:=hfl (fun b=>b.sent) 80 (fun b hb=>(hf.each b hb).2.1)
   have h4 : m.length * 80 ≤ 80 * 80:=Nat.mul_le_mul_right _ (by omega)
   omega
 · have:=hfl (fun b=>b.ins) 20 (fun b hb=>(hf.each b hb).1)
   have h4 : m.length * 20 ≤ 80 * 20:=Nat.mul_le_mul_right _ (by omega)
   omega
 · have:=(hf.each b (hmem p hp' b hb)).2.2 e he;omega
theorem rise_nil : Rise []:=List.Pairwise.nil
end Go.Proofs.YtcnfionnnpnplaaGreatDoor
/- Of a trace: how many batches there are, those of a process, and its parts by lists of values. -/
namespace Go.Proofs.YtcnfionnnpnplaaGreatDoor
open Go
open List (set_cons_succ set_cons_zero setIfInBounds_toArray cons_append nil_append)
theorem lenQ_is {c : Cfg} {m : List BatE} {t : TrE} (h : IsT c m t) (hi : inRange c.lps.length m) : lenQ t = m.length:=by
 rw [← (isT_perm h hi).length_eq,List.length_flatMap];rfl
theorem ofQ_is {c : Cfg} {m : List BatE} {t : TrE} (h : IsT c m t) (hi : inRange c.lps.length m) (z : Int) : ofQ t z = ofT m z:=by
 have hnil : (z < 0 ∨ c.lps.length ≤ z) → ofT m z = []:=fun g=>by
  unfold ofT
  rw [List.filter_eq_nil_iff]
  intro b hb e
  have:=hi b hb
  rw [decide_eq_true_eq] at e
  omega
 unfold ofQ
 by_cases h0 : 0 ≤ z
 · rw [if_pos h0]
   obtain ⟨n,rfl⟩ : ∃ n : Nat,z = n:=⟨z.toNat,by omega⟩
   rw [Int.toNat_natCast]
   by_cases hn : n < c.lps.length
   · rw [h.2 n _ (List.getElem?_eq_getElem hn)]
   · rw [List.getElem?_eq_none (by rw [h.1];omega),hnil (.inr (by omega))]
 · rw [if_neg h0,hnil (.inl (by omega))]
def ofV (z : Int) (l : List BatV) : List BatV:=l.filter fun x=>decide (x.b.lp = z)
theorem ofV_b (z : Int) (l : List BatV) : (ofV z l).map (·.b) = ofT (l.map (·.b)) z:=by
 unfold ofV ofT
 rw [List.filter_map];rfl
theorem ofV_snoc {z : Int} {l : List BatV} {j : Nat} {x : BatV} (h : l[j]? = some x) : ofV z (l.take (j + 1)) = ofV z (l.take j) ++ (if x.b.lp = z then [x] else []):=by
 unfold ofV
 rw [take_snoc h,List.filter_append]
 by_cases hx : x.b.lp = z
 · rw [if_pos hx,List.filter_cons_of_pos (by simpa using hx)];rfl
 · rw [if_neg hx,List.filter_cons_of_neg (by simpa using hx)];rfl
theorem wrong_in {n : Nat} {a b : List BatE} (h : wrongT n a b = 0) : inRange n b:=by
 unfold wrongT at h
 by_cases hi : inRange n b
 · exact hi
 · rw [if_pos hi] at h;exact absurd h (by decide)
end Go.Proofs.YtcnfionnnpnplaaGreatDoor
/- 's = append(s, e)' where the bytes are bounded. Over any program. -/
namespace Go.Proofs.YtcnfionnnpnplaaGreatDoor.Mem
open Go Go.RowKit Reg
open List (set_cons_succ set_cons_zero setIfInBounds_toArray cons_append nil_append)
section
variable {P : Program} {ops : Array Oper} {rest : List Oper} {a : Act} {Q : Exit → Act → World → Prop} {d : Option Tmp} {tt : TypeId} {p : String} {af : Array Edge} {gd : Option (Nat × Bool)} {x y : Operand}
variable {G : Nat → Prop} {w0 w : World} {L : List Asn}
theorem wps_append1B {α : Type} {sh : Bool} {T E E' : TypeId} {enc : α → List Value} {k bytes b : Nat} {cs : Array Value} {v : Value} {xs : List α} (el : Elem P T E k bytes) (hk : ∀ x,(enc x).length = k) (hone : ∀ x,∀ u ∈ enc x,u.oneCell' = true) (hb1 : 1 ≤ bytes)
 (S : St G w0 w L) (i : Nat) (hi : L[i]? = some (Own E enc k v xs)) (j : Nat) (hj : L[j]? = some (Blk sh b cs E')) (e : α) (hx : a.eval x = v) (hy : a.eval y = .slice (some ⟨b,0,none⟩) 1 1) (he : enc e = cs.toList) (hl : (xs.length + 1) * bytes ≤ 140737488355328)
 (next : ∀ ad n c w',Hid (n = xs.length + 1) → St G w0 w' (L.set i (Own E enc k (.slice ad n c) (xs ++ [e]))) → wpList P ops Q rest (a.put d (.slice ad n c)) w') (hgd : gOk gd ops a = true:=by with_unfolding_all rfl) :
 wpList P ops Q ({ dst:=d,op:=.call { callee:=.builtin .append,args:=#[x,y],argTypes:=#[T,T] },type:=tt,pos:=p,after:=af,guard:=gd } :: rest) a w:=by
 have h2 : xs.length + 1 ≤ (xs.length + 1) * bytes:=Nat.le_mul_of_pos_right _ hb1
 exact wps_append (hgd:=hgd) el hk hone S i hi (blk_rd [e] 1 (S.blk j hj) (by simpa [flatE] using he) rfl) (by simp [maxLen];omega) (by simp;omega) hx hy fun v' w' S'=>by
  have hl' : i < L.length:=(List.getElem?_eq_some_iff.1 hi).1
  obtain ⟨F,h⟩:=S'.get (i:=i) (List.getElem?_set_self hl')
  obtain ⟨ad,c,rfl⟩:=h.1.form
  exact next _ _ _ _ (by simp [Hid]) S'
end
end Go.Proofs.YtcnfionnnpnplaaGreatDoor.Mem
