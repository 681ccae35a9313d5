import Derived.Test.YtcnfionnnpnplaaGreatDoorZ31
/- The walk of the document's Sorted (chapter 20). -/
set_option maxHeartbeats 16000000
set_option maxRecDepth 100000
namespace Go.Proofs.YtcnfionnnpnplaaGreatDoor
open Go Go.RowKit Reg Mem
open List (set_cons_succ set_cons_zero setIfInBounds_toArray cons_append nil_append)
def insV (x : BatV) : List BatV → List BatV
 | []=>[x]
 | y :: l=>if leB y.b x.b then y :: insV x l else x :: y :: l
theorem insV_b (x : BatV) : ∀ l : List BatV,(insV x l).map (·.b) = insB x.b (l.map (·.b))
 | []=>rfl
 | y :: l=>by
   unfold insV insB
   simp only [List.map_cons]
   split
   · rw [List.map_cons,insV_b x l]
   · rfl
theorem insV_perm (x : BatV) : ∀ l : List BatV,(insV x l).Perm (x :: l)
 | []=>.refl _
 | y :: l=>by
   unfold insV
   split
   · exact ((insV_perm x l).cons y).trans (.swap x y l)
   · exact .refl _
theorem insV_at {x : BatV} : ∀ {t : List BatV} {n : Nat},(∀ (q : Nat) z,q < n → t[q]? = some z → leB z.b x.b) → n ≤ t.length → (n = t.length ∨ ∃ y,t[n]? = some y ∧ ¬ leB y.b x.b) → insV x t = t.take n ++ [x] ++ t.drop n
 | [],n,_,hn,_=>by simp at hn;subst hn;rfl
 | y :: t,0,_,_,he=>by
   rcases he with he | ⟨z,hz,hb⟩
   · simp at he
   · simp at hz;subst hz
     unfold insV;rw [if_neg hb];rfl
 | y :: t,n + 1,h,hn,he=>by
   have hy:=h 0 y (by omega) rfl
   unfold insV
   rw [if_pos hy,insV_at (n:=n) (fun q z hq hz=>h (q + 1) z (by omega) (by simpa using hz)) (by simpa using hn) (by
    rcases he with he | ⟨z,hz,hb⟩
    · exact .inl (by simpa using he)
    · exact .inr ⟨z,by simpa using hz,hb⟩)]
   rfl
theorem foldV_b : ∀ (l s : List BatV),(l.foldl (fun s x=>insV x s) s).map (·.b) = (l.map (·.b)).foldl (fun s x=>insB x s) (s.map (·.b))
 | [],_=>rfl
 | x :: l,s=>by rw [List.foldl_cons,foldV_b l,insV_b];rfl
theorem foldV_perm : ∀ (l s : List BatV),(l.foldl (fun s x=>insV x s) s).Perm (l ++ s)
 | [],_=>.refl _
 | x :: l,s=>(foldV_perm l (insV x s)).trans (((insV_perm x s).append_left l).trans List.perm_middle)
def RsRel (ad : Option Addr) (c : Nat) (l : List BatV) (w : World) (v i : Value) (wr : World) : Prop:=
 ∃ (j : Nat) (t : List BatV),j ≤ l.length ∧ i = .int .i64 j ∧ Hid (t = (l.take j).foldl (fun s x=>insV x s) []) ∧ St (fun _=>False) w wr [Mem.Own 67 BatV.cells 8 v t,Sl true BatV.cells 8 (.slice ad l.length c) l]
def RsRel2 (L : List Asn) (t : List BatV) (x : BatE) (w : World) (i : Value) (wr : World) : Prop:=
 ∃ n : Nat,n ≤ t.length ∧ i = .int .i64 n ∧ Hid (∀ (q : Nat) z,q < n → t[q]? = some z → leB z.b x) ∧ St (fun _=>False) w wr L
def RsPost (l : List BatV) (w : World) (e : Ending) (w' : World) : Prop:=
 ∃ a cp d,e = .returned (.slice a l.length cp) ∧ d.map (·.b) = sortB (l.map (·.b)) ∧ d.Perm l ∧ St (fun _=>False) w w' [Mem.Own 67 BatV.cells 8 (.slice a l.length cp) d]
theorem rsorted_calls (ad : Option Addr) (c : Nat) (l : List BatV) (w : World) (F : Nat → Prop) (h : (Sl true BatV.cells 8 (.slice ad l.length c) l).at_ w F) (hn : l.length ≤ 65536) :
 Calls Tryz.prog 17 #[.slice ad l.length c] w (RsPost l w):=by
 have S : St (fun _=>False) w w [Sl true BatV.cells 8 (.slice ad l.length c) l]:=(St.init _ w).share (A:=Sl true BatV.cells 8 (.slice ad l.length c) l) rfl rfl h
 clear h
 go_enter Tryz.func17,Tryz.ntmps17
 go_wp2_with first | ((with_reducible apply wps_loada (T:=67) (k:=8) S 0);(case hx|hi=>rfl);(case hk=>exact nle rfl);(case hT=>decide +kernel))
 go_loopw [3,4] (fun v i wr=>RsRel ad c l w v i wr) (fun _ i _=>l.length - (intOf i).toNat)
 case atStart=>exact ⟨0,[],Nat.zero_le _,rfl,Lib.hid rfl,S.nil 67 BatV.cells 8⟩
 case round=>
  clear S
  obtain ⟨j,t,hj,rfl,HT,S⟩:=hrel
  have htl : t.length = j:=by have:=(foldV_perm (l.take j) []).length_eq;rw [← HT.out,List.append_nil,List.length_take] at this;omega
  obtain ⟨a1,c1,rfl,_⟩:=(S.ownsl bvcells 0 rfl).elim fun _ h=>h.form
  by_cases hlt : j < l.length
  · obtain ⟨x,hx⟩ : ∃ x,l[j]? = some x:=⟨_,List.getElem?_eq_getElem hlt⟩
    obtain ⟨R0,o0,rfl⟩ : ∃ R o,ad = some ⟨R,o,none⟩:=(S.sl 1 rfl).elim fun F h=>h.head (by omega)
    have hlt2 : (j : Int) < l.length:=by omega
    have ht6 : t.length ≤ 65536:=by omega
    have HX:=Lib.hid hx
    clear hx htl
    obtain ⟨⟨xat,xlp,xins,xthn,xsent⟩,xai,xci,xao,xco⟩:=x
    go_wp2_with first | ((with_reducible apply wps_loada (T:=67) (k:=8) S 0);(case hx|hi=>rfl);(case hk=>exact nle rfl);(case hT=>decide +kernel))
    go_loopw [5] (fun i wr=>RsRel2 _ t ⟨xat,xlp,xins,xthn,xsent⟩ w i wr) (fun i _=>t.length - (intOf i).toNat)
    case atStart=>exact ⟨0,Nat.zero_le _,rfl,Lib.hid (fun q z h=>by omega),S⟩
    case round=>
     clear S
     obtain ⟨n,hnt,rfl,HLE,S⟩:=hrel
     have hn6 : (n : Int) ≤ 65536:=by omega
     by_cases hnt2 : n < t.length
     · obtain ⟨y,hy⟩ : ∃ y,t[n]? = some y:=⟨_,List.getElem?_eq_getElem hnt2⟩
       have hnt3 : (n : Int) < t.length:=by omega
       obtain ⟨Rr,crr,e⟩:=own_hd 0 S rfl (by omega)
       simp only [Value.slice.injEq] at e
       obtain ⟨rfl,hq,rfl⟩:=e
       have HY:=Lib.hid hy
       clear hq hy
       obtain ⟨⟨yat,ylp,yins,ythn,ysent⟩,yai,yci,yao,yco⟩:=y
       by_cases e1 : yat < xat
       · have f1 : decide (yat < xat) = true:=decide_eq_true e1
         have HLE2 : Hid (∀ (q : Nat) (z : BatV),q < n + 1 → t[q]? = some z → leB z.b ⟨xat,xlp,xins,xthn,xsent⟩):=Lib.hid fun q z hq hz=>by
          rcases Nat.lt_or_ge q n with h | h
          · exact HLE.out q z h hz
          · obtain rfl : q = n:=by omega
            rw [HY.out] at hz;cases hz
            unfold leB;simp only;omega
         clear e1
         go_wp2_with first | ((with_reducible apply wps_loada (T:=67) (k:=8) S 0);(case hx|hi=>rfl);(case hk=>exact nle rfl);(case hT=>decide +kernel))
         (refine wp_region_w (soft:=[0,1,2,3,4,5,6,7,8,9,10,11,12,13,14,15,16,17,18,19,20,21,22,23,24,25,26,27,28,29,30,31,32,33,34,35,36,37,38,39,40,41,42]) S ?hm ?hB ?_);(case hm=>kernel_rfl);(case hB=>decide +kernel);clear S
         iterate 43
          (with_reducible apply softs_cons)
          (case hw=>
            (with_reducible apply soft_of);(case hi=>rfl)
            intro T wz S
            simp only [cons_append,nil_append] at S
            go_wp2_with first | ((with_reducible apply wps_load_own bvcells S 0 (hj:=HY.out) (q:=0) (u:=.int .i64 yat));(case hx|hi=>rfl);(case hn=>omega);(case hu=>rfl);(case hT=>decide +kernel)) | ((with_reducible apply wps_load_el S 1 (hj:=HX.out) (q:=0) (u:=.int .i64 xat));(case hx|hi=>rfl);(case hn=>omega);(case hu=>rfl);(case hT=>decide +kernel)) | ((with_reducible refine tot_done ?ht ?_);(case ht=>kernel_rfl))
            exact ⟨rfl,S⟩)
          (case hs=>exact ⟨_,rfl,by kernel_rfl⟩)
         refine softs_nil ?_
         (with_reducible apply W_done);(case hn=>rfl);(case hr=>decide +kernel)
         intro wz S
         simp only [List.append_nil] at S
         go_wp2_with first | ((with_reducible apply wps_loada (T:=67) (k:=8) S 0);(case hx|hi=>rfl);(case hk=>exact nle rfl);(case hT=>decide +kernel))
         go_roundw
         case rel=>exact ⟨n + 1,by omega,by go_num,HLE2,S⟩
         case measure=>simp [intOf];omega
       · have f1 : decide (yat < xat) = false:=decide_eq_false e1
         by_cases e2 : yat = xat
         · have f2 : (yat == xat) = true:=by simp [e2]
           by_cases e3 : ylp ≤ xlp
           · have f3 : decide (ylp ≤ xlp) = true:=decide_eq_true e3
             have HLE2 : Hid (∀ (q : Nat) (z : BatV),q < n + 1 → t[q]? = some z → leB z.b ⟨xat,xlp,xins,xthn,xsent⟩):=Lib.hid fun q z hq hz=>by
              rcases Nat.lt_or_ge q n with h | h
              · exact HLE.out q z h hz
              · obtain rfl : q = n:=by omega
                rw [HY.out] at hz;cases hz
                unfold leB;simp only;omega
             clear e1 e2 e3
             go_wp2_with first | ((with_reducible apply wps_loada (T:=67) (k:=8) S 0);(case hx|hi=>rfl);(case hk=>exact nle rfl);(case hT=>decide +kernel))
             (refine wp_region_w (soft:=[0,1,2,3,4,5,6,7,8,9,10,11,12,13,14,15,16,17,18,19,20,21,22,23,24,25,26,27,28,29,30,31,32,33,34,35,36,37,38,39,40,41,42]) S ?hm ?hB ?_);(case hm=>kernel_rfl);(case hB=>decide +kernel);clear S
             iterate 43
              (with_reducible apply softs_cons)
              (case hw=>
                (with_reducible apply soft_of);(case hi=>rfl)
                intro T wz S
                simp only [cons_append,nil_append] at S
                go_wp2_with first | ((with_reducible apply wps_load_own bvcells S 0 (hj:=HY.out) (q:=0) (u:=.int .i64 yat));(case hx|hi=>rfl);(case hn=>omega);(case hu=>rfl);(case hT=>decide +kernel)) | ((with_reducible apply wps_load_own bvcells S 0 (hj:=HY.out) (q:=1) (u:=.int .i64 ylp));(case hx|hi=>rfl);(case hn=>omega);(case hu=>rfl);(case hT=>decide +kernel)) | ((with_reducible apply wps_load_el S 1 (hj:=HX.out) (q:=0) (u:=.int .i64 xat));(case hx|hi=>rfl);(case hn=>omega);(case hu=>rfl);(case hT=>decide +kernel)) | ((with_reducible apply wps_load_el S 1 (hj:=HX.out) (q:=1) (u:=.int .i64 xlp));(case hx|hi=>rfl);(case hn=>omega);(case hu=>rfl);(case hT=>decide +kernel)) | ((with_reducible refine tot_done ?ht ?_);(case ht=>kernel_rfl))
                exact ⟨rfl,S⟩)
              (case hs=>exact ⟨_,rfl,by kernel_rfl⟩)
             refine softs_nil ?_
             (with_reducible apply W_done);(case hn=>rfl);(case hr=>decide +kernel)
             intro wz S
             simp only [List.append_nil] at S
             go_wp2_with first | ((with_reducible apply wps_loada (T:=67) (k:=8) S 0);(case hx|hi=>rfl);(case hk=>exact nle rfl);(case hT=>decide +kernel))
             go_roundw
             case rel=>exact ⟨n + 1,by omega,by go_num,HLE2,S⟩
             case measure=>simp [intOf];omega
           · have f3 : decide (ylp ≤ xlp) = false:=decide_eq_false e3
             have HNL : Hid (¬ leB ⟨yat,ylp,yins,ythn,ysent⟩ ⟨xat,xlp,xins,xthn,xsent⟩):=Lib.hid (by unfold leB;simp only;omega)
             clear e1 e2 e3
             go_wp2_with first | ((with_reducible apply wps_loada (T:=67) (k:=8) S 0);(case hx|hi=>rfl);(case hk=>exact nle rfl);(case hT=>decide +kernel))
             (refine wp_region_w (soft:=[0,1,2,3,4,5,6,7,8,9,10,11,12,13,14,15,16,17,18,19,20,21,22,23,24,25,26,27,28,29,30,31,32,33,34,35,36,37,38,39,40,41,42]) S ?hm ?hB ?_);(case hm=>kernel_rfl);(case hB=>decide +kernel);clear S
             iterate 43
              (with_reducible apply softs_cons)
              (case hw=>
                (with_reducible apply soft_of);(case hi=>rfl)
                intro T wz S
                simp only [cons_append,nil_append] at S
                go_wp2_with first | ((with_reducible apply wps_load_own bvcells S 0 (hj:=HY.out) (q:=0) (u:=.int .i64 yat));(case hx|hi=>rfl);(case hn=>omega);(case hu=>rfl);(case hT=>decide +kernel)) | ((with_reducible apply wps_load_own bvcells S 0 (hj:=HY.out) (q:=1) (u:=.int .i64 ylp));(case hx|hi=>rfl);(case hn=>omega);(case hu=>rfl);(case hT=>decide +kernel)) | ((with_reducible apply wps_load_el S 1 (hj:=HX.out) (q:=0) (u:=.int .i64 xat));(case hx|hi=>rfl);(case hn=>omega);(case hu=>rfl);(case hT=>decide +kernel)) | ((with_reducible apply wps_load_el S 1 (hj:=HX.out) (q:=1) (u:=.int .i64 xlp));(case hx|hi=>rfl);(case hn=>omega);(case hu=>rfl);(case hT=>decide +kernel)) | ((with_reducible refine tot_done ?ht ?_);(case ht=>kernel_rfl))
                exact ⟨rfl,S⟩)
              (case hs=>exact ⟨_,rfl,by kernel_rfl⟩)
             refine softs_nil ?_
             (with_reducible apply W_done);(case hn=>rfl);(case hr=>decide +kernel)
             intro wz S
             simp only [List.append_nil] at S
             have HT2 : Hid (t.take n ++ [(⟨⟨xat,xlp,xins,xthn,xsent⟩,xai,xci,xao,xco⟩ : BatV)] ++ t.drop n = (l.take (j + 1)).foldl (fun s x=>insV x s) []):=Lib.hid (by
              rw [take_snoc HX.out,List.foldl_append,← HT.out]
              simp only [List.foldl_cons,List.foldl_nil]
              exact (insV_at HLE.out (by omega) (.inr ⟨_,HY.out,HNL.out⟩)).symm)
             skip
             replace S:=(S.freeze true 0 bvcells rfl).nil 67 BatV.cells 8
             simp only [set_cons_zero] at S
             go_wp2_with first | ((with_reducible apply wps_slice (E:=67) S 1 (l:=0) (u:=n));(case hx|hi=>rfl);(case hT=>exact Tryz.underlying45);(case hE=>intro w;kernel_rfl);(case hlo|hhi=>first | exact .inr rfl | exact .inl ⟨rfl,rfl⟩);(case h1|h2=>first | omega | (simp;omega));clear S;intro az nz cz hnz S) | ((with_reducible apply wps_appends elem_RBat bvcells bvone (by decide) S 1 (j:=0));(case hx|hy|hi|hj=>rfl);(case hl=>simp;omega);clear S;intro az1 nz1 cz1 wz hnz1 S;simp only [set_cons_succ,set_cons_zero,nil_append,List.drop_zero] at S) | ((with_reducible apply wps_loada_el S 3 (hj:=HX.out) (q:=0) (vs:=[.int .i64 (⟨⟨xat,xlp,xins,xthn,xsent⟩,xai,xci,xao,xco⟩:BatV).b.at_,.int .i64 (⟨⟨xat,xlp,xins,xthn,xsent⟩,xai,xci,xao,xco⟩:BatV).b.lp,(⟨⟨xat,xlp,xins,xthn,xsent⟩,xai,xci,xao,xco⟩:BatV).vi,.int .i64 (⟨⟨xat,xlp,xins,xthn,xsent⟩,xai,xci,xao,xco⟩:BatV).b.thn.n0,.int .i64 (⟨⟨xat,xlp,xins,xthn,xsent⟩,xai,xci,xao,xco⟩:BatV).b.thn.n1,.int .i64 (⟨⟨xat,xlp,xins,xthn,xsent⟩,xai,xci,xao,xco⟩:BatV).b.thn.n2,.int .i64 (⟨⟨xat,xlp,xins,xthn,xsent⟩,xai,xci,xao,xco⟩:BatV).b.thn.n3,(⟨⟨xat,xlp,xins,xthn,xsent⟩,xai,xci,xao,xco⟩:BatV).vo]) (m:=8));(case hx|hi=>rfl);(case hn=>omega);(case hm|hv=>rfl);(case hT=>decide +kernel)) | ((with_reducible apply wps_build1a (T:=45) (E:=67) S);(case hx=>rfl);(case hr=>intro w;kernel_rfl);clear S;intro bz wz S) | ((with_reducible apply wps_append1 elem_RBat bvcells bvone (by decide) S 2 (j:=0) (e:=(⟨⟨xat,xlp,xins,xthn,xsent⟩,xai,xci,xao,xco⟩ : BatV)));(case hx|hy|hi|hj|he=>rfl);(case hl=>rw [List.length_take];omega);clear S;intro az2 nz2 cz2 wz hnz2 S;simp only [set_cons_succ,set_cons_zero] at S) | ((with_reducible apply wps_slice (E:=67) S 3 (l:=n) (u:=t.length));(case hx|hi=>rfl);(case hT=>exact Tryz.underlying45);(case hE=>intro w;kernel_rfl);(case hlo|hhi=>first | exact .inr rfl | exact .inl ⟨rfl,rfl⟩);(case h1|h2=>first | omega | (simp;omega));clear S;intro az nz cz hnz S) | ((with_reducible apply wps_appends elem_RBat bvcells bvone (by decide) S 3 (j:=0));(case hx|hy|hi|hj=>rfl);(case hl=>simp;omega);clear S;intro az3 nz3 cz3 wz hnz3 S;simp only [set_cons_succ,set_cons_zero,List.take_length] at S)
             go_roundw
             case rel=>exact ⟨j + 1,t.take n ++ [(⟨⟨xat,xlp,xins,xthn,xsent⟩,xai,xci,xao,xco⟩ : BatV)] ++ t.drop n,by omega,by go_num,HT2,S.pick [3,5] rfl⟩
             case measure=>simp [intOf];omega
         · have f2 : (yat == xat) = false:=by simp [e2]
           have HNL : Hid (¬ leB ⟨yat,ylp,yins,ythn,ysent⟩ ⟨xat,xlp,xins,xthn,xsent⟩):=Lib.hid (by unfold leB;simp only;omega)
           clear e1 e2
           go_wp2_with first | ((with_reducible apply wps_loada (T:=67) (k:=8) S 0);(case hx|hi=>rfl);(case hk=>exact nle rfl);(case hT=>decide +kernel))
           (refine wp_region_w (soft:=[0,1,2,3,4,5,6,7,8,9,10,11,12,13,14,15,16,17,18,19,20,21,22,23,24,25,26,27,28,29,30,31,32,33,34,35,36,37,38,39,40,41,42]) S ?hm ?hB ?_);(case hm=>kernel_rfl);(case hB=>decide +kernel);clear S
           iterate 43
            (with_reducible apply softs_cons)
            (case hw=>
              (with_reducible apply soft_of);(case hi=>rfl)
              intro T wz S
              simp only [cons_append,nil_append] at S
              go_wp2_with first | ((with_reducible apply wps_load_own bvcells S 0 (hj:=HY.out) (q:=0) (u:=.int .i64 yat));(case hx|hi=>rfl);(case hn=>omega);(case hu=>rfl);(case hT=>decide +kernel)) | ((with_reducible apply wps_load_el S 1 (hj:=HX.out) (q:=0) (u:=.int .i64 xat));(case hx|hi=>rfl);(case hn=>omega);(case hu=>rfl);(case hT=>decide +kernel)) | ((with_reducible refine tot_done ?ht ?_);(case ht=>kernel_rfl))
              exact ⟨rfl,S⟩)
            (case hs=>exact ⟨_,rfl,by kernel_rfl⟩)
           refine softs_nil ?_
           (with_reducible apply W_done);(case hn=>rfl);(case hr=>decide +kernel)
           intro wz S
           simp only [List.append_nil] at S
           have HT2 : Hid (t.take n ++ [(⟨⟨xat,xlp,xins,xthn,xsent⟩,xai,xci,xao,xco⟩ : BatV)] ++ t.drop n = (l.take (j + 1)).foldl (fun s x=>insV x s) []):=Lib.hid (by
            rw [take_snoc HX.out,List.foldl_append,← HT.out]
            simp only [List.foldl_cons,List.foldl_nil]
            exact (insV_at HLE.out (by omega) (.inr ⟨_,HY.out,HNL.out⟩)).symm)
           skip
           replace S:=(S.freeze true 0 bvcells rfl).nil 67 BatV.cells 8
           simp only [set_cons_zero] at S
           go_wp2_with first | ((with_reducible apply wps_slice (E:=67) S 1 (l:=0) (u:=n));(case hx|hi=>rfl);(case hT=>exact Tryz.underlying45);(case hE=>intro w;kernel_rfl);(case hlo|hhi=>first | exact .inr rfl | exact .inl ⟨rfl,rfl⟩);(case h1|h2=>first | omega | (simp;omega));clear S;intro az nz cz hnz S) | ((with_reducible apply wps_appends elem_RBat bvcells bvone (by decide) S 1 (j:=0));(case hx|hy|hi|hj=>rfl);(case hl=>simp;omega);clear S;intro az1 nz1 cz1 wz hnz1 S;simp only [set_cons_succ,set_cons_zero,nil_append,List.drop_zero] at S) | ((with_reducible apply wps_loada_el S 3 (hj:=HX.out) (q:=0) (vs:=[.int .i64 (⟨⟨xat,xlp,xins,xthn,xsent⟩,xai,xci,xao,xco⟩:BatV).b.at_,.int .i64 (⟨⟨xat,xlp,xins,xthn,xsent⟩,xai,xci,xao,xco⟩:BatV).b.lp,(⟨⟨xat,xlp,xins,xthn,xsent⟩,xai,xci,xao,xco⟩:BatV).vi,.int .i64 (⟨⟨xat,xlp,xins,xthn,xsent⟩,xai,xci,xao,xco⟩:BatV).b.thn.n0,.int .i64 (⟨⟨xat,xlp,xins,xthn,xsent⟩,xai,xci,xao,xco⟩:BatV).b.thn.n1,.int .i64 (⟨⟨xat,xlp,xins,xthn,xsent⟩,xai,xci,xao,xco⟩:BatV).b.thn.n2,.int .i64 (⟨⟨xat,xlp,xins,xthn,xsent⟩,xai,xci,xao,xco⟩:BatV).b.thn.n3,(⟨⟨xat,xlp,xins,xthn,xsent⟩,xai,xci,xao,xco⟩:BatV).vo]) (m:=8));(case hx|hi=>rfl);(case hn=>omega);(case hm|hv=>rfl);(case hT=>decide +kernel)) | ((with_reducible apply wps_build1a (T:=45) (E:=67) S);(case hx=>rfl);(case hr=>intro w;kernel_rfl);clear S;intro bz wz S) | ((with_reducible apply wps_append1 elem_RBat bvcells bvone (by decide) S 2 (j:=0) (e:=(⟨⟨xat,xlp,xins,xthn,xsent⟩,xai,xci,xao,xco⟩ : BatV)));(case hx|hy|hi|hj|he=>rfl);(case hl=>rw [List.length_take];omega);clear S;intro az2 nz2 cz2 wz hnz2 S;simp only [set_cons_succ,set_cons_zero] at S) | ((with_reducible apply wps_slice (E:=67) S 3 (l:=n) (u:=t.length));(case hx|hi=>rfl);(case hT=>exact Tryz.underlying45);(case hE=>intro w;kernel_rfl);(case hlo|hhi=>first | exact .inr rfl | exact .inl ⟨rfl,rfl⟩);(case h1|h2=>first | omega | (simp;omega));clear S;intro az nz cz hnz S) | ((with_reducible apply wps_appends elem_RBat bvcells bvone (by decide) S 3 (j:=0));(case hx|hy|hi|hj=>rfl);(case hl=>simp;omega);clear S;intro az3 nz3 cz3 wz hnz3 S;simp only [set_cons_succ,set_cons_zero,List.take_length] at S)
           go_roundw
           case rel=>exact ⟨j + 1,t.take n ++ [(⟨⟨xat,xlp,xins,xthn,xsent⟩,xai,xci,xao,xco⟩ : BatV)] ++ t.drop n,by omega,by go_num,HT2,S.pick [3,5] rfl⟩
           case measure=>simp [intOf];omega
     · have HNN : Hid (n = t.length):=Lib.hid (by omega)
       have hge : decide ((n : Int) < t.length) = false:=decide_eq_false (by omega)
       have hge2 : decide (n < t.length) = false:=decide_eq_false (by omega)
       go_wp2_with first | ((with_reducible apply wps_loada (T:=67) (k:=8) S 0);(case hx|hi=>rfl);(case hk=>exact nle rfl);(case hT=>decide +kernel))
       (refine wp_region_w (soft:=[0,1,2,3,4,5,6,7,8,9,10,11,12,13,14,15,16,17,18,19,20,21,22,23,24,25,26,27,28,29,30,31,32,33,34,35,36,37,38,39,40,41,42]) S ?hm ?hB ?_);(case hm=>kernel_rfl);(case hB=>decide +kernel);clear S
       iterate 43
        (with_reducible apply softs_cons)
        (case hw=>
          (with_reducible apply soft_of);(case hi=>rfl)
          intro T wz S
          simp only [cons_append,nil_append] at S
          go_wp2_with first | ((with_reducible refine tot_done ?ht ?_);(case ht=>kernel_rfl))
          exact ⟨rfl,S⟩)
        (case hs=>exact ⟨_,rfl,by kernel_rfl⟩)
       refine softs_nil ?_
       (with_reducible apply W_done);(case hn=>rfl);(case hr=>decide +kernel)
       intro wz S
       simp only [List.append_nil] at S
       have HT2 : Hid (t.take n ++ [(⟨⟨xat,xlp,xins,xthn,xsent⟩,xai,xci,xao,xco⟩ : BatV)] ++ t.drop n = (l.take (j + 1)).foldl (fun s x=>insV x s) []):=Lib.hid (by
        rw [take_snoc HX.out,List.foldl_append,← HT.out]
        simp only [List.foldl_cons,List.foldl_nil]
        exact (insV_at HLE.out (by omega) (.inl HNN.out)).symm)
       skip
       replace S:=(S.freeze true 0 bvcells rfl).nil 67 BatV.cells 8
       simp only [set_cons_zero] at S
       go_wp2_with first | ((with_reducible apply wps_slice (E:=67) S 1 (l:=0) (u:=n));(case hx|hi=>rfl);(case hT=>exact Tryz.underlying45);(case hE=>intro w;kernel_rfl);(case hlo|hhi=>first | exact .inr rfl | exact .inl ⟨rfl,rfl⟩);(case h1|h2=>first | omega | (simp;omega));clear S;intro az nz cz hnz S) | ((with_reducible apply wps_appends elem_RBat bvcells bvone (by decide) S 1 (j:=0));(case hx|hy|hi|hj=>rfl);(case hl=>simp;omega);clear S;intro az1 nz1 cz1 wz hnz1 S;simp only [set_cons_succ,set_cons_zero,nil_append,List.drop_zero] at S) | ((with_reducible apply wps_loada_el S 3 (hj:=HX.out) (q:=0) (vs:=[.int .i64 (⟨⟨xat,xlp,xins,xthn,xsent⟩,xai,xci,xao,xco⟩:BatV).b.at_,.int .i64 (⟨⟨xat,xlp,xins,xthn,xsent⟩,xai,xci,xao,xco⟩:BatV).b.lp,(⟨⟨xat,xlp,xins,xthn,xsent⟩,xai,xci,xao,xco⟩:BatV).vi,.int .i64 (⟨⟨xat,xlp,xins,xthn,xsent⟩,xai,xci,xao,xco⟩:BatV).b.thn.n0,.int .i64 (⟨⟨xat,xlp,xins,xthn,xsent⟩,xai,xci,xao,xco⟩:BatV).b.thn.n1,.int .i64 (⟨⟨xat,xlp,xins,xthn,xsent⟩,xai,xci,xao,xco⟩:BatV).b.thn.n2,.int .i64 (⟨⟨xat,xlp,xins,xthn,xsent⟩,xai,xci,xao,xco⟩:BatV).b.thn.n3,(⟨⟨xat,xlp,xins,xthn,xsent⟩,xai,xci,xao,xco⟩:BatV).vo]) (m:=8));(case hx|hi=>rfl);(case hn=>omega);(case hm|hv=>rfl);(case hT=>decide +kernel)) | ((with_reducible apply wps_build1a (T:=45) (E:=67) S);(case hx=>rfl);(case hr=>intro w;kernel_rfl);clear S;intro bz wz S) | ((with_reducible apply wps_append1 elem_RBat bvcells bvone (by decide) S 2 (j:=0) (e:=(⟨⟨xat,xlp,xins,xthn,xsent⟩,xai,xci,xao,xco⟩ : BatV)));(case hx|hy|hi|hj|he=>rfl);(case hl=>rw [List.length_take];omega);clear S;intro az2 nz2 cz2 wz hnz2 S;simp only [set_cons_succ,set_cons_zero] at S) | ((with_reducible apply wps_slice (E:=67) S 3 (l:=n) (u:=t.length));(case hx|hi=>rfl);(case hT=>exact Tryz.underlying45);(case hE=>intro w;kernel_rfl);(case hlo|hhi=>first | exact .inr rfl | exact .inl ⟨rfl,rfl⟩);(case h1|h2=>first | omega | (simp;omega));clear S;intro az nz cz hnz S) | ((with_reducible apply wps_appends elem_RBat bvcells bvone (by decide) S 3 (j:=0));(case hx|hy|hi|hj=>rfl);(case hl=>simp;omega);clear S;intro az3 nz3 cz3 wz hnz3 S;simp only [set_cons_succ,set_cons_zero,List.take_length] at S)
       go_roundw
       case rel=>exact ⟨j + 1,t.take n ++ [(⟨⟨xat,xlp,xins,xthn,xsent⟩,xai,xci,xao,xco⟩ : BatV)] ++ t.drop n,by omega,by go_num,HT2,S.pick [3,5] rfl⟩
       case measure=>simp [intOf];omega
  · obtain rfl : j = l.length:=by omega
    rw [List.take_length] at HT
    rw [htl] at S ⊢
    have HD1 : Hid (t.map (·.b) = sortB (l.map (·.b))):=Lib.hid (by rw [HT.out,foldV_b];rfl)
    have HD2 : Hid (t.Perm l):=Lib.hid (by have:=foldV_perm l [];rwa [← HT.out,List.append_nil] at this)
    clear hlt hj htl
    go_wp2_with first | ((with_reducible apply wps_loada (T:=67) (k:=8) S 0);(case hx|hi=>rfl);(case hk=>exact nle rfl);(case hT=>decide +kernel))
    go_ret
    exact ⟨a1,c1,t,rfl,HD1.out,HD2.out,S.pick [0] rfl⟩
end Go.Proofs.YtcnfionnnpnplaaGreatDoor
