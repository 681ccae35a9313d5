import Derived.Test.YtcnfionnnpnplaaGreatDoorZ25
import Derived.Test.YtcnfionnnpnplaaGreatDoorZ17
import Derived.Deep.Cut
/- The walk of seq.New. -/
set_option maxHeartbeats 16000000
set_option maxRecDepth 100000
namespace Go.Proofs.YtcnfionnnpnplaaGreatDoor
open Go Go.RowKit Reg Mem
open List (set_cons_succ set_cons_zero setIfInBounds_toArray cons_append nil_append)
def SNewRel (X R : Nat) (vs hs : List Value) (c : Cfg) (w : World) (i : Value) (wr : World) : Prop:=
 ∃ (j : Nat) (v1 v2 : Value) (Bs : List Nat),j ≤ c.lps.length ∧ i = .int .i64 j ∧ Hid (Bs.length = j) ∧
  St (fun _=>False) w wr [Own 146 hpE 1 v2 Bs,stars (List.zipWith heapA Bs (List.replicate j [])),ModA true 128 R vs hs c,Blk false X #[v1,.pointer (some ⟨R,0,none⟩),v2,.int .i64 0,.int .i64 0] 145,Own 50 State.cells 4 v1 ((c.lps.take j).map (·.first))]
def SNewPost (R : Nat) (c : Cfg) (w : World) (e : Ending) (w' : World) : Prop:=
 ∃ X,e = .returned (.tuple #[.pointer (some ⟨X,0,none⟩),.int .i64 0]) ∧ St (fun _=>False) w w' [simA X R (newE c)]
theorem snew_calls (R : Nat) (vs hs : List Value) (c : Cfg) (w : World) (F : Nat → Prop) (h : (ModA true 128 R vs hs c).at_ w F) (hf : CfgFine c) :
 Calls Tryz.prog 47 #[.pointer (some ⟨R,0,none⟩)] w (SNewPost R c w):=by
 have S : St (fun _=>False) w w [ModA true 128 R vs hs c]:=(St.init _ w).share rfl rfl h
 clear h
 have hn : c.lps.length ≤ 32:=by have:=hf.sizes;unfold sizesOk at this;omega
 have HF:=Lib.hid hf
 clear hf
 go_enter Tryz.func47,Tryz.ntmps47
 go_wp2_with first | ((with_reducible apply wps_boxa S);(case hx=>rfl);clear S;intro bx wz S) | (go_at_call 45;refine Calls.mono (lps_calls _ _ _ _ _ _ (S.get (i:=1) rfl).choose_spec) ?_;rintro e wz ⟨rfl,hE⟩;replace S:=S.ext (Keep.of_below hE);clear hE)
 go_loopw [13] (fun i wr=>SNewRel bx R vs hs c w i wr) (fun i _=>c.lps.length - (intOf i).toNat)
 case atStart=>
  refine ⟨0,.slice none 0 0,.slice none 0 0,[],Nat.zero_le _,rfl,rfl,?_⟩
  exact (((S.nil 50 State.cells 4).starNil.nil 146 hpE 1).pick [0,1,4,3,2] rfl)
 case round=>
  clear S
  obtain ⟨j,v1,v2,Bs,hj,rfl,HBL,S⟩:=hrel
  by_cases hlt : j < c.lps.length
  · obtain ⟨p,hp⟩ : ∃ p,c.lps[j]? = some p:=⟨_,List.getElem?_eq_getElem hlt⟩
    have hlt2 : (j : Int) < c.lps.length:=by omega
    obtain ⟨ssj,HSJ⟩ : ∃ l,Hid ((c.lps.take j).map (·.first) = l):=⟨_,rfl⟩
    rw [HSJ.out] at S
    have htl : Hid (ssj.length = j):=Lib.hid (by rw [← HSJ.out,List.length_map,List.length_take];omega)
    have hcl1 : ssj.length < 4294967296:=by rw [htl.out];omega
    have hcl2 : Bs.length < 4294967296:=by rw [HBL.out];omega
    have HTS : Hid ((c.lps.take (j + 1)).map (·.first) = ssj ++ [p.first]):=Lib.hid (by rw [take_snoc hp,List.map_append,HSJ.out];rfl)
    have HZS : Hid (∀ nb,List.zipWith heapA (Bs ++ [nb]) (List.replicate (j + 1) []) = List.zipWith heapA Bs (List.replicate j []) ++ [heapA nb []]):=Lib.hid fun nb=>by
     rw [List.replicate_succ',List.zipWith_append (by rw [HBL.out];simp)];rfl
    obtain ⟨a1,c1,rfl,_⟩:=(S.ownsl sacells 4 rfl).elim fun _ h=>h.form
    obtain ⟨a2,c2,rfl,_⟩:=(S.ownsl hpElen 0 rfl).elim fun _ h=>h.form
    have Hp:=Lib.hid hp
    clear hp
    go_upto_region 7 with first | ((with_reducible apply wps_load S 3);(case hx|hi|hu=>rfl);(case hT=>decide +kernel))
    (refine wp_region_wt (soft:=[0,1,2,3,4,6,7,8]) (L:=[_,_,_]) (T:=[_,_]) S ?hm ?hB ?_);(case hm=>kernel_rfl);(case hB=>decide +kernel);clear S
    iterate 8
     (with_reducible apply softs_cons)
     (case hw=>
       (with_reducible apply soft_of);(case hi=>rfl)
       intro T wz S
       simp only [cons_append,nil_append] at S
       go_wp2_with first | (go_at_call 46;refine Calls.mono (first_at _ _ _ _ _ _ j p (S.get (i:=2) rfl).choose_spec Hp.out) ?_;rintro e wz ⟨rfl,hE⟩;replace S:=S.ext (Keep.of_below hE);clear hE) | ((with_reducible refine tot_done ?ht ?_);(case ht=>kernel_rfl))
       exact ⟨rfl,S⟩)
     (case hs=>exact ⟨_,rfl,by kernel_rfl⟩)
    refine softs_nil ?_
    (with_reducible apply W_hard2 (i:=5) (i':=9));(case hn=>rfl);(case hr=>decide +kernel)
    focus
     intro wz S
     (with_reducible apply hard_of);(case hi=>rfl)
     simp only [cons_append,nil_append] at S
     go_wp2_with first | ((with_reducible refine tot_done ?ht ?_);(case ht=>kernel_rfl)) | ((with_reducible apply wps_load S 3);(case hx|hi|hu=>rfl);(case hT=>decide +kernel))
     refine ⟨_,S,?_⟩
     clear S
     (with_reducible apply W_hard1 (i:=9));(case hn=>rfl);(case hr=>decide +kernel)
     intro wz S
     (with_reducible apply hard_of);(case hi=>rfl)
     simp only [cons_append,nil_append] at S
     go_wp2_with first | ((with_reducible apply wps_build1a (T:=64) (E:=50) S);(case hx=>rfl);(case hr=>intro w;kernel_rfl);clear S;intro bz wz S) | ((with_reducible refine tot_done ?ht ?_);(case ht=>kernel_rfl))
     refine ⟨_,S.pick [1,2,3,4,5,0] rfl,?_⟩
     clear S
     (with_reducible apply W_hard1 (i:=10));(case hn=>rfl);(case hr=>decide +kernel)
     intro wz S
     (with_reducible apply hard_of);(case hi=>rfl)
     simp only [cons_append,nil_append] at S
     go_wp2_with first | ((with_reducible apply wps_append1 elem_Sst sacells saone (by decide) S 4 (j:=5) (e:=p.first));(case hx|hy|hi|hj|he=>rfl);(case hl=>omega);clear S;intro az nz cz wz hnz S;simp only [set_cons_succ] at S) | ((with_reducible refine tot_done ?ht ?_);(case ht=>kernel_rfl))
     refine ⟨_,S,?_⟩
     clear S
     (refine W_mid (f:=1) (soft:=[11,12,13]) rfl ?hB ?_);(case hB=>decide +kernel)
     iterate 3
      (with_reducible apply softs_cons)
      (case hw=>
        (with_reducible apply soft_of);(case hi=>rfl)
        intro T wz S
        simp only [cons_append,nil_append] at S
        go_wp2_with first | ((with_reducible refine tot_done ?ht ?_);(case ht=>kernel_rfl))
        exact ⟨rfl,S⟩)
      (case hs=>exact ⟨_,rfl,by kernel_rfl⟩)
     refine softs_nil ?_
     (with_reducible apply W_hard1 (i:=14));(case hn=>rfl);(case hr=>decide +kernel)
     intro wz S
     (with_reducible apply hard_of);(case hi=>rfl)
     simp only [cons_append,nil_append] at S
     go_wp2_with first | ((with_reducible apply wps_store (u:=(.slice az nz cz)) S 3);(case hx|hy|hi|h1=>rfl);(case hn=>exact nle rfl);(case hT=>decide +kernel);clear S;intro wz S;simp only [set_cons_succ,set_cons_zero,setIfInBounds_toArray] at S) | ((with_reducible refine tot_done ?ht ?_);(case ht=>kernel_rfl))
     refine ⟨_,S,?_⟩
     clear S
     (with_reducible apply W_done);(case hn=>rfl);(case hr=>decide +kernel)
     intro wz S
     repeat (first | simp only at S | simp only [pick] at S | simp only [nth] at S | simp only [set_cons_succ] at S | simp only [set_cons_zero] at S | simp only [setIfInBounds_toArray] at S | simp only [setAll] at S | simp only [cons_append] at S | simp only [nil_append] at S | simp only [List.append_nil] at S)
    rotate_left 1
    focus
     intro wz S
     (with_reducible apply hard_of);(case hi=>rfl)
     simp only [cons_append,nil_append] at S
     go_wp2_with first | ((with_reducible apply wps_build1a (T:=64) (E:=50) S);(case hx=>rfl);(case hr=>intro w;kernel_rfl);clear S;intro bz wz S) | ((with_reducible refine tot_done ?ht ?_);(case ht=>kernel_rfl))
     refine ⟨_,S.pick [1,2,3,4,5,0] rfl,?_⟩
     clear S
     (with_reducible apply W_hard1 (i:=5));(case hn=>rfl);(case hr=>decide +kernel)
     intro wz S
     (with_reducible apply hard_of);(case hi=>rfl)
     simp only [cons_append,nil_append] at S
     go_wp2_with first | ((with_reducible refine tot_done ?ht ?_);(case ht=>kernel_rfl)) | ((with_reducible apply wps_load S 3);(case hx|hi|hu=>rfl);(case hT=>decide +kernel))
     refine ⟨_,S,?_⟩
     clear S
     (with_reducible apply W_hard1 (i:=10));(case hn=>rfl);(case hr=>decide +kernel)
     intro wz S
     (with_reducible apply hard_of);(case hi=>rfl)
     simp only [cons_append,nil_append] at S
     go_wp2_with first | ((with_reducible apply wps_append1 elem_Sst sacells saone (by decide) S 4 (j:=5) (e:=p.first));(case hx|hy|hi|hj|he=>rfl);(case hl=>omega);clear S;intro az nz cz wz hnz S;simp only [set_cons_succ] at S) | ((with_reducible refine tot_done ?ht ?_);(case ht=>kernel_rfl))
     refine ⟨_,S,?_⟩
     clear S
     (refine W_mid (f:=1) (soft:=[11,12,13]) rfl ?hB ?_);(case hB=>decide +kernel)
     iterate 3
      (with_reducible apply softs_cons)
      (case hw=>
        (with_reducible apply soft_of);(case hi=>rfl)
        intro T wz S
        simp only [cons_append,nil_append] at S
        go_wp2_with first | ((with_reducible refine tot_done ?ht ?_);(case ht=>kernel_rfl))
        exact ⟨rfl,S⟩)
      (case hs=>exact ⟨_,rfl,by kernel_rfl⟩)
     refine softs_nil ?_
     (with_reducible apply W_hard1 (i:=14));(case hn=>rfl);(case hr=>decide +kernel)
     intro wz S
     (with_reducible apply hard_of);(case hi=>rfl)
     simp only [cons_append,nil_append] at S
     go_wp2_with first | ((with_reducible apply wps_store (u:=(.slice az nz cz)) S 3);(case hx|hy|hi|h1=>rfl);(case hn=>exact nle rfl);(case hT=>decide +kernel);clear S;intro wz S;simp only [set_cons_succ,set_cons_zero,setIfInBounds_toArray] at S) | ((with_reducible refine tot_done ?ht ?_);(case ht=>kernel_rfl))
     refine ⟨_,S,?_⟩
     clear S
     (with_reducible apply W_done);(case hn=>rfl);(case hr=>decide +kernel)
     intro wz S
     repeat (first | simp only at S | simp only [pick] at S | simp only [nth] at S | simp only [set_cons_succ] at S | simp only [set_cons_zero] at S | simp only [setIfInBounds_toArray] at S | simp only [setAll] at S | simp only [cons_append] at S | simp only [nil_append] at S | simp only [List.append_nil] at S)
    all_goals
     go_upto_region 8 with first | ((with_reducible apply wps_load S 3);(case hx|hi|hu=>rfl);(case hT=>decide +kernel))
     replace S:=S.pick [4,1,2,3,0] rfl
     simp only [pick,nth] at S
     (refine wp_region_wt (soft:=[0,1,2,3]) (L:=[_,_,_]) (T:=[_,_]) S ?hm ?hB ?_);(case hm=>kernel_rfl);(case hB=>decide +kernel);clear S
     iterate 4
      (with_reducible apply softs_cons)
      (case hw=>
        (with_reducible apply soft_of);(case hi=>rfl)
        intro T wz S
        simp only [cons_append,nil_append] at S
        go_wp2_with first | ((with_reducible refine tot_done ?ht ?_);(case ht=>kernel_rfl))
        exact ⟨rfl,S⟩)
      (case hs=>exact ⟨_,rfl,by kernel_rfl⟩)
     refine softs_nil ?_
     (with_reducible apply W_hard2 (i:=4) (i':=5));(case hn=>rfl);(case hr=>decide +kernel)
     focus
      intro wz S
      (with_reducible apply hard_of);(case hi=>rfl)
      simp only [cons_append,nil_append] at S
      go_wp2_with first | ((with_reducible refine tot_done ?ht ?_);(case ht=>kernel_rfl)) | ((with_reducible apply wps_load S 3);(case hx|hi|hu=>rfl);(case hT=>decide +kernel))
      refine ⟨_,S,?_⟩
      clear S
      (with_reducible apply W_hard1 (i:=5));(case hn=>rfl);(case hr=>decide +kernel)
      intro wz S
      (with_reducible apply hard_of);(case hi=>rfl)
      simp only [cons_append,nil_append] at S
      go_wp2_with first | (go_at_call 70;refine Calls.mono (hnew_calls _) ?_;rintro e wz ⟨nb,rfl,T⟩;replace S:=S.join T rfl;clear T;simp only [cons_append,nil_append] at S) | ((with_reducible refine tot_done ?ht ?_);(case ht=>kernel_rfl))
      refine ⟨_,S.pick [1,2,3,4,5,0] rfl,?_⟩
      clear S
      (with_reducible apply W_hard1 (i:=6));(case hn=>rfl);(case hr=>decide +kernel)
      intro wz S
      (with_reducible apply hard_of);(case hi=>rfl)
      simp only [cons_append,nil_append] at S
      go_wp2_with first | ((with_reducible apply wps_build11 (T:=143) (E:=146) S);(case hx=>rfl);(case hr=>intro w;kernel_rfl);clear S;intro bz wz S) | ((with_reducible refine tot_done ?ht ?_);(case ht=>kernel_rfl))
      refine ⟨_,S.pick [1,2,3,4,5,6,0] rfl,?_⟩
      clear S
      (with_reducible apply W_hard1 (i:=7));(case hn=>rfl);(case hr=>decide +kernel)
      intro wz S
      (with_reducible apply hard_of);(case hi=>rfl)
      simp only [cons_append,nil_append] at S
      go_wp2_with first | ((with_reducible apply wps_append1 elem_Hp hpElen hpEone (by decide) S 4 (j:=6) (e:=nb));(case hx|hy|hi|hj|he=>rfl);(case hl=>omega);clear S;intro azb nzb czb wz hnzb S;simp only [set_cons_succ] at S) | ((with_reducible refine tot_done ?ht ?_);(case ht=>kernel_rfl))
      refine ⟨_,S,?_⟩
      clear S
      (refine W_mid (f:=1) (soft:=[8,9]) rfl ?hB ?_);(case hB=>decide +kernel)
      iterate 2
       (with_reducible apply softs_cons)
       (case hw=>
         (with_reducible apply soft_of);(case hi=>rfl)
         intro T wz S
         simp only [cons_append,nil_append] at S
         go_wp2_with first | ((with_reducible refine tot_done ?ht ?_);(case ht=>kernel_rfl))
         exact ⟨rfl,S⟩)
       (case hs=>exact ⟨_,rfl,by kernel_rfl⟩)
      refine softs_nil ?_
      (with_reducible apply W_hard1 (i:=10));(case hn=>rfl);(case hr=>decide +kernel)
      intro wz S
      (with_reducible apply hard_of);(case hi=>rfl)
      simp only [cons_append,nil_append] at S
      go_wp2_with first | ((with_reducible apply wps_store (u:=(.slice azb nzb czb)) S 3);(case hx|hy|hi|h1=>rfl);(case hn=>exact nle rfl);(case hT=>decide +kernel);clear S;intro wz S;simp only [set_cons_succ,set_cons_zero,setIfInBounds_toArray] at S) | ((with_reducible refine tot_done ?ht ?_);(case ht=>kernel_rfl))
      refine ⟨_,S,?_⟩
      clear S
      (with_reducible apply W_done);(case hn=>rfl);(case hr=>decide +kernel)
      intro wz S
      repeat (first | simp only at S | simp only [pick] at S | simp only [nth] at S | simp only [set_cons_succ] at S | simp only [set_cons_zero] at S | simp only [setIfInBounds_toArray] at S | simp only [setAll] at S | simp only [cons_append] at S | simp only [nil_append] at S | simp only [List.append_nil] at S)
     rotate_left 1
     focus
      intro wz S
      (with_reducible apply hard_of);(case hi=>rfl)
      simp only [cons_append,nil_append] at S
      go_wp2_with first | (go_at_call 70;refine Calls.mono (hnew_calls _) ?_;rintro e wz ⟨nb,rfl,T⟩;replace S:=S.join T rfl;clear T;simp only [cons_append,nil_append] at S) | ((with_reducible refine tot_done ?ht ?_);(case ht=>kernel_rfl))
      refine ⟨_,S.pick [1,2,3,4,5,0] rfl,?_⟩
      clear S
      (with_reducible apply W_hard2 (i:=4) (i':=6));(case hn=>rfl);(case hr=>decide +kernel)
      focus
       intro wz S
       (with_reducible apply hard_of);(case hi=>rfl)
       simp only [cons_append,nil_append] at S
       go_wp2_with first | ((with_reducible refine tot_done ?ht ?_);(case ht=>kernel_rfl)) | ((with_reducible apply wps_load S 3);(case hx|hi|hu=>rfl);(case hT=>decide +kernel))
       refine ⟨_,S,?_⟩
       clear S
       (with_reducible apply W_hard1 (i:=6));(case hn=>rfl);(case hr=>decide +kernel)
       intro wz S
       (with_reducible apply hard_of);(case hi=>rfl)
       simp only [cons_append,nil_append] at S
       go_wp2_with first | ((with_reducible apply wps_build11 (T:=143) (E:=146) S);(case hx=>rfl);(case hr=>intro w;kernel_rfl);clear S;intro bz wz S) | ((with_reducible refine tot_done ?ht ?_);(case ht=>kernel_rfl))
       refine ⟨_,S.pick [1,2,3,4,5,6,0] rfl,?_⟩
       clear S
       (with_reducible apply W_hard1 (i:=7));(case hn=>rfl);(case hr=>decide +kernel)
       intro wz S
       (with_reducible apply hard_of);(case hi=>rfl)
       simp only [cons_append,nil_append] at S
       go_wp2_with first | ((with_reducible apply wps_append1 elem_Hp hpElen hpEone (by decide) S 4 (j:=6) (e:=nb));(case hx|hy|hi|hj|he=>rfl);(case hl=>omega);clear S;intro azb nzb czb wz hnzb S;simp only [set_cons_succ] at S) | ((with_reducible refine tot_done ?ht ?_);(case ht=>kernel_rfl))
       refine ⟨_,S,?_⟩
       clear S
       (refine W_mid (f:=1) (soft:=[8,9]) rfl ?hB ?_);(case hB=>decide +kernel)
       iterate 2
        (with_reducible apply softs_cons)
        (case hw=>
          (with_reducible apply soft_of);(case hi=>rfl)
          intro T wz S
          simp only [cons_append,nil_append] at S
          go_wp2_with first | ((with_reducible refine tot_done ?ht ?_);(case ht=>kernel_rfl))
          exact ⟨rfl,S⟩)
        (case hs=>exact ⟨_,rfl,by kernel_rfl⟩)
       refine softs_nil ?_
       (with_reducible apply W_hard1 (i:=10));(case hn=>rfl);(case hr=>decide +kernel)
       intro wz S
       (with_reducible apply hard_of);(case hi=>rfl)
       simp only [cons_append,nil_append] at S
       go_wp2_with first | ((with_reducible apply wps_store (u:=(.slice azb nzb czb)) S 3);(case hx|hy|hi|h1=>rfl);(case hn=>exact nle rfl);(case hT=>decide +kernel);clear S;intro wz S;simp only [set_cons_succ,set_cons_zero,setIfInBounds_toArray] at S) | ((with_reducible refine tot_done ?ht ?_);(case ht=>kernel_rfl))
       refine ⟨_,S,?_⟩
       clear S
       (with_reducible apply W_done);(case hn=>rfl);(case hr=>decide +kernel)
       intro wz S
       repeat (first | simp only at S | simp only [pick] at S | simp only [nth] at S | simp only [set_cons_succ] at S | simp only [set_cons_zero] at S | simp only [setIfInBounds_toArray] at S | simp only [setAll] at S | simp only [cons_append] at S | simp only [nil_append] at S | simp only [List.append_nil] at S)
      rotate_left 1
      focus
       intro wz S
       (with_reducible apply hard_of);(case hi=>rfl)
       simp only [cons_append,nil_append] at S
       go_wp2_with first | ((with_reducible apply wps_build11 (T:=143) (E:=146) S);(case hx=>rfl);(case hr=>intro w;kernel_rfl);clear S;intro bz wz S) | ((with_reducible refine tot_done ?ht ?_);(case ht=>kernel_rfl))
       refine ⟨_,S.pick [1,2,3,4,5,6,0] rfl,?_⟩
       clear S
       (with_reducible apply W_hard1 (i:=4));(case hn=>rfl);(case hr=>decide +kernel)
       intro wz S
       (with_reducible apply hard_of);(case hi=>rfl)
       simp only [cons_append,nil_append] at S
       go_wp2_with first | ((with_reducible refine tot_done ?ht ?_);(case ht=>kernel_rfl)) | ((with_reducible apply wps_load S 3);(case hx|hi|hu=>rfl);(case hT=>decide +kernel))
       refine ⟨_,S,?_⟩
       clear S
       (with_reducible apply W_hard1 (i:=7));(case hn=>rfl);(case hr=>decide +kernel)
       intro wz S
       (with_reducible apply hard_of);(case hi=>rfl)
       simp only [cons_append,nil_append] at S
       go_wp2_with first | ((with_reducible apply wps_append1 elem_Hp hpElen hpEone (by decide) S 4 (j:=6) (e:=nb));(case hx|hy|hi|hj|he=>rfl);(case hl=>omega);clear S;intro azb nzb czb wz hnzb S;simp only [set_cons_succ] at S) | ((with_reducible refine tot_done ?ht ?_);(case ht=>kernel_rfl))
       refine ⟨_,S,?_⟩
       clear S
       (refine W_mid (f:=1) (soft:=[8,9]) rfl ?hB ?_);(case hB=>decide +kernel)
       iterate 2
        (with_reducible apply softs_cons)
        (case hw=>
          (with_reducible apply soft_of);(case hi=>rfl)
          intro T wz S
          simp only [cons_append,nil_append] at S
          go_wp2_with first | ((with_reducible refine tot_done ?ht ?_);(case ht=>kernel_rfl))
          exact ⟨rfl,S⟩)
        (case hs=>exact ⟨_,rfl,by kernel_rfl⟩)
       refine softs_nil ?_
       (with_reducible apply W_hard1 (i:=10));(case hn=>rfl);(case hr=>decide +kernel)
       intro wz S
       (with_reducible apply hard_of);(case hi=>rfl)
       simp only [cons_append,nil_append] at S
       go_wp2_with first | ((with_reducible apply wps_store (u:=(.slice azb nzb czb)) S 3);(case hx|hy|hi|h1=>rfl);(case hn=>exact nle rfl);(case hT=>decide +kernel);clear S;intro wz S;simp only [set_cons_succ,set_cons_zero,setIfInBounds_toArray] at S) | ((with_reducible refine tot_done ?ht ?_);(case ht=>kernel_rfl))
       refine ⟨_,S,?_⟩
       clear S
       (with_reducible apply W_done);(case hn=>rfl);(case hr=>decide +kernel)
       intro wz S
       repeat (first | simp only at S | simp only [pick] at S | simp only [nth] at S | simp only [set_cons_succ] at S | simp only [set_cons_zero] at S | simp only [setIfInBounds_toArray] at S | simp only [setAll] at S | simp only [cons_append] at S | simp only [nil_append] at S | simp only [List.append_nil] at S)
     all_goals
      go_wp2_with first | ((with_reducible apply wps_load S 3);(case hx|hi|hu=>rfl);(case hT=>decide +kernel))
      go_roundw
      case rel=>
       refine ⟨j + 1,.slice az nz cz,.slice azb nzb czb,Bs ++ [nb],by omega,by go_num,Lib.hid (by rw [List.length_append,HBL.out];rfl),?_⟩
       rw [HTS.out,HZS.out]
       have S2:=S.pick [5,1,4,2,3,0] rfl
       simp only [pick,nth] at S2
       exact (S2.starSnoc rfl).pick [1,0,2,3,4] rfl
      case measure=>simp [intOf];omega
  · obtain rfl : j = c.lps.length:=by omega
    rw [List.take_length] at S
    replace S:=S.pick [1,0,4,3,2] rfl
    simp only [pick,nth] at S
    replace S:=sim_close (s:=emptyE c) (by show Bs.length = (List.replicate _ _).length;rw [HBL.out,List.length_replicate]) S
    have hst:=HF.out.starts
    have hsl : c.starts.length ≤ 65536:=by omega
    have HB0 : Hid (SimB (emptyE c).ws (emptyE c).many 0):=Lib.hid ⟨by simp [emptyE],by simp [emptyE],fun h hh=>by
     obtain ⟨_,rfl⟩:=List.mem_replicate.1 hh;simp⟩
    have HDS : Hid (∀ x ∈ sortE (startsFrom 0 c.starts),0 ≤ x.dst ∧ x.dst < (emptyE c).ws.length):=Lib.hid fun x hx=>by
     have:=starts_ev HF.out c.starts 0 (fun _ h=>h) x ((sortE_perm _).mem_iff.1 hx)
     show _ ∧ x.dst < ((List.replicate _ _).length : Nat)
     rw [List.length_replicate]
     exact ⟨this.1,this.2.1⟩
    have hpl : 0 + (sortE (startsFrom 0 c.starts)).length ≤ 1073741824:=by rw [sortE_len,startsFrom_len];omega
    go_wp2_with first | (go_at_call 38;refine Calls.mono (events_calls _ _ _ _ _ _ (S.get (i:=1) rfl).choose_spec hsl) ?_;rintro e wz ⟨ae,ce,rfl,T⟩;replace S:=S.join T rfl;clear T;simp only [cons_append,nil_append] at S) | (go_at_call 71;obtain ⟨Fz,hF,hBk⟩:=S.lendR 1 0 rfl rfl (by decide) rfl rfl (fun _ h=>own_sl (sh:=true) ecells h);refine Calls.mono (put_calls bx R (emptyE c) _ _ 0 _ _ hF HB0.out hpl HDS.out) ?_;rintro e wz ⟨rfl,T⟩;replace S:=hBk _ _ rfl T;clear hBk hF T;simp only [set_cons_succ,set_cons_zero] at S)
    (try simp only [Exit.inBlock,Exit.then]);refine bodyPost_ret (results2 rfl (res_tmp rfl) (res_tmp rfl)) rfl ?_
    exact ⟨bx,rfl,S.pick [1] rfl⟩
end Go.Proofs.YtcnfionnnpnplaaGreatDoor
