import Derived.Test.YtcnfionnnpnplaaGreatDoorZ19
import Derived.Test.YtcnfionnnpnplaaGreatDoorZ17
import Derived.Test.YtcnfionnnpnplaaGreatDoorZ12
import Derived.Test.YtcnfionnnpnplaaGreatDoorZ14
/- The walks of a heap's Get, First, Pull, Pop. -/
set_option maxHeartbeats 16000000
set_option maxRecDepth 100000
namespace Go.Proofs.YtcnfionnnpnplaaGreatDoor
open Go.RowKit Reg Mem
open List (set_cons_succ set_cons_zero setIfInBounds_toArray cons_append nil_append)
theorem heapR_st {B : Nat} {s : List Row} {w : World} {F : Nat → Prop} (h : (heapA B s).at_ w F) :
 ∃ M v rows,Ordered rows ∧ rows.Perm s ∧ HSorted s ∧ St (fun _=>False) w w [MapA true Tryz.prog 54 Key.cells M (posMap rows),Sl true Row.cells 11 v rows,Blk true B #[v,.map (some M)] 183]:=by
 obtain ⟨⟨M,v,rows⟩,F1,F2,⟨⟨h1,h2,h3⟩,_⟩,h4,_,_⟩:=h
 exact ⟨M,v,rows,h1,h2,h3,rawR_st h4⟩
def foundVal (s : List Row) (k : Key) : Value:=
 match s.find? (fun x=>x.key = k) with
 | some r=>.tuple #[.agg #[.int .i64 r.v.key.at_,.int .i64 r.v.key.src,.int .i64 r.v.key.sent,.int .i64 r.v.key.no,.int .i64 r.v.dst,.int .i64 r.v.kind,.int .i64 r.v.data],.int .i64 0]
 | none=>.tuple #[.agg #[.int .i64 0,.int .i64 0,.int .i64 0,.int .i64 0,.int .i64 0,.int .i64 0,.int .i64 0],.int .i64 14]
def firstVal : List Row → Value
 | []=>.tuple #[.agg #[.int .i64 0,.int .i64 0,.int .i64 0,.int .i64 0],.agg #[.int .i64 0,.int .i64 0,.int .i64 0,.int .i64 0,.int .i64 0,.int .i64 0,.int .i64 0],.int .i64 14]
 | r :: _=>.tuple #[.agg #[.int .i64 r.key.at_,.int .i64 r.key.src,.int .i64 r.key.sent,.int .i64 r.key.no],.agg #[.int .i64 r.v.key.at_,.int .i64 r.v.key.src,.int .i64 r.v.key.sent,.int .i64 r.v.key.no,.int .i64 r.v.dst,.int .i64 r.v.kind,.int .i64 r.v.data],.int .i64 0]
theorem hfirst_calls (B : Nat) (s : List Row) (w : World) (F : Nat → Prop) (h : (heapA B s).at_ w F) :
 Calls Tryz.prog 103 #[.pointer (some ⟨B,0,none⟩)] w fun e w'=>e = .returned (firstVal s) ∧ Below w.heap.size w w':=by
 obtain ⟨M,v,rows,ho,hp,hs,S⟩:=heapR_st h
 obtain ⟨ad,cp,rfl,_⟩:=(S.sl 1 rfl).elim fun _ h=>h.form
 clear h
 cases rows with
 | nil=>
   obtain rfl : s = []:=hp.symm.eq_nil
   go_enter Tryz.func103,Tryz.ntmps103
   go_wp2_with first | ((with_reducible apply wps_alloca (E:=54) S);(case hz=>exact Tryz.zeroValue54);clear S;intro bz wz S) | ((with_reducible apply wps_alloca (E:=56) S);(case hz=>exact Tryz.zeroValue56);clear S;intro bz wz S) | ((with_reducible apply wps_load S 4);(case hx|hi|hu=>rfl);(case hT=>decide +kernel))
   replace S:=S.pick [2,3,4,1,0] rfl
   simp only [pick,nth] at S
   (refine wp_region_wt (soft:=[]) (L:=[_,_,_]) (T:=[_,_]) S ?hm ?hB ?_);(case hm=>kernel_rfl);(case hB=>decide +kernel);clear S
   iterate 0
    (with_reducible apply softs_cons)
    (case hw=>
      (with_reducible apply soft_of);(case hi=>rfl)
      intro T wz S
      simp only [cons_append,nil_append] at S
      go_wp2_with first | ((with_reducible apply wps_loada (T:=56) (k:=7) S 5);(case hx|hi=>rfl);(case hk=>exact nle rfl);(case hT=>decide +kernel))
      exact ⟨rfl,S⟩)
    (case hs=>exact ⟨_,rfl,by kernel_rfl⟩)
   refine softs_nil ?_
   (with_reducible apply W_hard2 (i:=0) (i':=1));(case hn=>rfl);(case hr=>decide +kernel)
   focus
    intro wz S
    (with_reducible apply hard_of);(case hi=>rfl)
    simp only [cons_append,nil_append] at S
    go_wp2_with first | ((with_reducible refine tot_done ?ht ?_);(case ht=>kernel_rfl)) | ((with_reducible apply wps_loada (T:=54) (k:=4) S 3);(case hx|hi=>rfl);(case hk=>exact nle rfl);(case hT=>decide +kernel))
    refine ⟨_,S,?_⟩
    clear S
    (with_reducible apply W_hard2 (i:=1) (i':=2));(case hn=>rfl);(case hr=>decide +kernel)
    focus
     intro wz S
     (with_reducible apply hard_of);(case hi=>rfl)
     simp only [cons_append,nil_append] at S
     go_wp2_with first | ((with_reducible refine tot_done ?ht ?_);(case ht=>kernel_rfl)) | ((with_reducible apply wps_loada (T:=56) (k:=7) S 4);(case hx|hi=>rfl);(case hk=>exact nle rfl);(case hT=>decide +kernel))
     refine ⟨_,S,?_⟩
     clear S
     (with_reducible apply W_hard1 (i:=2));(case hn=>rfl);(case hr=>decide +kernel)
     intro wz S
     (with_reducible apply hard_of);(case hi=>rfl)
     simp only [cons_append,nil_append] at S
     go_wp2_with first | ((with_reducible apply wps_storea (T:=54) S 3 (vs:=[.int .i64 0,.int .i64 0,.int .i64 0,.int .i64 0]) (m:=4));(case hx|hy|hi|hm|h1=>rfl);(case hn=>exact nle rfl);(case hT=>decide +kernel);clear S;intro wz S;simp only [set_cons_zero,set_cons_succ,setAll,setIfInBounds_toArray] at S) | ((with_reducible refine tot_done ?ht ?_);(case ht=>kernel_rfl))
     refine ⟨_,S,?_⟩
     clear S
     (with_reducible apply W_hard1 (i:=3));(case hn=>rfl);(case hr=>decide +kernel)
     intro wz S
     (with_reducible apply hard_of);(case hi=>rfl)
     simp only [cons_append,nil_append] at S
     go_wp2_with first | ((with_reducible apply wps_storea (T:=56) S 4 (vs:=[.int .i64 0,.int .i64 0,.int .i64 0,.int .i64 0,.int .i64 0,.int .i64 0,.int .i64 0]) (m:=7));(case hx|hy|hi|hm|h1=>rfl);(case hn=>exact nle rfl);(case hT=>decide +kernel);clear S;intro wz S;simp only [set_cons_zero,set_cons_succ,setAll,setIfInBounds_toArray] at S) | ((with_reducible refine tot_done ?ht ?_);(case ht=>kernel_rfl))
     refine ⟨_,S,?_⟩
     clear S
     (refine W_mid (f:=0) (soft:=[4]) rfl ?hB ?_);(case hB=>decide +kernel)
     iterate 1
      (with_reducible apply softs_cons)
      (case hw=>
        (with_reducible apply soft_of);(case hi=>rfl)
        intro T wz S
        simp only [cons_append,nil_append] at S
        go_wp2_with first | ((with_reducible refine tot_done ?ht ?_);(case ht=>kernel_rfl))
        exact ⟨rfl,S⟩)
      (case hs=>exact ⟨_,rfl,by kernel_rfl⟩)
     refine softs_nil ?_
     (with_reducible apply W_done);(case hn=>rfl);(case hr=>decide +kernel)
     intro wz S
     repeat (first | simp only at S | simp only [pick] at S | simp only [nth] at S | simp only [set_cons_succ] at S | simp only [set_cons_zero] at S | simp only [setIfInBounds_toArray] at S | simp only [setAll] at S | simp only [cons_append] at S | simp only [nil_append] at S | simp only [List.append_nil] at S)
    rotate_left 1
    focus
     intro wz S
     (with_reducible apply hard_of);(case hi=>rfl)
     simp only [cons_append,nil_append] at S
     go_wp2_with first | ((with_reducible apply wps_storea (T:=54) S 3 (vs:=[.int .i64 0,.int .i64 0,.int .i64 0,.int .i64 0]) (m:=4));(case hx|hy|hi|hm|h1=>rfl);(case hn=>exact nle rfl);(case hT=>decide +kernel);clear S;intro wz S;simp only [set_cons_zero,set_cons_succ,setAll,setIfInBounds_toArray] at S) | ((with_reducible refine tot_done ?ht ?_);(case ht=>kernel_rfl))
     refine ⟨_,S,?_⟩
     clear S
     (with_reducible apply W_hard1 (i:=1));(case hn=>rfl);(case hr=>decide +kernel)
     intro wz S
     (with_reducible apply hard_of);(case hi=>rfl)
     simp only [cons_append,nil_append] at S
     go_wp2_with first | ((with_reducible refine tot_done ?ht ?_);(case ht=>kernel_rfl)) | ((with_reducible apply wps_loada (T:=56) (k:=7) S 4);(case hx|hi=>rfl);(case hk=>exact nle rfl);(case hT=>decide +kernel))
     refine ⟨_,S,?_⟩
     clear S
     (with_reducible apply W_hard1 (i:=3));(case hn=>rfl);(case hr=>decide +kernel)
     intro wz S
     (with_reducible apply hard_of);(case hi=>rfl)
     simp only [cons_append,nil_append] at S
     go_wp2_with first | ((with_reducible apply wps_storea (T:=56) S 4 (vs:=[.int .i64 0,.int .i64 0,.int .i64 0,.int .i64 0,.int .i64 0,.int .i64 0,.int .i64 0]) (m:=7));(case hx|hy|hi|hm|h1=>rfl);(case hn=>exact nle rfl);(case hT=>decide +kernel);clear S;intro wz S;simp only [set_cons_zero,set_cons_succ,setAll,setIfInBounds_toArray] at S) | ((with_reducible refine tot_done ?ht ?_);(case ht=>kernel_rfl))
     refine ⟨_,S,?_⟩
     clear S
     (refine W_mid (f:=0) (soft:=[4]) rfl ?hB ?_);(case hB=>decide +kernel)
     iterate 1
      (with_reducible apply softs_cons)
      (case hw=>
        (with_reducible apply soft_of);(case hi=>rfl)
        intro T wz S
        simp only [cons_append,nil_append] at S
        go_wp2_with first | ((with_reducible refine tot_done ?ht ?_);(case ht=>kernel_rfl))
        exact ⟨rfl,S⟩)
      (case hs=>exact ⟨_,rfl,by kernel_rfl⟩)
     refine softs_nil ?_
     (with_reducible apply W_done);(case hn=>rfl);(case hr=>decide +kernel)
     intro wz S
     repeat (first | simp only at S | simp only [pick] at S | simp only [nth] at S | simp only [set_cons_succ] at S | simp only [set_cons_zero] at S | simp only [setIfInBounds_toArray] at S | simp only [setAll] at S | simp only [cons_append] at S | simp only [nil_append] at S | simp only [List.append_nil] at S)
   rotate_left 2
   focus
    intro wz S
    (with_reducible apply hard_of);(case hi=>rfl)
    simp only [cons_append,nil_append] at S
    go_wp2_with first | ((with_reducible refine tot_done ?ht ?_);(case ht=>kernel_rfl)) | ((with_reducible apply wps_loada (T:=56) (k:=7) S 4);(case hx|hi=>rfl);(case hk=>exact nle rfl);(case hT=>decide +kernel))
    refine ⟨_,S,?_⟩
    clear S
    (with_reducible apply W_hard1 (i:=0));(case hn=>rfl);(case hr=>decide +kernel)
    intro wz S
    (with_reducible apply hard_of);(case hi=>rfl)
    simp only [cons_append,nil_append] at S
    go_wp2_with first | ((with_reducible refine tot_done ?ht ?_);(case ht=>kernel_rfl)) | ((with_reducible apply wps_loada (T:=54) (k:=4) S 3);(case hx|hi=>rfl);(case hk=>exact nle rfl);(case hT=>decide +kernel))
    refine ⟨_,S,?_⟩
    clear S
    (with_reducible apply W_hard1 (i:=2));(case hn=>rfl);(case hr=>decide +kernel)
    intro wz S
    (with_reducible apply hard_of);(case hi=>rfl)
    simp only [cons_append,nil_append] at S
    go_wp2_with first | ((with_reducible apply wps_storea (T:=54) S 3 (vs:=[.int .i64 0,.int .i64 0,.int .i64 0,.int .i64 0]) (m:=4));(case hx|hy|hi|hm|h1=>rfl);(case hn=>exact nle rfl);(case hT=>decide +kernel);clear S;intro wz S;simp only [set_cons_zero,set_cons_succ,setAll,setIfInBounds_toArray] at S) | ((with_reducible refine tot_done ?ht ?_);(case ht=>kernel_rfl))
    refine ⟨_,S,?_⟩
    clear S
    (with_reducible apply W_hard1 (i:=3));(case hn=>rfl);(case hr=>decide +kernel)
    intro wz S
    (with_reducible apply hard_of);(case hi=>rfl)
    simp only [cons_append,nil_append] at S
    go_wp2_with first | ((with_reducible apply wps_storea (T:=56) S 4 (vs:=[.int .i64 0,.int .i64 0,.int .i64 0,.int .i64 0,.int .i64 0,.int .i64 0,.int .i64 0]) (m:=7));(case hx|hy|hi|hm|h1=>rfl);(case hn=>exact nle rfl);(case hT=>decide +kernel);clear S;intro wz S;simp only [set_cons_zero,set_cons_succ,setAll,setIfInBounds_toArray] at S) | ((with_reducible refine tot_done ?ht ?_);(case ht=>kernel_rfl))
    refine ⟨_,S,?_⟩
    clear S
    (refine W_mid (f:=0) (soft:=[4]) rfl ?hB ?_);(case hB=>decide +kernel)
    iterate 1
     (with_reducible apply softs_cons)
     (case hw=>
       (with_reducible apply soft_of);(case hi=>rfl)
       intro T wz S
       simp only [cons_append,nil_append] at S
       go_wp2_with first | ((with_reducible refine tot_done ?ht ?_);(case ht=>kernel_rfl))
       exact ⟨rfl,S⟩)
     (case hs=>exact ⟨_,rfl,by kernel_rfl⟩)
    refine softs_nil ?_
    (with_reducible apply W_done);(case hn=>rfl);(case hr=>decide +kernel)
    intro wz S
    repeat (first | simp only at S | simp only [pick] at S | simp only [nth] at S | simp only [set_cons_succ] at S | simp only [set_cons_zero] at S | simp only [setIfInBounds_toArray] at S | simp only [setAll] at S | simp only [cons_append] at S | simp only [nil_append] at S | simp only [List.append_nil] at S)
   all_goals
    go_wp2_with first | ((with_reducible apply wps_loada (T:=56) (k:=7) S 5);(case hx|hi=>rfl);(case hk=>exact nle rfl);(case hT=>decide +kernel))
    (try simp only [Exit.inBlock,Exit.then]);refine bodyPost_ret (results3 rfl (S.resA 3 rfl rfl (by kernel_rfl)) (S.resA 4 rfl rfl (by kernel_rfl)) (res_tmp rfl)) rfl ?_
    exact ⟨rfl,S.below⟩
 | cons r rows=>
   have hh:=head_of ho hp hs (m:=r) rfl
   cases s with
   | nil=>cases hh
   | cons r' s'=>
     cases hh
     obtain ⟨R,o,rfl⟩ : ∃ R o,ad = some ⟨R,o,none⟩:=(S.sl 1 rfl).elim fun F h=>h.head (by simp)
     have Hr:=Lib.hid (show (r :: rows)[0]? = some r from rfl)
     clear ho hp hs
     have hl : (0 : Int) < (r :: rows).length:=by simp
     have hl2 : (((r :: rows).length : Int) == 0) = false:=by simp;omega
     generalize hn : (r :: rows).length = n at hl hl2 S
     go_enter Tryz.func103,Tryz.ntmps103
     go_wp2_with first | ((with_reducible apply wps_alloca (E:=54) S);(case hz=>exact Tryz.zeroValue54);clear S;intro bz wz S) | ((with_reducible apply wps_alloca (E:=56) S);(case hz=>exact Tryz.zeroValue56);clear S;intro bz wz S) | ((with_reducible apply wps_load S 4);(case hx|hi|hu=>rfl);(case hT=>decide +kernel))
     replace S:=S.pick [2,3,4,1,0] rfl
     simp only [pick,nth] at S
     (refine wp_region_wt (soft:=[0,1,2,3,4,5,6,7,8,9,10,11,12,13]) (L:=[_,_,_]) (T:=[_,_]) S ?hm ?hB ?_);(case hm=>kernel_rfl);(case hB=>decide +kernel);clear S
     iterate 14
      (with_reducible apply softs_cons)
      (case hw=>
        (with_reducible apply soft_of);(case hi=>rfl)
        intro T wz S
        simp only [cons_append,nil_append] at S
        go_wp2_with first | ((with_reducible apply wps_loada_el S 1 (hj:=Hr.out) (q:=0) (vs:=[.int .i64 r.key.at_,.int .i64 r.key.src,.int .i64 r.key.sent,.int .i64 r.key.no]) (m:=4));(case hx|hi=>rfl);(case hn=>omega);(case hm|hv=>rfl);(case hT=>decide +kernel)) | ((with_reducible apply wps_loada_el S 1 (hj:=Hr.out) (q:=4) (vs:=[.int .i64 r.v.key.at_,.int .i64 r.v.key.src,.int .i64 r.v.key.sent,.int .i64 r.v.key.no,.int .i64 r.v.dst,.int .i64 r.v.kind,.int .i64 r.v.data]) (m:=7));(case hx|hi=>rfl);(case hn=>omega);(case hm|hv=>rfl);(case hT=>decide +kernel)) | ((with_reducible refine tot_done ?ht ?_);(case ht=>kernel_rfl)) | ((with_reducible apply wps_load S 2);(case hx|hi|hu=>rfl);(case hT=>decide +kernel))
        exact ⟨rfl,S⟩)
      (case hs=>exact ⟨_,rfl,by kernel_rfl⟩)
     refine softs_nil ?_
     (with_reducible apply W_hard1 (i:=14));(case hn=>rfl);(case hr=>decide +kernel)
     intro wz S
     (with_reducible apply hard_of);(case hi=>rfl)
     simp only [cons_append,nil_append] at S
     go_wp2_with first | ((with_reducible apply wps_storea (T:=54) S 3 (vs:=[.int .i64 r.key.at_,.int .i64 r.key.src,.int .i64 r.key.sent,.int .i64 r.key.no]) (m:=4));(case hx|hy|hi|hm|h1=>rfl);(case hn=>exact nle rfl);(case hT=>decide +kernel);clear S;intro wz S;simp only [set_cons_zero,set_cons_succ,setAll,setIfInBounds_toArray] at S) | ((with_reducible refine tot_done ?ht ?_);(case ht=>kernel_rfl))
     refine ⟨_,S,?_⟩
     clear S
     (with_reducible apply W_hard1 (i:=15));(case hn=>rfl);(case hr=>decide +kernel)
     intro wz S
     (with_reducible apply hard_of);(case hi=>rfl)
     simp only [cons_append,nil_append] at S
     go_wp2_with first | ((with_reducible apply wps_storea (T:=56) S 4 (vs:=[.int .i64 r.v.key.at_,.int .i64 r.v.key.src,.int .i64 r.v.key.sent,.int .i64 r.v.key.no,.int .i64 r.v.dst,.int .i64 r.v.kind,.int .i64 r.v.data]) (m:=7));(case hx|hy|hi|hm|h1=>rfl);(case hn=>exact nle rfl);(case hT=>decide +kernel);clear S;intro wz S;simp only [set_cons_zero,set_cons_succ,setAll,setIfInBounds_toArray] at S) | ((with_reducible refine tot_done ?ht ?_);(case ht=>kernel_rfl))
     refine ⟨_,S,?_⟩
     clear S
     (refine W_mid (f:=0) (soft:=[16]) rfl ?hB ?_);(case hB=>decide +kernel)
     iterate 1
      (with_reducible apply softs_cons)
      (case hw=>
        (with_reducible apply soft_of);(case hi=>rfl)
        intro T wz S
        simp only [cons_append,nil_append] at S
        go_wp2_with first | ((with_reducible refine tot_done ?ht ?_);(case ht=>kernel_rfl))
        exact ⟨rfl,S⟩)
      (case hs=>exact ⟨_,rfl,by kernel_rfl⟩)
     refine softs_nil ?_
     (with_reducible apply W_done);(case hn=>rfl);(case hr=>decide +kernel)
     intro wz S
     repeat (first | simp only at S | simp only [pick] at S | simp only [nth] at S | simp only [set_cons_succ] at S | simp only [set_cons_zero] at S | simp only [setIfInBounds_toArray] at S | simp only [setAll] at S | simp only [cons_append] at S | simp only [nil_append] at S | simp only [List.append_nil] at S)
     all_goals
      go_wp2_with first | ((with_reducible apply wps_loada (T:=56) (k:=7) S 5);(case hx|hi=>rfl);(case hk=>exact nle rfl);(case hT=>decide +kernel))
      (try simp only [Exit.inBlock,Exit.then]);refine bodyPost_ret (results3 rfl (S.resA 3 rfl rfl (by kernel_rfl)) (S.resA 4 rfl rfl (by kernel_rfl)) (res_tmp rfl)) rfl ?_
      exact ⟨rfl,S.below⟩
end Go.Proofs.YtcnfionnnpnplaaGreatDoor
/- The walks of a heap's Pull and Pop. -/
namespace Go.Proofs.YtcnfionnnpnplaaGreatDoor
open Go.RowKit Reg Mem
open List (set_cons_succ set_cons_zero setIfInBounds_toArray cons_append nil_append)
theorem key_nceqs (k l : Key) : (!ceqs k.cells l.cells) = !decide (k = l):=by
 obtain ⟨a1,a2,a3,a4⟩:=k;obtain ⟨b1,b2,b3,b4⟩:=l
 have : ceqs (Key.cells ⟨a1,a2,a3,a4⟩) (Key.cells ⟨b1,b2,b3,b4⟩) = decide ((⟨a1,a2,a3,a4⟩ : Key) = ⟨b1,b2,b3,b4⟩):=by
  simp only [Key.cells,ceqs,ceq,Bool.and_true,Key.mk.injEq]
  rw [Bool.eq_iff_iff];simp
 rw [this]
def row0 : Row:=⟨⟨0,0,0,0⟩,⟨⟨0,0,0,0⟩,0,0,0⟩⟩
theorem zero_Row : zeroIs Tryz.prog 210 11 (Row.cells row0):=⟨_,.agg #[.int .i64 0,.int .i64 0,.int .i64 0,.int .i64 0,.int .i64 0,.int .i64 0,.int .i64 0,.int .i64 0,.int .i64 0,.int .i64 0,.int .i64 0],rfl,by kernel_rfl,by kernel_rfl,rfl,by decide⟩
theorem sizeRow : ∀ w,(sizeOf 210).run Tryz.prog w = .ok 11 w:=fun w=>by kernel_rfl
theorem pulled_none {s : List Row} {k : Key} (hk : k ∉ s.map (·.key)) : pulled s k = s:=by
 unfold pulled
 rw [List.filter_eq_self]
 intro x hx
 simp only [decide_eq_true_eq]
 exact fun e=>hk (List.mem_map.2 ⟨x,hx,e⟩)
theorem hpull_calls (B : Nat) (s : List Row) (k : Key) (w : World) (F : Nat → Prop) (h : (heapA B s).at_ w F) (hmax : s.length ≤ 4294967296) :
 Calls Tryz.prog 131 #[.pointer (some ⟨B,0,none⟩),.agg #[.int .i64 k.at_,.int .i64 k.src,.int .i64 k.sent,.int .i64 k.no]] w fun e w'=>e = .returned (foundVal s k) ∧ St F w w' [heapA B (pulled s k)]:=by
 obtain ⟨M,v,rows,ho,hp,hs,S⟩:=heap_open (St.one w h)
 have hl:=hp.length_eq
 clear h
 by_cases hk : k ∈ s.map (·.key)
 · obtain ⟨r,hr,hrk⟩:=List.mem_map.1 hk
   obtain ⟨i,hi,he⟩:=List.mem_iff_getElem.1 (hp.mem_iff.2 hr)
   have hfk:=find_key hr hs.nodup
   have hi2 : rows[i]? = some r:=by rw [List.getElem?_eq_getElem hi,he]
   have hnd:=hs.nodup_of hp
   have hpm:=posMap_some hnd hi2
   subst hrk
   obtain ⟨R,cp,rfl,hcp⟩:=own_head 1 S rfl (by omega)
   obtain ⟨m,hm⟩ : ∃ m,rows.length = m + 1:=⟨rows.length - 1,by omega⟩
   obtain ⟨l,hlm⟩ : ∃ l,rows[m]? = some l:=⟨_,List.getElem?_eq_getElem (by omega)⟩
   have HCUT : Hid ((cutRow rows i).Perm (pulled s r.key)):=Lib.hid ((List.perm_append_right_iff _).1 (((cutRow_perm hi2).trans hp).trans (filter_perm hr hs.nodup).symm))
   have HSP : Hid (HSorted (pulled s r.key)):=Lib.hid (filter_sorted hs _)
   have HPO:=Lib.hid (pull_ordered ho hi)
   have HTK : Hid ((rows.set m row0).take m = rows.take m):=Lib.hid (List.take_set_of_le (Nat.le_refl _))
   have HND:=Lib.hid hnd
   have HLEN:=Lib.hid hm
   have hi3 : (i : Int) < (m : Int) + 1:=by omega
   have hm2 : (m : Int) ≤ 4294967296:=by omega
   have hm0 : (0 : Int) ≤ m:=by omega
   have hmc : (m : Int) + 1 ≤ cp:=by omega
   rw [hm] at S hcp
   have Hpm:=Lib.hid hpm
   have Hi2:=Lib.hid hi2
   have Hfk:=Lib.hid hfk
   have Hlm:=Lib.hid hlm
   clear hpm hi2 hfk hlm
   clear hr hk ho hp hs hnd he hm
   go_enter Tryz.func131,Tryz.ntmps131
   go_upto_region 7 with first | ((with_reducible apply wps_lookup_ok keyed Tryz.underlying180 (S:=S) (i:=2) (zv:=.int .i64 0) (v:=.int .i64 i) (b:=true) (k:=r.key));(case hx|hi=>rfl);(case hy=>exact (wholeKey _).symm);(case hz=>exact Tryz.zeroValue3);(case hv|hb=>rw [Hpm.out];rfl)) | ((with_reducible apply wps_loada_own hcells S 3 (hj:=Hi2.out) (q:=4) (vs:=[.int .i64 r.v.key.at_,.int .i64 r.v.key.src,.int .i64 r.v.key.sent,.int .i64 r.v.key.no,.int .i64 r.v.dst,.int .i64 r.v.kind,.int .i64 r.v.data]) (m:=7));(case hx|hi=>rfl);(case hn=>omega);(case hm|hv=>rfl);(case hT=>decide +kernel)) | ((with_reducible apply wps_storea (T:=56) S 0 (vs:=[.int .i64 r.v.key.at_,.int .i64 r.v.key.src,.int .i64 r.v.key.sent,.int .i64 r.v.key.no,.int .i64 r.v.dst,.int .i64 r.v.kind,.int .i64 r.v.data]) (m:=7));(case hx|hy|hi|hm|h1=>rfl);(case hn=>exact nle rfl);(case hT=>decide +kernel);clear S;intro wz S;simp only [set_cons_zero,set_cons_succ,setAll,setIfInBounds_toArray] at S) | ((with_reducible refine tot_done ?ht ?_);(case ht=>kernel_rfl)) | ((with_reducible apply wps_text S);(case hm=>kernel_rfl);(case hB=>decide +kernel);clear S;intro wz S) | ((with_reducible apply wps_boxa S);(case hx=>rfl);clear S;intro bz wz S) | ((with_reducible apply wps_alloca (E:=56) S);(case hz=>exact Tryz.zeroValue56);clear S;intro bz wz S) | ((with_reducible apply wps_loada (T:=54) (k:=4) S 1);(case hx|hi=>rfl);(case hk=>exact nle rfl);(case hT=>decide +kernel)) | ((with_reducible apply wps_load S 4);(case hx|hi|hu=>rfl);(case hT=>decide +kernel))
   replace S:=S.pick [2,3,4,5,1,0] rfl
   simp only [pick,nth] at S
   go_upto_region 10 with first | ((with_reducible apply wps_loada_own hcells S 2 (hj:=Hlm.out) (q:=0) (vs:=[.int .i64 l.key.at_,.int .i64 l.key.src,.int .i64 l.key.sent,.int .i64 l.key.no,.int .i64 l.v.key.at_,.int .i64 l.v.key.src,.int .i64 l.v.key.sent,.int .i64 l.v.key.no,.int .i64 l.v.dst,.int .i64 l.v.kind,.int .i64 l.v.data]) (m:=11));(case hx|hi=>rfl);(case hn=>omega);(case hm|hv=>rfl);(case hT=>decide +kernel)) | ((with_reducible apply wps_delete keyed Tryz.underlying180 S 1 (k:=r.key));(case hx|hi=>rfl);(case hy=>exact (wholeKey _).symm);clear S;intro wz S;simp only [set_cons_succ,set_cons_zero] at S) | ((with_reducible apply wps_storea (T:=210) S 0 (vs:=[.int .i64 l.key.at_,.int .i64 l.key.src,.int .i64 l.key.sent,.int .i64 l.key.no,.int .i64 l.v.key.at_,.int .i64 l.v.key.src,.int .i64 l.v.key.sent,.int .i64 l.v.key.no,.int .i64 l.v.dst,.int .i64 l.v.kind,.int .i64 l.v.data]) (m:=11));(case hx|hy|hi|hm|h1=>rfl);(case hn=>exact nle rfl);(case hT=>decide +kernel);clear S;intro wz S;simp only [set_cons_zero,set_cons_succ,setAll,setIfInBounds_toArray] at S) | ((with_reducible refine tot_done ?ht ?_);(case ht=>kernel_rfl)) | ((with_reducible apply wps_text S);(case hm=>kernel_rfl);(case hB=>decide +kernel);clear S;intro wz S) | ((with_reducible apply wps_alloca (E:=210) S);(case hz=>exact Tryz.zeroValue210);clear S;intro bz wz S) | ((with_reducible apply wps_loada (T:=54) (k:=4) S 0);(case hx|hi=>rfl);(case hk=>exact nle rfl);(case hT=>decide +kernel)) | ((with_reducible apply wps_load S 3);(case hx|hi|hu=>rfl);(case hT=>decide +kernel))
   go_upto_region 12 with first | ((with_reducible apply wps_tail Tryz.underlying181 sizeRow (m:=1) (l:=m));(case hx|hlo|hm=>rfl);(case h1=>decide);(case h2=>omega)) | ((with_reducible apply wps_clear1 elem_Row hcells hone row0 zero_Row S 3 (m:=m));(case hx|hi|ho=>rfl);(case hm=>exact HLEN.out);clear S;intro wz S;simp only [set_cons_succ,set_cons_zero] at S) | ((with_reducible apply wps_cutown hcells Tryz.underlying181 sizeRow S 3 (u:=m));(case hx|hi|hu=>rfl);(case h1=>rw [List.length_set,HLEN.out];omega);clear S;intro S;simp only [set_cons_succ,set_cons_zero] at S) | ((with_reducible apply wps_store (u:=(.slice (some ⟨R,0,none⟩) m cp)) S 4);(case hx|hy|hi|h1=>rfl);(case hn=>exact nle rfl);(case hT=>decide +kernel);clear S;intro wz S;simp only [set_cons_succ,set_cons_zero,setIfInBounds_toArray] at S) | ((with_reducible apply wps_load S 4);(case hx|hi|hu=>rfl);(case hT=>decide +kernel))
   rw [HTK.out] at S
   by_cases him : i = m
   · subst him
     have hlr : l = r:=by have:=Hlm.out;rw [Hi2.out] at this;exact (Option.some.inj this).symm
     subst hlr
     have HN:=Lib.hid ((key_nceqs l.key l.key).trans (show _ = false by simp))
     have HPE:=Lib.hid (posMap_cut_last HND.out HLEN.out Hi2.out)
     have HPL : Hid (hpull rows i = rows.take i):=Lib.hid (by unfold hpull;rw [if_pos HLEN.out.symm,cutRow_last HLEN.out])
     go_wp2_with first | ((with_reducible apply wpList_neq_agg (t:=54) (ks:=[.int .i64,.int .i64,.int .i64,.int .i64]) (b:=_));(case hx|hy=>rfl);(case hl|ha|hg=>kernel_rfl);(case hfx|hfy=>rfl);(case hb=>exact HN.out)) | ((with_reducible apply wps_storea (T:=56) S 5 (vs:=[.int .i64 l.v.key.at_,.int .i64 l.v.key.src,.int .i64 l.v.key.sent,.int .i64 l.v.key.no,.int .i64 l.v.dst,.int .i64 l.v.kind,.int .i64 l.v.data]) (m:=7));(case hx|hy|hi|hm|h1=>rfl);(case hn=>exact nle rfl);(case hT=>decide +kernel);clear S;intro wz S;simp only [set_cons_zero,set_cons_succ,setAll,setIfInBounds_toArray] at S) | ((with_reducible apply wps_loada (T:=54) (k:=4) S 0);(case hx|hi=>rfl);(case hk=>exact nle rfl);(case hT=>decide +kernel)) | ((with_reducible apply wps_loada (T:=54) (k:=4) S 1);(case hx|hi=>rfl);(case hk=>exact nle rfl);(case hT=>decide +kernel)) | ((with_reducible apply wps_loada (T:=56) (k:=7) S 6);(case hx|hi=>rfl);(case hk=>exact nle rfl);(case hT=>decide +kernel))
     (try simp only [Exit.inBlock,Exit.then]);refine bodyPost_ret (results2 rfl (S.resA 5 rfl rfl (by kernel_rfl)) (res_tmp rfl)) rfl ?_
     refine ⟨by rw [foundVal,Hfk.out];rfl,?_⟩
     rw [HPE.out] at S
     refine heap_close (S.pick [2,3,4] rfl) (by rw [← HPL.out];exact HPO.out) (by rw [← cutRow_last HLEN.out];exact HCUT.out) HSP.out
   · have him2 : i < m:=by omega
     have hkne : l.key ≠ r.key:=fun e=>by
      have h1:=posMap_some HND.out Hi2.out
      have h2:=posMap_some HND.out Hlm.out
      rw [e,h1] at h2
      simp only [Option.some.injEq,Value.int.injEq,true_and] at h2
      omega
     have HN:=Lib.hid ((key_nceqs l.key r.key).trans (show _ = true by simp [hkne]))
     have HXL : Hid ((cutRow rows i).length = m):=Lib.hid (by have:=cutRow_length Hi2.out;have:=HLEN.out;omega)
     have HC:=Lib.hid (cutRow_set HLEN.out Hlm.out him)
     have HPM:=Lib.hid (posMap_cut HND.out HLEN.out Hi2.out Hlm.out him)
     have HNC:=Lib.hid (cutRow_nodup Hi2.out HND.out).1
     have HND2:=Lib.hid (nodup_perm (hdown_perm m (cutRow rows i) i) HNC.out)
     have HDL:=Lib.hid ((hdown_perm m (cutRow rows i) i).length_eq.trans HXL.out)
     have HHP : Hid (hpull rows i = hup i (hdown m (cutRow rows i) i) i):=Lib.hid (by
      unfold hpull
      rw [if_neg (by have:=HLEN.out;omega),show rows.length - 1 = m by have:=HLEN.out;omega])
     have HIT : Hid ((rows.take m)[i]? = some r):=Lib.hid (by rw [List.getElem?_take_of_lt him2];exact Hi2.out)
     clear hkne him
     go_upto_region 15 with first | ((with_reducible apply wpList_neq_agg (t:=54) (ks:=[.int .i64,.int .i64,.int .i64,.int .i64]) (b:=_));(case hx|hy=>rfl);(case hl|ha|hg=>kernel_rfl);(case hfx|hfy=>rfl);(case hb=>exact HN.out)) | ((with_reducible apply wps_store_owna hcells S 3 (hj:=HIT.out) (e':=l) (q:=0) (vs:=[.int .i64 l.key.at_,.int .i64 l.key.src,.int .i64 l.key.sent,.int .i64 l.key.no,.int .i64 l.v.key.at_,.int .i64 l.v.key.src,.int .i64 l.v.key.sent,.int .i64 l.v.key.no,.int .i64 l.v.dst,.int .i64 l.v.kind,.int .i64 l.v.data]) (m:=11));(case hx=>rfl);(case hn=>omega);(case hi|hy|hm|h1|he=>rfl);(case hq=>exact nle rfl);(case hT=>decide +kernel);clear S;intro wz S;simp only [set_cons_succ,set_cons_zero] at S) | ((with_reducible apply wps_mapUpdate keyed Tryz.underlying180 S 2 (k:=l.key) (v:=.int .i64 i));(case hx|hi=>rfl);(case hy=>exact (wholeKey _).symm);(case hz=>rfl);clear S;intro wz S;simp only [set_cons_succ,set_cons_zero] at S) | ((with_reducible refine tot_done ?ht ?_);(case ht=>kernel_rfl)) | ((with_reducible apply wps_text S);(case hm=>kernel_rfl);(case hB=>decide +kernel);clear S;intro wz S) | ((with_reducible apply wps_loada (T:=54) (k:=4) S 0);(case hx|hi=>rfl);(case hk=>exact nle rfl);(case hT=>decide +kernel)) | ((with_reducible apply wps_loada (T:=210) (k:=11) S 0);(case hx|hi=>rfl);(case hk=>exact nle rfl);(case hT=>decide +kernel)) | ((with_reducible apply wps_loada (T:=54) (k:=4) S 1);(case hx|hi=>rfl);(case hk=>exact nle rfl);(case hT=>decide +kernel)) | ((with_reducible apply wps_load S 4);(case hx|hi|hu=>rfl);(case hT=>decide +kernel))
     rw [← HC.out,HPM.out] at S
     replace S:=S.pick [2,3,4,5,6] rfl
     simp only [pick,nth] at S
     replace S:=rawH_close S
     go_wp2_with first | (go_at_call 137;obtain ⟨Fz,hF,hBk⟩:=S.lend1 0 rfl rfl;refine Calls.mono (down_calls _ _ _ _ _ _ _ hF HNC.out (by rw [HXL.out];exact him2) (by rw [HXL.out];omega)) ?_;rintro e wz ⟨rfl,T⟩;rw [HXL.out] at T;replace S:=hBk _ _ rfl T;clear hBk hF T;simp only [set_cons_zero] at S) | (go_at_call 122;obtain ⟨Fz,hF,hBk⟩:=S.lend1 0 rfl rfl;refine Calls.mono (up_calls _ _ _ _ _ _ _ hF HND2.out (by rw [HDL.out];exact him2) (by rw [HDL.out];omega)) ?_;rintro e wz ⟨rfl,T⟩;replace S:=hBk _ _ rfl T;clear hBk hF T;simp only [set_cons_zero] at S) | ((with_reducible apply wps_storea (T:=56) S 1 (vs:=[.int .i64 r.v.key.at_,.int .i64 r.v.key.src,.int .i64 r.v.key.sent,.int .i64 r.v.key.no,.int .i64 r.v.dst,.int .i64 r.v.kind,.int .i64 r.v.data]) (m:=7));(case hx|hy|hi|hm|h1=>rfl);(case hn=>exact nle rfl);(case hT=>decide +kernel);clear S;intro wz S;simp only [set_cons_zero,set_cons_succ,setAll,setIfInBounds_toArray] at S) | ((with_reducible apply wps_loada (T:=56) (k:=7) S 2);(case hx|hi=>rfl);(case hk=>exact nle rfl);(case hT=>decide +kernel))
     (try simp only [Exit.inBlock,Exit.then]);refine bodyPost_ret (results2 rfl (S.resA 1 rfl rfl (by kernel_rfl)) (res_tmp rfl)) rfl ?_
     replace S:=S.pick [0] rfl
     refine ⟨by rw [foundVal,Hfk.out];rfl,?_⟩
     refine heap_raw S (by rw [← HHP.out];exact HPO.out) ?_ HSP.out
     exact ((hup_perm _ _ _).trans (hdown_perm _ _ _)).trans HCUT.out
 · have hpm:=posMap_none (fun h=>hk ((key_perm hp k).1 h))
   have hfn:=find_none hk
   have hpe:=pulled_none hk
   obtain ⟨ad,cp,rfl,_⟩:=(S.ownsl hcells 1 rfl).elim fun _ h=>h.form
   have Hpm:=Lib.hid hpm
   have Hfn:=Lib.hid hfn
   have Hpe:=Lib.hid hpe
   clear hpm hfn hpe
   clear hk
   go_enter Tryz.func131,Tryz.ntmps131
   go_upto_region 1 with first | ((with_reducible apply wps_boxa S);(case hx=>rfl);clear S;intro bz wz S) | ((with_reducible apply wps_alloca (E:=56) S);(case hz=>exact Tryz.zeroValue56);clear S;intro bz wz S)
   replace S:=S.pick [1,2,3,4,0] rfl
   simp only [pick,nth] at S
   go_wp2_with first | ((with_reducible apply wps_lookup_ok keyed Tryz.underlying180 (S:=S) (i:=1) (zv:=.int .i64 0) (v:=.int .i64 0) (b:=false) (k:=k));(case hx|hi=>rfl);(case hy=>exact (wholeKey _).symm);(case hz=>exact Tryz.zeroValue3);(case hv|hb=>rw [Hpm.out];rfl)) | ((with_reducible apply wps_storea (T:=56) S 4 (vs:=[.int .i64 0,.int .i64 0,.int .i64 0,.int .i64 0,.int .i64 0,.int .i64 0,.int .i64 0]) (m:=7));(case hx|hy|hi|hm|h1=>rfl);(case hn=>exact nle rfl);(case hT=>decide +kernel);clear S;intro wz S;simp only [set_cons_zero,set_cons_succ,setAll,setIfInBounds_toArray] at S) | ((with_reducible refine tot_done ?ht ?_);(case ht=>kernel_rfl)) | ((with_reducible apply wps_text S);(case hm=>kernel_rfl);(case hB=>decide +kernel);clear S;intro wz S) | ((with_reducible apply wps_loada (T:=54) (k:=4) S 0);(case hx|hi=>rfl);(case hk=>exact nle rfl);(case hT=>decide +kernel)) | ((with_reducible apply wps_load S 3);(case hx|hi|hu=>rfl);(case hT=>decide +kernel)) | ((with_reducible apply wps_loada (T:=56) (k:=7) S 4);(case hx|hi=>rfl);(case hk=>exact nle rfl);(case hT=>decide +kernel))
   (try simp only [Exit.inBlock,Exit.then]);refine bodyPost_ret (results2 rfl (S.resA 4 rfl rfl (by kernel_rfl)) (res_tmp rfl)) rfl ?_
   refine ⟨by rw [foundVal,Hfn.out];rfl,?_⟩
   rw [Hpe.out]
   exact heap_close (S.pick [1,2,3] rfl) ho hp hs
end Go.Proofs.YtcnfionnnpnplaaGreatDoor
