import Derived.Test.YtcnfionnnpnplaaGreatDoorZ23
/- The walks of a heap's Pop and Batch. -/
set_option maxHeartbeats 16000000
set_option maxRecDepth 100000
namespace Go.Proofs.YtcnfionnnpnplaaGreatDoor
open Go.RowKit Reg Mem
open List (set_cons_succ set_cons_zero setIfInBounds_toArray cons_append nil_append)
theorem hfirst_nil (B : Nat) (w : World) (F : Nat → Prop) (h : (heapA B []).at_ w F) :
 Calls Tryz.prog 103 #[.pointer (some ⟨B,0,none⟩)] w fun e w'=>e = .returned (.tuple #[.agg #[.int .i64 0,.int .i64 0,.int .i64 0,.int .i64 0],.agg #[.int .i64 0,.int .i64 0,.int .i64 0,.int .i64 0,.int .i64 0,.int .i64 0,.int .i64 0],.int .i64 14]) ∧ Below w.heap.size w w':=hfirst_calls B [] w F h
theorem hfirst_cons (B : Nat) (r : Row) (s : List Row) (w : World) (F : Nat → Prop) (h : (heapA B (r :: s)).at_ w F) :
 Calls Tryz.prog 103 #[.pointer (some ⟨B,0,none⟩)] w fun e w'=>e = .returned (.tuple #[.agg #[.int .i64 r.key.at_,.int .i64 r.key.src,.int .i64 r.key.sent,.int .i64 r.key.no],.agg #[.int .i64 r.v.key.at_,.int .i64 r.v.key.src,.int .i64 r.v.key.sent,.int .i64 r.v.key.no,.int .i64 r.v.dst,.int .i64 r.v.kind,.int .i64 r.v.data],.int .i64 0]) ∧ Below w.heap.size w w':=hfirst_calls B (r :: s) w F h
theorem hpop_calls (B : Nat) (s : List Row) (w : World) (F : Nat → Prop) (h : (heapA B s).at_ w F) (hs : HSorted s) (hmax : s.length ≤ 4294967296) :
 Calls Tryz.prog 123 #[.pointer (some ⟨B,0,none⟩)] w fun e w'=>e = .returned (firstVal s) ∧ St F w w' [heapA B s.tail]:=by
 have S:=St.one w h
 clear h
 cases s with
 | nil=>
   go_enter Tryz.func123,Tryz.ntmps123
   go_upto_region 4 with first | (go_at_call 103;refine Calls.mono (hfirst_nil _ _ _ (S.get (i:=2) rfl).choose_spec) ?_;rintro e wz ⟨rfl,hE⟩;replace S:=S.ext (Keep.of_below hE);clear hE) | ((with_reducible apply wps_storea (T:=54) S 1 (vs:=[.int .i64 0,.int .i64 0,.int .i64 0,.int .i64 0]) (m:=4));(case hx|hy|hi|hm|h1=>rfl);(case hn=>exact nle rfl);(case hT=>decide +kernel);clear S;intro wz S;simp only [set_cons_zero,set_cons_succ,setAll,setIfInBounds_toArray] at S) | ((with_reducible apply wps_storea (T:=56) S 0 (vs:=[.int .i64 0,.int .i64 0,.int .i64 0,.int .i64 0,.int .i64 0,.int .i64 0,.int .i64 0]) (m:=7));(case hx|hy|hi|hm|h1=>rfl);(case hn=>exact nle rfl);(case hT=>decide +kernel);clear S;intro wz S;simp only [set_cons_zero,set_cons_succ,setAll,setIfInBounds_toArray] at S) | ((with_reducible apply wps_alloca (E:=54) S);(case hz=>exact Tryz.zeroValue54);clear S;intro bz wz S) | ((with_reducible apply wps_alloca (E:=56) S);(case hz=>exact Tryz.zeroValue56);clear S;intro bz wz S)
   replace S:=S.pick [2,1,0] rfl
   simp only [pick,nth] at S
   (refine wp_region_wt (soft:=[2]) (L:=[_]) (T:=[_,_]) S ?hm ?hB ?_);(case hm=>kernel_rfl);(case hB=>decide +kernel);clear S
   iterate 1
    (with_reducible apply softs_cons)
    (case hw=>
      (with_reducible apply soft_of);(case hi=>rfl)
      intro T wz S
      simp only [cons_append,nil_append] at S
      go_wp2_with first | ((with_reducible refine tot_done ?ht ?_);(case ht=>kernel_rfl))
      exact ⟨rfl,S⟩)
    (case hs=>exact ⟨_,rfl,by kernel_rfl⟩)
   refine softs_nil ?_
   (with_reducible apply W_hard2 (i:=0) (i':=1));(case hn=>rfl);(case hr=>decide +kernel)
   focus
    intro wz S
    (with_reducible apply hard_of);(case hi=>rfl)
    simp only [cons_append,nil_append] at S
    go_wp2_with first | ((with_reducible refine tot_done ?ht ?_);(case ht=>kernel_rfl)) | ((with_reducible apply wps_loada (T:=54) (k:=4) S 1);(case hx|hi=>rfl);(case hk=>exact nle rfl);(case hT=>decide +kernel))
    refine ⟨_,S,?_⟩
    clear S
    (with_reducible apply W_hard2 (i:=1) (i':=3));(case hn=>rfl);(case hr=>decide +kernel)
    focus
     intro wz S
     (with_reducible apply hard_of);(case hi=>rfl)
     simp only [cons_append,nil_append] at S
     go_wp2_with first | ((with_reducible refine tot_done ?ht ?_);(case ht=>kernel_rfl)) | ((with_reducible apply wps_loada (T:=56) (k:=7) S 2);(case hx|hi=>rfl);(case hk=>exact nle rfl);(case hT=>decide +kernel))
     refine ⟨_,S,?_⟩
     clear S
     (with_reducible apply W_hard1 (i:=3));(case hn=>rfl);(case hr=>decide +kernel)
     intro wz S
     (with_reducible apply hard_of);(case hi=>rfl)
     simp only [cons_append,nil_append] at S
     go_wp2_with first | ((with_reducible apply wps_storea (T:=54) S 1 (vs:=[.int .i64 0,.int .i64 0,.int .i64 0,.int .i64 0]) (m:=4));(case hx|hy|hi|hm|h1=>rfl);(case hn=>exact nle rfl);(case hT=>decide +kernel);clear S;intro wz S;simp only [set_cons_zero,set_cons_succ,setAll,setIfInBounds_toArray] at S) | ((with_reducible refine tot_done ?ht ?_);(case ht=>kernel_rfl))
     refine ⟨_,S,?_⟩
     clear S
     (with_reducible apply W_hard1 (i:=4));(case hn=>rfl);(case hr=>decide +kernel)
     intro wz S
     (with_reducible apply hard_of);(case hi=>rfl)
     simp only [cons_append,nil_append] at S
     go_wp2_with first | ((with_reducible apply wps_storea (T:=56) S 2 (vs:=[.int .i64 0,.int .i64 0,.int .i64 0,.int .i64 0,.int .i64 0,.int .i64 0,.int .i64 0]) (m:=7));(case hx|hy|hi|hm|h1=>rfl);(case hn=>exact nle rfl);(case hT=>decide +kernel);clear S;intro wz S;simp only [set_cons_zero,set_cons_succ,setAll,setIfInBounds_toArray] at S) | ((with_reducible refine tot_done ?ht ?_);(case ht=>kernel_rfl))
     refine ⟨_,S,?_⟩
     clear S
     (refine W_mid (f:=0) (soft:=[5]) rfl ?hB ?_);(case hB=>decide +kernel)
     iterate 1
      (with_reducible apply softs_cons)
      (case hw=>
        (with_reducible apply soft_of);(case hi=>rfl)
        intro T wz S
        simp only [cons_append,nil_append] at S
        go_wp2_with first | ((with_reducible refine tot_done ?ht ?_);(case ht=>kernel_rfl))
        exact ⟨rfl,S⟩)
      (case hs=>exact ⟨_,rfl,by kernel_rfl⟩)
     refine softs_nil ?_
     (with_reducible apply W_done);(case hn=>rfl);(case hr=>decide +kernel)
     intro wz S
     repeat (first | simp only at S | simp only [pick] at S | simp only [nth] at S | simp only [set_cons_succ] at S | simp only [set_cons_zero] at S | simp only [setIfInBounds_toArray] at S | simp only [setAll] at S | simp only [cons_append] at S | simp only [nil_append] at S | simp only [List.append_nil] at S)
    rotate_left 1
    focus
     intro wz S
     (with_reducible apply hard_of);(case hi=>rfl)
     simp only [cons_append,nil_append] at S
     go_wp2_with first | ((with_reducible apply wps_storea (T:=54) S 1 (vs:=[.int .i64 0,.int .i64 0,.int .i64 0,.int .i64 0]) (m:=4));(case hx|hy|hi|hm|h1=>rfl);(case hn=>exact nle rfl);(case hT=>decide +kernel);clear S;intro wz S;simp only [set_cons_zero,set_cons_succ,setAll,setIfInBounds_toArray] at S) | ((with_reducible refine tot_done ?ht ?_);(case ht=>kernel_rfl))
     refine ⟨_,S,?_⟩
     clear S
     (with_reducible apply W_hard1 (i:=1));(case hn=>rfl);(case hr=>decide +kernel)
     intro wz S
     (with_reducible apply hard_of);(case hi=>rfl)
     simp only [cons_append,nil_append] at S
     go_wp2_with first | ((with_reducible refine tot_done ?ht ?_);(case ht=>kernel_rfl)) | ((with_reducible apply wps_loada (T:=56) (k:=7) S 2);(case hx|hi=>rfl);(case hk=>exact nle rfl);(case hT=>decide +kernel))
     refine ⟨_,S,?_⟩
     clear S
     (with_reducible apply W_hard1 (i:=4));(case hn=>rfl);(case hr=>decide +kernel)
     intro wz S
     (with_reducible apply hard_of);(case hi=>rfl)
     simp only [cons_append,nil_append] at S
     go_wp2_with first | ((with_reducible apply wps_storea (T:=56) S 2 (vs:=[.int .i64 0,.int .i64 0,.int .i64 0,.int .i64 0,.int .i64 0,.int .i64 0,.int .i64 0]) (m:=7));(case hx|hy|hi|hm|h1=>rfl);(case hn=>exact nle rfl);(case hT=>decide +kernel);clear S;intro wz S;simp only [set_cons_zero,set_cons_succ,setAll,setIfInBounds_toArray] at S) | ((with_reducible refine tot_done ?ht ?_);(case ht=>kernel_rfl))
     refine ⟨_,S,?_⟩
     clear S
     (refine W_mid (f:=0) (soft:=[5]) rfl ?hB ?_);(case hB=>decide +kernel)
     iterate 1
      (with_reducible apply softs_cons)
      (case hw=>
        (with_reducible apply soft_of);(case hi=>rfl)
        intro T wz S
        simp only [cons_append,nil_append] at S
        go_wp2_with first | ((with_reducible refine tot_done ?ht ?_);(case ht=>kernel_rfl))
        exact ⟨rfl,S⟩)
      (case hs=>exact ⟨_,rfl,by kernel_rfl⟩)
     refine softs_nil ?_
     (with_reducible apply W_done);(case hn=>rfl);(case hr=>decide +kernel)
     intro wz S
     repeat (first | simp only at S | simp only [pick] at S | simp only [nth] at S | simp only [set_cons_succ] at S | simp only [set_cons_zero] at S | simp only [setIfInBounds_toArray] at S | simp only [setAll] at S | simp only [cons_append] at S | simp only [nil_append] at S | simp only [List.append_nil] at S)
   rotate_left 2
   focus
    intro wz S
    (with_reducible apply hard_of);(case hi=>rfl)
    simp only [cons_append,nil_append] at S
    go_wp2_with first | ((with_reducible refine tot_done ?ht ?_);(case ht=>kernel_rfl)) | ((with_reducible apply wps_loada (T:=56) (k:=7) S 2);(case hx|hi=>rfl);(case hk=>exact nle rfl);(case hT=>decide +kernel))
    refine ⟨_,S,?_⟩
    clear S
    (with_reducible apply W_hard1 (i:=0));(case hn=>rfl);(case hr=>decide +kernel)
    intro wz S
    (with_reducible apply hard_of);(case hi=>rfl)
    simp only [cons_append,nil_append] at S
    go_wp2_with first | ((with_reducible refine tot_done ?ht ?_);(case ht=>kernel_rfl)) | ((with_reducible apply wps_loada (T:=54) (k:=4) S 1);(case hx|hi=>rfl);(case hk=>exact nle rfl);(case hT=>decide +kernel))
    refine ⟨_,S,?_⟩
    clear S
    (with_reducible apply W_hard1 (i:=3));(case hn=>rfl);(case hr=>decide +kernel)
    intro wz S
    (with_reducible apply hard_of);(case hi=>rfl)
    simp only [cons_append,nil_append] at S
    go_wp2_with first | ((with_reducible apply wps_storea (T:=54) S 1 (vs:=[.int .i64 0,.int .i64 0,.int .i64 0,.int .i64 0]) (m:=4));(case hx|hy|hi|hm|h1=>rfl);(case hn=>exact nle rfl);(case hT=>decide +kernel);clear S;intro wz S;simp only [set_cons_zero,set_cons_succ,setAll,setIfInBounds_toArray] at S) | ((with_reducible refine tot_done ?ht ?_);(case ht=>kernel_rfl))
    refine ⟨_,S,?_⟩
    clear S
    (with_reducible apply W_hard1 (i:=4));(case hn=>rfl);(case hr=>decide +kernel)
    intro wz S
    (with_reducible apply hard_of);(case hi=>rfl)
    simp only [cons_append,nil_append] at S
    go_wp2_with first | ((with_reducible apply wps_storea (T:=56) S 2 (vs:=[.int .i64 0,.int .i64 0,.int .i64 0,.int .i64 0,.int .i64 0,.int .i64 0,.int .i64 0]) (m:=7));(case hx|hy|hi|hm|h1=>rfl);(case hn=>exact nle rfl);(case hT=>decide +kernel);clear S;intro wz S;simp only [set_cons_zero,set_cons_succ,setAll,setIfInBounds_toArray] at S) | ((with_reducible refine tot_done ?ht ?_);(case ht=>kernel_rfl))
    refine ⟨_,S,?_⟩
    clear S
    (refine W_mid (f:=0) (soft:=[5]) rfl ?hB ?_);(case hB=>decide +kernel)
    iterate 1
     (with_reducible apply softs_cons)
     (case hw=>
       (with_reducible apply soft_of);(case hi=>rfl)
       intro T wz S
       simp only [cons_append,nil_append] at S
       go_wp2_with first | ((with_reducible refine tot_done ?ht ?_);(case ht=>kernel_rfl))
       exact ⟨rfl,S⟩)
     (case hs=>exact ⟨_,rfl,by kernel_rfl⟩)
    refine softs_nil ?_
    (with_reducible apply W_done);(case hn=>rfl);(case hr=>decide +kernel)
    intro wz S
    repeat (first | simp only at S | simp only [pick] at S | simp only [nth] at S | simp only [set_cons_succ] at S | simp only [set_cons_zero] at S | simp only [setIfInBounds_toArray] at S | simp only [setAll] at S | simp only [cons_append] at S | simp only [nil_append] at S | simp only [List.append_nil] at S)
   all_goals
    go_wp2_with first | ((with_reducible apply wps_loada (T:=56) (k:=7) S 3);(case hx|hi=>rfl);(case hk=>exact nle rfl);(case hT=>decide +kernel))
    (try simp only [Exit.inBlock,Exit.then]);refine bodyPost_ret (results3 rfl (S.resA 1 rfl rfl (by kernel_rfl)) (S.resA 2 rfl rfl (by kernel_rfl)) (res_tmp rfl)) rfl ?_
    exact ⟨rfl,S.pick [0] rfl⟩
 | cons r s=>
   have HPH:=Lib.hid (pulled_head hs)
   go_enter Tryz.func123,Tryz.ntmps123
   go_upto_region 4 with first | (go_at_call 103;refine Calls.mono (hfirst_cons _ _ _ _ _ (S.get (i:=2) rfl).choose_spec) ?_;rintro e wz ⟨rfl,hE⟩;replace S:=S.ext (Keep.of_below hE);clear hE) | ((with_reducible apply wps_storea (T:=54) S 1 (vs:=[.int .i64 r.key.at_,.int .i64 r.key.src,.int .i64 r.key.sent,.int .i64 r.key.no]) (m:=4));(case hx|hy|hi|hm|h1=>rfl);(case hn=>exact nle rfl);(case hT=>decide +kernel);clear S;intro wz S;simp only [set_cons_zero,set_cons_succ,setAll,setIfInBounds_toArray] at S) | ((with_reducible apply wps_storea (T:=56) S 0 (vs:=[.int .i64 r.v.key.at_,.int .i64 r.v.key.src,.int .i64 r.v.key.sent,.int .i64 r.v.key.no,.int .i64 r.v.dst,.int .i64 r.v.kind,.int .i64 r.v.data]) (m:=7));(case hx|hy|hi|hm|h1=>rfl);(case hn=>exact nle rfl);(case hT=>decide +kernel);clear S;intro wz S;simp only [set_cons_zero,set_cons_succ,setAll,setIfInBounds_toArray] at S) | (go_at_call 131;obtain ⟨Fz,hF,hBk⟩:=S.lend1 2 rfl rfl;refine Calls.mono (hpull_calls _ _ r.key _ _ hF hmax) ?_;rintro e wz ⟨rfl,T⟩;rw [HPH.out] at T;replace S:=hBk _ _ rfl T;clear hBk hF T;simp only [set_cons_succ,set_cons_zero] at S) | ((with_reducible apply wps_alloca (E:=54) S);(case hz=>exact Tryz.zeroValue54);clear S;intro bz wz S) | ((with_reducible apply wps_alloca (E:=56) S);(case hz=>exact Tryz.zeroValue56);clear S;intro bz wz S) | ((with_reducible apply wps_loada (T:=54) (k:=4) S 1);(case hx|hi=>rfl);(case hk=>exact nle rfl);(case hT=>decide +kernel))
   replace S:=S.pick [2,1,0] rfl
   simp only [pick,nth] at S
   (refine wp_region_wt (soft:=[2]) (L:=[_]) (T:=[_,_]) S ?hm ?hB ?_);(case hm=>kernel_rfl);(case hB=>decide +kernel);clear S
   iterate 1
    (with_reducible apply softs_cons)
    (case hw=>
      (with_reducible apply soft_of);(case hi=>rfl)
      intro T wz S
      simp only [cons_append,nil_append] at S
      go_wp2_with first | ((with_reducible refine tot_done ?ht ?_);(case ht=>kernel_rfl))
      exact ⟨rfl,S⟩)
    (case hs=>exact ⟨_,rfl,by kernel_rfl⟩)
   refine softs_nil ?_
   (with_reducible apply W_hard2 (i:=0) (i':=1));(case hn=>rfl);(case hr=>decide +kernel)
   focus
    intro wz S
    (with_reducible apply hard_of);(case hi=>rfl)
    simp only [cons_append,nil_append] at S
    go_wp2_with first | ((with_reducible refine tot_done ?ht ?_);(case ht=>kernel_rfl)) | ((with_reducible apply wps_loada (T:=54) (k:=4) S 1);(case hx|hi=>rfl);(case hk=>exact nle rfl);(case hT=>decide +kernel))
    refine ⟨_,S,?_⟩
    clear S
    (with_reducible apply W_hard2 (i:=1) (i':=3));(case hn=>rfl);(case hr=>decide +kernel)
    focus
     intro wz S
     (with_reducible apply hard_of);(case hi=>rfl)
     simp only [cons_append,nil_append] at S
     go_wp2_with first | ((with_reducible refine tot_done ?ht ?_);(case ht=>kernel_rfl)) | ((with_reducible apply wps_loada (T:=56) (k:=7) S 2);(case hx|hi=>rfl);(case hk=>exact nle rfl);(case hT=>decide +kernel))
     refine ⟨_,S,?_⟩
     clear S
     (with_reducible apply W_hard1 (i:=3));(case hn=>rfl);(case hr=>decide +kernel)
     intro wz S
     (with_reducible apply hard_of);(case hi=>rfl)
     simp only [cons_append,nil_append] at S
     go_wp2_with first | ((with_reducible apply wps_storea (T:=54) S 1 (vs:=[.int .i64 r.key.at_,.int .i64 r.key.src,.int .i64 r.key.sent,.int .i64 r.key.no]) (m:=4));(case hx|hy|hi|hm|h1=>rfl);(case hn=>exact nle rfl);(case hT=>decide +kernel);clear S;intro wz S;simp only [set_cons_zero,set_cons_succ,setAll,setIfInBounds_toArray] at S) | ((with_reducible refine tot_done ?ht ?_);(case ht=>kernel_rfl))
     refine ⟨_,S,?_⟩
     clear S
     (with_reducible apply W_hard1 (i:=4));(case hn=>rfl);(case hr=>decide +kernel)
     intro wz S
     (with_reducible apply hard_of);(case hi=>rfl)
     simp only [cons_append,nil_append] at S
     go_wp2_with first | ((with_reducible apply wps_storea (T:=56) S 2 (vs:=[.int .i64 r.v.key.at_,.int .i64 r.v.key.src,.int .i64 r.v.key.sent,.int .i64 r.v.key.no,.int .i64 r.v.dst,.int .i64 r.v.kind,.int .i64 r.v.data]) (m:=7));(case hx|hy|hi|hm|h1=>rfl);(case hn=>exact nle rfl);(case hT=>decide +kernel);clear S;intro wz S;simp only [set_cons_zero,set_cons_succ,setAll,setIfInBounds_toArray] at S) | ((with_reducible refine tot_done ?ht ?_);(case ht=>kernel_rfl))
     refine ⟨_,S,?_⟩
     clear S
     (refine W_mid (f:=0) (soft:=[5]) rfl ?hB ?_);(case hB=>decide +kernel)
     iterate 1
      (with_reducible apply softs_cons)
      (case hw=>
        (with_reducible apply soft_of);(case hi=>rfl)
        intro T wz S
        simp only [cons_append,nil_append] at S
        go_wp2_with first | ((with_reducible refine tot_done ?ht ?_);(case ht=>kernel_rfl))
        exact ⟨rfl,S⟩)
      (case hs=>exact ⟨_,rfl,by kernel_rfl⟩)
     refine softs_nil ?_
     (with_reducible apply W_done);(case hn=>rfl);(case hr=>decide +kernel)
     intro wz S
     repeat (first | simp only at S | simp only [pick] at S | simp only [nth] at S | simp only [set_cons_succ] at S | simp only [set_cons_zero] at S | simp only [setIfInBounds_toArray] at S | simp only [setAll] at S | simp only [cons_append] at S | simp only [nil_append] at S | simp only [List.append_nil] at S)
    rotate_left 1
    focus
     intro wz S
     (with_reducible apply hard_of);(case hi=>rfl)
     simp only [cons_append,nil_append] at S
     go_wp2_with first | ((with_reducible apply wps_storea (T:=54) S 1 (vs:=[.int .i64 r.key.at_,.int .i64 r.key.src,.int .i64 r.key.sent,.int .i64 r.key.no]) (m:=4));(case hx|hy|hi|hm|h1=>rfl);(case hn=>exact nle rfl);(case hT=>decide +kernel);clear S;intro wz S;simp only [set_cons_zero,set_cons_succ,setAll,setIfInBounds_toArray] at S) | ((with_reducible refine tot_done ?ht ?_);(case ht=>kernel_rfl))
     refine ⟨_,S,?_⟩
     clear S
     (with_reducible apply W_hard1 (i:=1));(case hn=>rfl);(case hr=>decide +kernel)
     intro wz S
     (with_reducible apply hard_of);(case hi=>rfl)
     simp only [cons_append,nil_append] at S
     go_wp2_with first | ((with_reducible refine tot_done ?ht ?_);(case ht=>kernel_rfl)) | ((with_reducible apply wps_loada (T:=56) (k:=7) S 2);(case hx|hi=>rfl);(case hk=>exact nle rfl);(case hT=>decide +kernel))
     refine ⟨_,S,?_⟩
     clear S
     (with_reducible apply W_hard1 (i:=4));(case hn=>rfl);(case hr=>decide +kernel)
     intro wz S
     (with_reducible apply hard_of);(case hi=>rfl)
     simp only [cons_append,nil_append] at S
     go_wp2_with first | ((with_reducible apply wps_storea (T:=56) S 2 (vs:=[.int .i64 r.v.key.at_,.int .i64 r.v.key.src,.int .i64 r.v.key.sent,.int .i64 r.v.key.no,.int .i64 r.v.dst,.int .i64 r.v.kind,.int .i64 r.v.data]) (m:=7));(case hx|hy|hi|hm|h1=>rfl);(case hn=>exact nle rfl);(case hT=>decide +kernel);clear S;intro wz S;simp only [set_cons_zero,set_cons_succ,setAll,setIfInBounds_toArray] at S) | ((with_reducible refine tot_done ?ht ?_);(case ht=>kernel_rfl))
     refine ⟨_,S,?_⟩
     clear S
     (refine W_mid (f:=0) (soft:=[5]) rfl ?hB ?_);(case hB=>decide +kernel)
     iterate 1
      (with_reducible apply softs_cons)
      (case hw=>
        (with_reducible apply soft_of);(case hi=>rfl)
        intro T wz S
        simp only [cons_append,nil_append] at S
        go_wp2_with first | ((with_reducible refine tot_done ?ht ?_);(case ht=>kernel_rfl))
        exact ⟨rfl,S⟩)
      (case hs=>exact ⟨_,rfl,by kernel_rfl⟩)
     refine softs_nil ?_
     (with_reducible apply W_done);(case hn=>rfl);(case hr=>decide +kernel)
     intro wz S
     repeat (first | simp only at S | simp only [pick] at S | simp only [nth] at S | simp only [set_cons_succ] at S | simp only [set_cons_zero] at S | simp only [setIfInBounds_toArray] at S | simp only [setAll] at S | simp only [cons_append] at S | simp only [nil_append] at S | simp only [List.append_nil] at S)
   rotate_left 2
   focus
    intro wz S
    (with_reducible apply hard_of);(case hi=>rfl)
    simp only [cons_append,nil_append] at S
    go_wp2_with first | ((with_reducible refine tot_done ?ht ?_);(case ht=>kernel_rfl)) | ((with_reducible apply wps_loada (T:=56) (k:=7) S 2);(case hx|hi=>rfl);(case hk=>exact nle rfl);(case hT=>decide +kernel))
    refine ⟨_,S,?_⟩
    clear S
    (with_reducible apply W_hard1 (i:=0));(case hn=>rfl);(case hr=>decide +kernel)
    intro wz S
    (with_reducible apply hard_of);(case hi=>rfl)
    simp only [cons_append,nil_append] at S
    go_wp2_with first | ((with_reducible refine tot_done ?ht ?_);(case ht=>kernel_rfl)) | ((with_reducible apply wps_loada (T:=54) (k:=4) S 1);(case hx|hi=>rfl);(case hk=>exact nle rfl);(case hT=>decide +kernel))
    refine ⟨_,S,?_⟩
    clear S
    (with_reducible apply W_hard1 (i:=3));(case hn=>rfl);(case hr=>decide +kernel)
    intro wz S
    (with_reducible apply hard_of);(case hi=>rfl)
    simp only [cons_append,nil_append] at S
    go_wp2_with first | ((with_reducible apply wps_storea (T:=54) S 1 (vs:=[.int .i64 r.key.at_,.int .i64 r.key.src,.int .i64 r.key.sent,.int .i64 r.key.no]) (m:=4));(case hx|hy|hi|hm|h1=>rfl);(case hn=>exact nle rfl);(case hT=>decide +kernel);clear S;intro wz S;simp only [set_cons_zero,set_cons_succ,setAll,setIfInBounds_toArray] at S) | ((with_reducible refine tot_done ?ht ?_);(case ht=>kernel_rfl))
    refine ⟨_,S,?_⟩
    clear S
    (with_reducible apply W_hard1 (i:=4));(case hn=>rfl);(case hr=>decide +kernel)
    intro wz S
    (with_reducible apply hard_of);(case hi=>rfl)
    simp only [cons_append,nil_append] at S
    go_wp2_with first | ((with_reducible apply wps_storea (T:=56) S 2 (vs:=[.int .i64 r.v.key.at_,.int .i64 r.v.key.src,.int .i64 r.v.key.sent,.int .i64 r.v.key.no,.int .i64 r.v.dst,.int .i64 r.v.kind,.int .i64 r.v.data]) (m:=7));(case hx|hy|hi|hm|h1=>rfl);(case hn=>exact nle rfl);(case hT=>decide +kernel);clear S;intro wz S;simp only [set_cons_zero,set_cons_succ,setAll,setIfInBounds_toArray] at S) | ((with_reducible refine tot_done ?ht ?_);(case ht=>kernel_rfl))
    refine ⟨_,S,?_⟩
    clear S
    (refine W_mid (f:=0) (soft:=[5]) rfl ?hB ?_);(case hB=>decide +kernel)
    iterate 1
     (with_reducible apply softs_cons)
     (case hw=>
       (with_reducible apply soft_of);(case hi=>rfl)
       intro T wz S
       simp only [cons_append,nil_append] at S
       go_wp2_with first | ((with_reducible refine tot_done ?ht ?_);(case ht=>kernel_rfl))
       exact ⟨rfl,S⟩)
     (case hs=>exact ⟨_,rfl,by kernel_rfl⟩)
    refine softs_nil ?_
    (with_reducible apply W_done);(case hn=>rfl);(case hr=>decide +kernel)
    intro wz S
    repeat (first | simp only at S | simp only [pick] at S | simp only [nth] at S | simp only [set_cons_succ] at S | simp only [set_cons_zero] at S | simp only [setIfInBounds_toArray] at S | simp only [setAll] at S | simp only [cons_append] at S | simp only [nil_append] at S | simp only [List.append_nil] at S)
   all_goals
    go_wp2_with first | ((with_reducible apply wps_loada (T:=56) (k:=7) S 3);(case hx|hi=>rfl);(case hk=>exact nle rfl);(case hT=>decide +kernel))
    (try simp only [Exit.inBlock,Exit.then]);refine bodyPost_ret (results3 rfl (S.resA 1 rfl rfl (by kernel_rfl)) (S.resA 2 rfl rfl (by kernel_rfl)) (res_tmp rfl)) rfl ?_
    exact ⟨rfl,S.pick [0] rfl⟩
theorem hpop_cons (B : Nat) (r : Row) (s : List Row) (w : World) (F : Nat → Prop) (h : (heapA B (r :: s)).at_ w F) (hs : HSorted (r :: s)) (hmax : (r :: s).length ≤ 4294967296) :
 Calls Tryz.prog 123 #[.pointer (some ⟨B,0,none⟩)] w fun e w'=>e = .returned (.tuple #[.agg #[.int .i64 r.key.at_,.int .i64 r.key.src,.int .i64 r.key.sent,.int .i64 r.key.no],.agg #[.int .i64 r.v.key.at_,.int .i64 r.v.key.src,.int .i64 r.v.key.sent,.int .i64 r.v.key.no,.int .i64 r.v.dst,.int .i64 r.v.kind,.int .i64 r.v.data],.int .i64 0]) ∧ St F w w' [heapA B s]:=hpop_calls B (r :: s) w F h hs hmax
def tE (x : Thing) : List Value:=(#[.int .i64 x.key.at_,.int .i64 x.key.src,.int .i64 x.key.sent,.int .i64 x.key.no,.int .i64 x.dst,.int .i64 x.kind,.int .i64 x.data]).toList
theorem tElen : ∀ x,(tE x).length = 7:=fun _=>rfl
theorem tEone : ∀ x,∀ u ∈ tE x,u.oneCell' = true:=fun x u hu=>by simp only [tE,List.mem_cons,List.not_mem_nil,or_false] at hu;rcases hu with rfl | rfl | rfl | rfl | rfl | rfl | rfl <;> rfl
theorem elem_Tg : Elem Tryz.prog 48 56 7 56:=⟨_,.agg #[.int .i64 0,.int .i64 0,.int .i64 0,.int .i64 0,.int .i64 0,.int .i64 0,.int .i64 0],Tryz.underlying48,rfl,by kernel_rfl,by kernel_rfl,by kernel_rfl,by kernel_rfl,by omega⟩
def same_at (t : Int) (r : Row) : Bool:=r.key.at_ == t
def slen : Value → Nat
 | .slice _ n _=>n
 | _=>0
def BatchRel (F : Nat → Prop) (B b5 : Nat) (kc : Array Value) (t : Int) (s : List Row) (w : World) (m : Value) (wr : World) : Prop:=
 ∃ rs rest,Hid (s.takeWhile (same_at t) = rs ++ rest.takeWhile (same_at t)) ∧ Hid (s.dropWhile (same_at t) = rest.dropWhile (same_at t)) ∧ rs.length + rest.length = s.length ∧ Hid (HSorted rest) ∧
  St F w wr [heapA B rest,Own 56 tE 7 m (rs.map (·.v)),Blk false b5 kc 54]
def BatchPost (F : Nat → Prop) (B : Nat) (t : Int) (s : List Row) (w : World) (e : Ending) (w' : World) : Prop:=
 ∃ v,e = .returned (.tuple #[.int .i64 t,v,.int .i64 0]) ∧ St F w w' [heapA B (s.dropWhile (same_at t)),Own 56 tE 7 v ((s.takeWhile (same_at t)).map (·.v))]
theorem hbatch_some (B : Nat) (r : Row) (s : List Row) (w : World) (F : Nat → Prop) (h : (heapA B (r :: s)).at_ w F) (hs : HSorted (r :: s)) (hmax : (r :: s).length ≤ 4294967296) :
 Calls Tryz.prog 104 #[.pointer (some ⟨B,0,none⟩)] w (BatchPost F B r.key.at_ (r :: s) w):=by
 have S:=St.one w h
 clear h
 have Hs:=Lib.hid hs
 clear hs
 go_enter Tryz.func104,Tryz.ntmps104
 go_wp2_with first | ((with_reducible apply wps_alloca (E:=54) S);(case hz=>exact Tryz.zeroValue54);clear S;intro kb wz S) | (go_at_call 103;refine Calls.mono (hfirst_cons _ _ _ _ _ (S.get (i:=0) rfl).choose_spec) ?_;rintro e wz ⟨rfl,hE⟩;replace S:=S.ext (Keep.of_below hE);clear hE) | ((with_reducible apply wps_storea (T:=54) S 1 (vs:=[.int .i64 r.key.at_,.int .i64 r.key.src,.int .i64 r.key.sent,.int .i64 r.key.no]) (m:=4));(case hx|hy|hi|hm|h1=>rfl);(case hn=>exact nle rfl);(case hT=>decide +kernel);clear S;intro wz S;simp only [set_cons_zero,set_cons_succ,setAll,setIfInBounds_toArray] at S) | ((with_reducible apply wps_storea (T:=56) S 0 (vs:=[.int .i64 r.v.key.at_,.int .i64 r.v.key.src,.int .i64 r.v.key.sent,.int .i64 r.v.key.no,.int .i64 r.v.dst,.int .i64 r.v.kind,.int .i64 r.v.data]) (m:=7));(case hx|hy|hi|hm|h1=>rfl);(case hn=>exact nle rfl);(case hT=>decide +kernel);clear S;intro wz S;simp only [set_cons_zero,set_cons_succ,setAll,setIfInBounds_toArray] at S) | ((with_reducible apply wps_alloca (E:=56) S);(case hz=>exact Tryz.zeroValue56);clear S;intro bz wz S)
 generalize hl0 : r :: s = l at *
 go_loopw [3] (fun m wr=>BatchRel F B kb #[.int .i64 r.key.at_,.int .i64 r.key.src,.int .i64 r.key.sent,.int .i64 r.key.no] r.key.at_ l w m wr) (fun m _=>l.length - slen m)
 case atStart=>exact ⟨[],l,rfl,rfl,by simp,Hs,((S.nil 56 tE 7).pick [3,0,2] rfl)⟩
 case round=>
  clear S
  obtain ⟨rs,rest,Htw,Hdw,hlen,Hsr,S⟩:=hrel
  obtain ⟨M,v,rows,ho,hp,hsr,S2⟩:=heap_open S
  clear S
  have S:=S2
  clear S2
  obtain ⟨ad,cp,rfl,_⟩:=(S.ownsl hcells 1 rfl).elim fun _ h=>h.form
  obtain ⟨am,cm,rfl,_⟩:=(S.ownsl tElen 3 rfl).elim fun _ h=>h.form
  have hpl:=hp.length_eq
  simp only [List.length_map] at S ⊢
  cases rest with
  | nil=>
    obtain rfl : rows = []:=hp.eq_nil
    have h00 : decide ((0 : Int) < ([] : List Row).length) = false:=by simp
    go_wp2_with first | ((with_reducible refine tot_done ?ht ?_);(case ht=>kernel_rfl)) | ((with_reducible apply wps_text S);(case hm=>kernel_rfl);(case hB=>decide +kernel);clear S;intro wz S) | ((with_reducible apply wps_load S 2);(case hx|hi|hu=>rfl);(case hT=>decide +kernel)) | ((with_reducible apply wps_load S 4);(case hx|hi|hu=>rfl);(case hT=>decide +kernel))
    (try simp only [Exit.inBlock,Exit.then]);refine bodyPost_ret (results3 rfl (res_tmp rfl) (res_tmp rfl) (res_tmp rfl)) rfl ?_
    refine ⟨_,rfl,?_⟩
    rw [Hdw.out,Htw.out]
    simp only [List.takeWhile_nil,List.dropWhile_nil,List.append_nil]
    exact (heap_close S ho hp hsr).pick [0,1] rfl
  | cons r' rest=>
    have hh : rows[0]? = some r':=by
     obtain ⟨m,hm⟩ : ∃ m,rows[0]? = some m:=⟨_,List.getElem?_eq_getElem (by rw [hpl];simp)⟩
     have:=head_of ho hp hsr hm
     rw [hm];exact this.symm
    have hpos : (0 : Int) < rows.length:=by rw [hpl];simp
    have hpos2 : 0 < rows.length:=by rw [hpl];simp
    obtain ⟨R,cp2,e,_⟩:=own_head 1 S rfl hpos2
    simp only [Value.slice.injEq] at e
    obtain ⟨rfl,_,rfl⟩:=e
    have Hh:=Lib.hid hh
    clear hh
    cases hat : (r'.key.at_ == r.key.at_) with
    | false=>
      go_wp2_with first | ((with_reducible apply wps_load_own hcells S 1 (hj:=Hh.out) (q:=0) (u:=.int .i64 r'.key.at_));(case hx|hi=>rfl);(case hn=>omega);(case hu=>rfl);(case hT=>decide +kernel)) | ((with_reducible refine tot_done ?ht ?_);(case ht=>kernel_rfl)) | ((with_reducible apply wps_text S);(case hm=>kernel_rfl);(case hB=>decide +kernel);clear S;intro wz S) | ((with_reducible apply wps_load S 2);(case hx|hi|hu=>rfl);(case hT=>decide +kernel)) | ((with_reducible apply wps_load S 4);(case hx|hi|hu=>rfl);(case hT=>decide +kernel))
      (try simp only [Exit.inBlock,Exit.then]);refine bodyPost_ret (results3 rfl (res_tmp rfl) (res_tmp rfl) (res_tmp rfl)) rfl ?_
      refine ⟨_,rfl,?_⟩
      rw [Hdw.out,Htw.out]
      have e1 : (r' :: rest).takeWhile (same_at r.key.at_) = []:=by rw [List.takeWhile_cons,if_neg (by simp [same_at,hat])]
      have e2 : (r' :: rest).dropWhile (same_at r.key.at_) = r' :: rest:=by rw [List.dropWhile_cons,if_neg (by simp [same_at,hat])]
      rw [e1,e2,List.append_nil]
      exact (heap_close S ho hp hsr).pick [0,1] rfl
    | true=>
      have Ho:=Lib.hid ho
      have Hp:=Lib.hid hp
      have Hsr:=Lib.hid hsr
      have Hpl:=Lib.hid hpl
      clear ho hp hsr hpl
      go_upto_region 5 with first | ((with_reducible apply wps_text S);(case hm=>kernel_rfl);(case hB=>decide +kernel);clear S;intro wz S) | ((with_reducible refine tot_done ?ht ?_);(case ht=>kernel_rfl)) | ((with_reducible apply wps_load_own hcells S 1 (hj:=Hh.out) (q:=0) (u:=.int .i64 r'.key.at_));(case hx|hi=>rfl);(case hn=>omega);(case hu=>rfl);(case hT=>decide +kernel)) | ((with_reducible apply wps_load S 2);(case hx|hi|hu=>rfl);(case hT=>decide +kernel)) | ((with_reducible apply wps_load S 4);(case hx|hi|hu=>rfl);(case hT=>decide +kernel))
      replace S:=heap_close S Ho.out Hp.out Hsr.out
      have hsr2 : HSorted rest:=(List.pairwise_cons.1 Hsr.out).2
      have hle : (r' :: rest).length ≤ 4294967296:=by omega
      have hlr : (rs.map (·.v)).length < 4294967296:=by simp at hlen ⊢;omega
      go_wp2_with first | (go_at_call 123;obtain ⟨Fz,hF,hBk⟩:=S.lend1 0 rfl rfl;refine Calls.mono (hpop_cons _ _ _ _ _ hF Hsr.out hle) ?_;rintro e wz ⟨rfl,T⟩;replace S:=hBk _ _ rfl T;clear hBk hF T;simp only [set_cons_zero] at S) | ((with_reducible apply wps_storea (T:=54) S 1 (vs:=[.int .i64 r'.key.at_,.int .i64 r'.key.src,.int .i64 r'.key.sent,.int .i64 r'.key.no]) (m:=4));(case hx|hy|hi|hm|h1=>rfl);(case hn=>exact nle rfl);(case hT=>decide +kernel);clear S;intro wz S;simp only [set_cons_zero,set_cons_succ,setAll,setIfInBounds_toArray] at S) | ((with_reducible apply wps_storea (T:=56) S 0 (vs:=[.int .i64 r'.v.key.at_,.int .i64 r'.v.key.src,.int .i64 r'.v.key.sent,.int .i64 r'.v.key.no,.int .i64 r'.v.dst,.int .i64 r'.v.kind,.int .i64 r'.v.data]) (m:=7));(case hx|hy|hi|hm|h1=>rfl);(case hn=>exact nle rfl);(case hT=>decide +kernel);clear S;intro wz S;simp only [set_cons_zero,set_cons_succ,setAll,setIfInBounds_toArray] at S) | ((with_reducible apply wps_build1a (T:=48) (E:=56) S);(case hx=>rfl);(case hr=>intro w;kernel_rfl);clear S;intro bz wz S) | ((with_reducible apply wps_append1 elem_Tg tElen tEone (by decide) S 4 (j:=0) (e:=r'.v));(case hx|hy|hi|hj|he=>rfl);(case hl=>first | omega | (simp;omega));clear S;intro az nz cz wz hnz S;simp only [set_cons_succ,set_cons_zero] at S) | ((with_reducible apply wps_alloca (E:=54) S);(case hz=>exact Tryz.zeroValue54);clear S;intro bz wz S) | ((with_reducible apply wps_alloca (E:=56) S);(case hz=>exact Tryz.zeroValue56);clear S;intro bz wz S) | ((with_reducible apply wps_loada (T:=56) (k:=7) S 0);(case hx|hi=>rfl);(case hk=>exact nle rfl);(case hT=>decide +kernel))
      go_roundw
      case rel=>
       refine ⟨rs ++ [r'],rest,?_,?_,by simp at hlen ⊢;omega,hsr2,?_⟩
       · rw [Htw.out,List.takeWhile_cons,if_pos (by simpa [same_at] using hat)];simp [Hid]
       · rw [Hdw.out,List.dropWhile_cons,if_pos (by simpa [same_at] using hat)];rfl
       · rw [List.map_append];exact S.pick [3,4,5] rfl
      case measure=>have h1:=hnz.out;rw [List.length_map] at h1;have h2 : (r' :: rest).length = rest.length + 1:=rfl;simp only [slen];omega
end Go.Proofs.YtcnfionnnpnplaaGreatDoor
