import Derived.Test.YtmjljoaakdocaaaGreatDoorY25
import Derived.Test.YtmjljoaakdocaaaGreatDoorY23
import Derived.RecoverIn
import Derived.Deep.Cut
import Derived.Test.YtmjljoaakdocaaaGreatDoorY24
/- The walk of a kernel's New, where its configuration may not be. -/
set_option maxHeartbeats 16000000
set_option maxRecDepth 100000
namespace Go.Proofs.YtmjljoaakdocaaaGreatDoor
open Go Go.RowKit Reg Mem
open List (set_cons_succ set_cons_zero setIfInBounds_toArray cons_append nil_append)
theorem mnew_no (workers : Int) (h1 : ¬ (1 ≤ workers ∧ workers ≤ 8)) (w : World) : Calls Tryz.prog 24 #[.int .i64 workers] w fun e w'=>e = .returned (.tuple #[.pointer none,.int .i64 1]) ∧ Below w.heap.size w w':=by
 refine (mnewM_calls workers w).mono ?_
 rintro e w' (⟨_,h⟩ | ⟨h,_⟩)
 · exact h
 · exact absurd h h1
theorem wnew_no (R : Nat) (id workers every : Int) (lazy : Bool) (h1 : 1 ≤ workers) (h2 : workers ≤ 8) (h3 : 0 ≤ id) (h4 : id < workers) (h5 : every < 1) (w : World) :
 Calls Tryz.prog 25 #[.pointer (some ⟨R,0,none⟩),.int .i64 id,.int .i64 workers,.int .i64 every,.bool lazy] w fun e w'=>e = .returned (.tuple #[.pointer none,.int .i64 1]) ∧ Below w.heap.size w w':=by
 have S:=St.init (fun _=>False) w
 have f1 : decide (workers < 1) = false:=decide_eq_false (by omega)
 have f2 : decide (workers > 8) = false:=decide_eq_false (by omega)
 have f3 : decide (id < 0) = false:=decide_eq_false (by omega)
 have f4 : decide (id ≥ workers) = false:=decide_eq_false (by omega)
 have f5 : decide (every < 1) = true:=decide_eq_true h5
 clear h1 h2 h3 h4 h5
 go_enter Tryz.func25,Tryz.ntmps25
 go_wp2_with first | ((with_reducible apply wps_loada (T:=58) (k:=7) S 0);(case hx|hi=>rfl);(case hk=>exact nle rfl);(case hT=>decide +kernel))
 (try simp only [Exit.inBlock,Exit.then]);refine bodyPost_ret (results2 rfl (res_tmp rfl) (res_tmp rfl)) rfl ?_
 exact ⟨rfl,S.below⟩
def KBad (w : World) (e : Ending) (w' : World) : Prop:=e = .returned (.tuple #[.pointer none,.int .i64 1]) ∧ Below w.heap.size w w'
theorem knew_win (R : Nat) (vs hs : List Value) (c : Cfg) (d : KcE) (hw : d.window < 0) (w : World) (F : Nat → Prop) (h : (ModA true 110 R vs hs c).at_ w F) :
 Calls Tryz.prog 6 #[.pointer (some ⟨R,0,none⟩),.agg #[.int .i64 d.workers,.int .i64 d.every,.bool d.lazy,.int .i64 d.window,.int .i64 d.room,.int .i64 d.res]] w (KBad w):=by
 have S : St (fun _=>False) w w [ModA true 110 R vs hs c]:=(St.init _ w).share rfl rfl h
 clear h
 have f1 : decide (d.window < 0) = true:=decide_eq_true hw
 go_enter Tryz.func6,Tryz.ntmps6
 go_wp2_with first | ((with_reducible apply wps_boxa (E:=29) S);(case hx=>rfl);clear S;intro b3 wz S) | ((with_reducible apply wps_load S 0);(case hx|hi|hu=>rfl);(case hT=>decide +kernel))
 (try simp only [Exit.inBlock,Exit.then]);refine bodyPost_ret (results2 rfl (res_tmp rfl) (res_tmp rfl)) rfl ?_
 exact ⟨rfl,S.below⟩
theorem knew_args (R : Nat) (vs hs : List Value) (c : Cfg) (d : KcE) (hwin : 0 ≤ d.window) (hb : ¬ (1 ≤ d.workers ∧ d.workers ≤ 8)) (w : World) (F : Nat → Prop) (h : (ModA true 110 R vs hs c).at_ w F) :
 Calls Tryz.prog 6 #[.pointer (some ⟨R,0,none⟩),.agg #[.int .i64 d.workers,.int .i64 d.every,.bool d.lazy,.int .i64 d.window,.int .i64 d.room,.int .i64 d.res]] w (KBad w):=by
 have S : St (fun _=>False) w w [ModA true 110 R vs hs c]:=(St.init _ w).share rfl rfl h
 clear h
 have f1 : decide (d.window < 0) = false:=decide_eq_false (by omega)
 have HMN:=Lib.hid (mnew_no d.workers hb)
 clear hb hwin
 go_enter Tryz.func6,Tryz.ntmps6
 go_upto_region 5 with first | ((with_reducible apply wps_boxa (E:=29) S);(case hx=>rfl);clear S;intro b3 wz S) | ((with_reducible apply wps_load S 0);(case hx|hi|hu=>rfl);(case hT=>decide +kernel))
 (refine wp_region_w (soft:=[0,1,2]) S ?hm ?hB ?_);(case hm=>kernel_rfl);(case hB=>decide +kernel);clear S
 iterate 3
  (with_reducible apply softs_cons)
  (case hw=>
    (with_reducible apply soft_of);(case hi=>rfl)
    intro T wz S
    simp only [cons_append,nil_append] at S
    go_wp2_with first | ((with_reducible apply wps_load S 0);(case hx|hi|hu=>rfl);(case hT=>decide +kernel)) | ((with_reducible refine tot_done ?ht ?_);(case ht=>kernel_rfl))
    exact ⟨rfl,S⟩)
  (case hs=>exact ⟨_,rfl,by kernel_rfl⟩)
 refine softs_nil ?_
 (with_reducible apply W_hard1 (i:=3));(case hn=>rfl);(case hr=>decide +kernel)
 intro wz S
 (with_reducible apply hard_of);(case hi=>rfl)
 simp only [cons_append,nil_append] at S
 go_wp2_with first | (go_at_call 23;refine Calls.mono (fan_calls R vs hs c _ _ (S.get (i:=1) rfl).choose_spec) ?_;rintro e wz ⟨rfl,hE⟩;replace S:=S.ext (Keep.of_below hE);clear hE) | ((with_reducible refine tot_done ?ht ?_);(case ht=>kernel_rfl))
 refine ⟨_,S,?_⟩
 clear S
 (refine W_mid (f:=2) (soft:=[4]) rfl ?hB ?_);(case hB=>decide +kernel)
 iterate 1
  (with_reducible apply softs_cons)
  (case hw=>
    (with_reducible apply soft_of);(case hi=>rfl)
    intro T wz S
    simp only [cons_append,nil_append] at S
    go_wp2_with first | ((with_reducible refine tot_done ?ht ?_);(case ht=>kernel_rfl))
    exact ⟨rfl,S⟩)
  (case hs=>exact ⟨_,rfl,by kernel_rfl⟩)
 refine softs_nil ?_
 (with_reducible apply W_hard1 (i:=5));(case hn=>rfl);(case hr=>decide +kernel)
 intro wz S
 (with_reducible apply hard_of);(case hi=>rfl)
 simp only [cons_append,nil_append] at S
 go_wp2_with first | ((with_reducible apply wps_boxa (E:=65) S);(case hx=>rfl);clear S;intro bX wz S) | ((with_reducible refine tot_done ?ht ?_);(case ht=>kernel_rfl))
 refine ⟨_,S.pick [1,2,0] rfl,?_⟩
 clear S
 (refine W_mid (f:=0) (soft:=[6]) rfl ?hB ?_);(case hB=>decide +kernel)
 iterate 1
  (with_reducible apply softs_cons)
  (case hw=>
    (with_reducible apply soft_of);(case hi=>rfl)
    intro T wz S
    simp only [cons_append,nil_append] at S
    go_wp2_with first | ((with_reducible refine tot_done ?ht ?_);(case ht=>kernel_rfl))
    exact ⟨rfl,S⟩)
  (case hs=>exact ⟨_,rfl,by kernel_rfl⟩)
 refine softs_nil ?_
 (with_reducible apply W_done);(case hn=>rfl);(case hr=>decide +kernel)
 intro wz S
 repeat (first | simp only at S | simp only [pick] at S | simp only [nth] at S | simp only [set_cons_succ] at S | simp only [set_cons_zero] at S | simp only [setIfInBounds_toArray] at S | simp only [setAll] at S | simp only [cons_append] at S | simp only [nil_append] at S | simp only [List.append_nil] at S)
 all_goals
  go_wp2_with first | ((with_reducible apply wps_load S 0);(case hx|hi|hu=>rfl);(case hT=>decide +kernel)) | (go_at_call 24;refine Calls.mono (HMN.out _) ?_;rintro rr wz ⟨rfl,hE⟩;replace S:=S.ext (Keep.of_below hE);clear hE) | ((with_reducible apply wps_store (u:=(.pointer none)) S 2);(case hx|hy|hi|h1=>rfl);(case hn=>exact nle rfl);(case hT=>decide +kernel);clear S;intro wz S;simp only [set_cons_succ,set_cons_zero,setIfInBounds_toArray] at S)
  (try simp only [Exit.inBlock,Exit.then]);refine bodyPost_ret (results2 rfl (res_tmp rfl) (res_tmp rfl)) rfl ?_
  exact ⟨rfl,S.below⟩
def KeRel (Ma b3 bX R : Nat) (vs hs : List Value) (c : Cfg) (d : KcE) (w : World) (i : Value) (wr : World) : Prop:=
 i = .int .i64 0 ∧ St (fun _=>False) w wr [masterA Ma (newMa d.workers),Blk false b3 #[.int .i64 d.workers,.int .i64 d.every,.bool d.lazy,.int .i64 d.window,.int .i64 d.room,.int .i64 d.res] 29,ModA true 110 R vs hs c,
  Blk false bX #[.pointer none,.slice none 0 0,.pointer none,.pointer (some ⟨Ma,0,none⟩),.pointer none,.int .i64 d.window,.int .i64 c.fan,.bool false] 65]
theorem knew_every (R : Nat) (vs hs : List Value) (c : Cfg) (d : KcE) (hwin : 0 ≤ d.window) (hw1 : 1 ≤ d.workers) (hw8 : d.workers ≤ 8) (hev : d.every < 1) (w : World) (F : Nat → Prop) (h : (ModA true 110 R vs hs c).at_ w F) :
 Calls Tryz.prog 6 #[.pointer (some ⟨R,0,none⟩),.agg #[.int .i64 d.workers,.int .i64 d.every,.bool d.lazy,.int .i64 d.window,.int .i64 d.room,.int .i64 d.res]] w (KBad w):=by
 have S : St (fun _=>False) w w [ModA true 110 R vs hs c]:=(St.init _ w).share rfl rfl h
 clear h
 have f1 : decide (d.window < 0) = false:=decide_eq_false (by omega)
 have f2 : decide (0 < d.workers) = true:=decide_eq_true (by omega)
 have HMN:=Lib.hid (mnew_ok d.workers hw1 hw8)
 have HWN:=Lib.hid fun w=>wnew_no R 0 d.workers d.every d.lazy hw1 hw8 (by omega) (by omega) hev w
 clear hw1 hw8 hev hwin
 go_enter Tryz.func6,Tryz.ntmps6
 go_upto_region 5 with first | ((with_reducible apply wps_boxa (E:=29) S);(case hx=>rfl);clear S;intro b3 wz S) | ((with_reducible apply wps_load S 0);(case hx|hi|hu=>rfl);(case hT=>decide +kernel))
 (refine wp_region_w (soft:=[0,1,2]) S ?hm ?hB ?_);(case hm=>kernel_rfl);(case hB=>decide +kernel);clear S
 iterate 3
  (with_reducible apply softs_cons)
  (case hw=>
    (with_reducible apply soft_of);(case hi=>rfl)
    intro T wz S
    simp only [cons_append,nil_append] at S
    go_wp2_with first | ((with_reducible apply wps_load S 0);(case hx|hi|hu=>rfl);(case hT=>decide +kernel)) | ((with_reducible refine tot_done ?ht ?_);(case ht=>kernel_rfl))
    exact ⟨rfl,S⟩)
  (case hs=>exact ⟨_,rfl,by kernel_rfl⟩)
 refine softs_nil ?_
 (with_reducible apply W_hard1 (i:=3));(case hn=>rfl);(case hr=>decide +kernel)
 intro wz S
 (with_reducible apply hard_of);(case hi=>rfl)
 simp only [cons_append,nil_append] at S
 go_wp2_with first | (go_at_call 23;refine Calls.mono (fan_calls R vs hs c _ _ (S.get (i:=1) rfl).choose_spec) ?_;rintro e wz ⟨rfl,hE⟩;replace S:=S.ext (Keep.of_below hE);clear hE) | ((with_reducible refine tot_done ?ht ?_);(case ht=>kernel_rfl))
 refine ⟨_,S,?_⟩
 clear S
 (refine W_mid (f:=2) (soft:=[4]) rfl ?hB ?_);(case hB=>decide +kernel)
 iterate 1
  (with_reducible apply softs_cons)
  (case hw=>
    (with_reducible apply soft_of);(case hi=>rfl)
    intro T wz S
    simp only [cons_append,nil_append] at S
    go_wp2_with first | ((with_reducible refine tot_done ?ht ?_);(case ht=>kernel_rfl))
    exact ⟨rfl,S⟩)
  (case hs=>exact ⟨_,rfl,by kernel_rfl⟩)
 refine softs_nil ?_
 (with_reducible apply W_hard1 (i:=5));(case hn=>rfl);(case hr=>decide +kernel)
 intro wz S
 (with_reducible apply hard_of);(case hi=>rfl)
 simp only [cons_append,nil_append] at S
 go_wp2_with first | ((with_reducible apply wps_boxa (E:=65) S);(case hx=>rfl);clear S;intro bX wz S) | ((with_reducible refine tot_done ?ht ?_);(case ht=>kernel_rfl))
 refine ⟨_,S.pick [1,2,0] rfl,?_⟩
 clear S
 (refine W_mid (f:=0) (soft:=[6]) rfl ?hB ?_);(case hB=>decide +kernel)
 iterate 1
  (with_reducible apply softs_cons)
  (case hw=>
    (with_reducible apply soft_of);(case hi=>rfl)
    intro T wz S
    simp only [cons_append,nil_append] at S
    go_wp2_with first | ((with_reducible refine tot_done ?ht ?_);(case ht=>kernel_rfl))
    exact ⟨rfl,S⟩)
  (case hs=>exact ⟨_,rfl,by kernel_rfl⟩)
 refine softs_nil ?_
 (with_reducible apply W_done);(case hn=>rfl);(case hr=>decide +kernel)
 intro wz S
 repeat (first | simp only at S | simp only [pick] at S | simp only [nth] at S | simp only [set_cons_succ] at S | simp only [set_cons_zero] at S | simp only [setIfInBounds_toArray] at S | simp only [setAll] at S | simp only [cons_append] at S | simp only [nil_append] at S | simp only [List.append_nil] at S)
 all_goals
  go_wp2_with first | ((with_reducible apply wps_load S 0);(case hx|hi|hu=>rfl);(case hT=>decide +kernel)) | (go_at_call 24;refine Calls.mono (HMN.out _) ?_;rintro rr wz ⟨Ma,rfl,T⟩;replace S:=S.join T rfl;clear T;simp only [cons_append,nil_append] at S) | ((with_reducible apply wps_store (u:=(.pointer (some ⟨Ma,0,none⟩))) S 3);(case hx|hy|hi|h1=>rfl);(case hn=>exact nle rfl);(case hT=>decide +kernel);clear S;intro wz S;simp only [set_cons_succ,set_cons_zero,setIfInBounds_toArray] at S) | ((with_reducible apply wps_load S 1);(case hx|hi|hu=>rfl);(case hT=>decide +kernel))
  first
   | replace S:=S.pick [0,2,3,1] rfl
     simp only [pick,nth] at S
     go_loopw [36] (fun i wr=>KeRel Ma b3 bX R vs hs c d w i wr) (fun i _=>0)
     case atStart=>exact ⟨rfl,S⟩
   | replace S:=S.pick [0,1,2,3] rfl
     simp only [pick,nth] at S
     go_loopw [36] (fun i wr=>KeRel Ma b3 bX R vs hs c d w i wr) (fun i _=>0)
     case atStart=>exact ⟨rfl,S⟩
  case round=>
   clear S
   obtain ⟨rfl,S⟩:=hrel
   go_wp2_with first | ((with_reducible apply wps_load S 1);(case hx|hi|hu=>rfl);(case hT=>decide +kernel)) | (go_at_call 25;refine Calls.mono (HWN.out _) ?_;rintro rr wz ⟨rfl,hE⟩;replace S:=S.ext (Keep.of_below hE);clear hE)
   (try simp only [Exit.inBlock,Exit.then]);refine bodyPost_ret (results2 rfl (res_tmp rfl) (res_tmp rfl)) rfl ?_
   exact ⟨rfl,S.below⟩
end Go.Proofs.YtmjljoaakdocaaaGreatDoor
/- The walk of the net's Least (a deferred closure that recovers), where nothing is on its way. -/
namespace Go.Proofs.YtmjljoaakdocaaaGreatDoor
open Go Go.RowKit Reg Mem
open List (set_cons_succ set_cons_zero setIfInBounds_toArray cons_append nil_append)
theorem idle_calls (p q : Value) (w : World) : CallsDIn Fence.wide 0 Tryz.prog 59 #[p,q] .returning w fun e u' w'=>e = .returned (.tuple #[]) ∧ u' = .returning ∧ w' = w:=by
 refine callsDIn_of_wpSIn Tryz.func59 rfl trivial fun c₀ cs hu=>?_
 apply wpSIn_seq
 apply wpSIn_region
 simp [wpOpsSIn,go_sem,recoverD,hu,Tryz.ntmps59,Exit.thenS,Fence.wide]
 refine wpSIn_cond (t:=false) (by simp [Act.eval,Array.replicate]) ?_
 simp only [Bool.false_eq_true,if_false]
 refine wpSIn_of_wpIn rfl (wpIn_skip ?_)
 cases c₀
 simp_all [bodyPostS,results,Tryz.results59]
section
variable {P : Program} {G : Nat → Prop} {w0 w : World} {L : List Asn} {fn : Func} {a : Act} {R : Ending → World → Prop}
theorem leaves_ret1c {D : Nat} {f : FuncId} {cap : Array Value} (S : St G w0 w (DefA D :: L)) (hd : a.defers = [{ target:=.collected D,args:=#[] },{ target:=.fn (.func f) cap,args:=#[] }])
 (hi : ∀ w,(invoke (.fn (.func f) cap) #[]).run P w = .ok (.enter f cap) w) (hc : ∀ w,CallsDIn Fence.wide 0 P f cap .returning w fun e u' w'=>e = .returned (.tuple #[]) ∧ u' = .returning ∧ w' = w)
 (h : ∀ w',St G w0 w' L → ∃ v,(results fn a.tmps).run P w' = .ok v w' ∧ R (.returned v) w') : bodyPostM Fence.wide 0 P fn R .ret a w:=by
 show LeavesInM _ _ _ _ _ _ a.defers _ _
 rw [hd]
 refine ⟨by simp,.inl ⟨D,_,rfl,run_takeDeferred S.taken.1,by simp,.inr ⟨fun h=>by simp [Fence.wide] at h,.func f,cap,f,cap,rfl,hi _,fun _ _=>trivial,?_⟩⟩⟩
 refine ⟨trivial,fun c cs hm hr=>?_⟩
 obtain ⟨e,u',w',fr,⟨rfl,rfl,rfl⟩,h2,h3⟩:=(hc _).2 c cs hm hr
 exact ⟨_,_,_,fr,h _ S.taken.2,h2,h3⟩
end
theorem netleast_none (X : Nat) (n : NetE) (v : Value) (hn : n.way = []) (w : World) (F F2 : Nat → Prop) (h1 : (Blk true X #[.int .i64 n.boxes,.int .i64 n.next,v] 147).at_ w F) (h2 : (Sl true pkcell 14 v n.way).at_ w F2) :
 Calls Tryz.prog 32 #[.pointer (some ⟨X,0,none⟩),.func (.func 33) #[] #[]] w fun e w'=>e = .returned (.tuple #[.int .i64 0,.bool false]) ∧ Below w.heap.size w w':=by
 have S : St (fun _=>False) w w [Blk true X #[.int .i64 n.boxes,.int .i64 n.next,v] 147,Sl true pkcell 14 v n.way]:=((St.init _ w).share (A:=Sl true pkcell 14 v n.way) rfl rfl h2).share (A:=Blk true X #[.int .i64 n.boxes,.int .i64 n.next,v] 147) rfl rfl h1
 have HA:=Lib.hid fun w F F2 h1 h2=>netall_calls X n v (by rw [hn];simp) w F F2 h1 h2
 clear h1 h2
 rw [hn] at HA S
 clear hn
 have hmf : ∀ (fn : Fn) (first cap : Array Value) (w : World),(Instr.makeFunc fn first cap).run Tryz.prog w = .ok (.func fn first cap) w:=fun _ _ _ _=>rfl
 have HEN:=Lib.hid (calls_enter Tryz.func59 (by kernel_rfl) rfl)
 have hne : ∀ w : World,(binOp BinOp.eql 95 (.func (.func 33) #[] #[]) .nilFunc).run Tryz.prog w = .ok (.bool false) w:=fun _=>by kernel_rfl
 refine calls_marks Tryz.func32 rfl ?_
 simp only [Tryz.ntmps32,List.size_toArray,List.length_cons,List.length_nil,Nat.reduceAdd,Nat.reduceSub,Array.replicate_succ,Array.replicate_zero,List.push_toArray,List.append_toArray,nil_append,cons_append]
 go_wp2_with first | ((with_reducible apply wps_box1 (v:=.func _ _ _) S);(case hx|h1=>rfl);clear S;intro b3 wz S) | ((with_reducible apply wps_alloc1 (E:=3) S);(case hz=>exact Tryz.zeroValue3);(case h1=>rfl);clear S;intro b4 wz S) | ((with_reducible apply wps_alloc1 (E:=4) S);(case hz=>exact Tryz.zeroValue4);(case h1=>rfl);clear S;intro b5 wz S) | ((with_reducible apply wps_load S 2);(case hx|hi|hu=>rfl);(case hT=>decide +kernel)) | (go_at_call 34;refine Calls.mono (HA.out _ _ _ (S.get (i:=3) rfl).choose_spec (S.get (i:=4) rfl).choose_spec) ?_;rintro rr wz ⟨bt,vt,rfl,T⟩;replace S:=S.join T rfl;clear T;simp only [cons_append,nil_append] at S)
 replace S:=S.weak (i:=0) (A':=Blk true bt #[vt] 145) rfl (fun e=>by cases e) (fun F h=>⟨F,fun _ hb=>hb,h⟩)
 simp only [set_cons_zero] at S
 replace S:=S.freeze true 1 pkcells rfl
 simp only [set_cons_zero,set_cons_succ] at S
 replace S:=S.pick [0,1,2,3] rfl
 simp only [pick,nth] at S
 refine wps_range (those1_iter bt vt [] (by simp)) S rfl (calls_enter Tryz.func102 (by kernel_rfl) rfl) (fun _ L=>L = [Blk false b5 #[.bool false] 4,Blk false b4 #[.int .i64 0] 3]) (fun _ _ _=>False) rfl (fun x args N h=>by obtain ⟨rfl,_⟩:=h;rfl) ?round ?done ?stop
 case stop=>intro _ _ _ _ _ _ h;exact h.elim
 case round=>intro _ _ _ _ _ _ _ _ _ hx;cases hx
 case done=>
  rintro D W L rfl S
  simp only [cons_append,nil_append] at S
  go_wp2_with first | ((with_reducible apply wps_load S 3);(case hx|hi|hu=>rfl);(case hT=>decide +kernel))
  replace S:=S.pick [0,3,4] rfl
  simp only [pick,nth] at S
  (refine wp_region_wt (soft:=[]) (L:=[_]) (T:=[_,_]) S ?hm ?hB ?_);(case hm=>kernel_rfl);(case hB=>decide +kernel);clear S
  iterate 0
   (with_reducible apply softs_cons)
   (case hw=>
     (with_reducible apply soft_of);(case hi=>rfl)
     intro T wz S
     simp only [cons_append,nil_append] at S
     go_wp2_with first | ((with_reducible apply wps_loada (T:=86) (k:=11) S 0);(case hx|hi=>rfl);(case hk=>exact nle rfl);(case hT=>decide +kernel))
     exact ⟨rfl,S⟩)
   (case hs=>exact ⟨_,rfl,by kernel_rfl⟩)
  refine softs_nil ?_
  (with_reducible apply W_hard2 (i:=0) (i':=1));(case hn=>rfl);(case hr=>decide +kernel)
  focus
   intro wz S
   (with_reducible apply hard_of);(case hi=>rfl)
   simp only [cons_append,nil_append] at S
   go_wp2_with first | ((with_reducible apply wps_load S 2);(case hx|hi|hu=>rfl);(case hT=>decide +kernel)) | ((with_reducible refine tot_done ?ht ?_);(case ht=>kernel_rfl))
   refine ⟨_,S,?_⟩
   clear S
   (with_reducible apply W_hard2 (i:=1) (i':=2));(case hn=>rfl);(case hr=>decide +kernel)
   focus
    intro wz S
    (with_reducible apply hard_of);(case hi=>rfl)
    simp only [cons_append,nil_append] at S
    go_wp2_with first | ((with_reducible apply wps_load S 1);(case hx|hi|hu=>rfl);(case hT=>decide +kernel)) | ((with_reducible refine tot_done ?ht ?_);(case ht=>kernel_rfl))
    refine ⟨_,S,?_⟩
    clear S
    (with_reducible apply W_hard1 (i:=2));(case hn=>rfl);(case hr=>decide +kernel)
    intro wz S
    (with_reducible apply hard_of);(case hi=>rfl)
    simp only [cons_append,nil_append] at S
    go_wp2_with first | ((with_reducible apply wps_store (u:=(.int .i64 0)) S 2);(case hx|hy|hi|h1=>rfl);(case hn=>exact nle rfl);(case hT=>decide +kernel);clear S;intro wz S;simp only [set_cons_succ,set_cons_zero,setIfInBounds_toArray] at S) | ((with_reducible refine tot_done ?ht ?_);(case ht=>kernel_rfl))
    refine ⟨_,S,?_⟩
    clear S
    (with_reducible apply W_hard1 (i:=3));(case hn=>rfl);(case hr=>decide +kernel)
    intro wz S
    (with_reducible apply hard_of);(case hi=>rfl)
    simp only [cons_append,nil_append] at S
    go_wp2_with first | ((with_reducible apply wps_store (u:=(.bool false)) S 1);(case hx|hy|hi|h1=>rfl);(case hn=>exact nle rfl);(case hT=>decide +kernel);clear S;intro wz S;simp only [set_cons_succ,set_cons_zero,setIfInBounds_toArray] at S) | ((with_reducible refine tot_done ?ht ?_);(case ht=>kernel_rfl))
    refine ⟨_,S,?_⟩
    clear S
    (with_reducible apply W_done);(case hn=>rfl);(case hr=>decide +kernel)
    intro wz S
    repeat (first | simp only at S | simp only [pick] at S | simp only [nth] at S | simp only [set_cons_succ] at S | simp only [set_cons_zero] at S | simp only [setIfInBounds_toArray] at S | simp only [setAll] at S | simp only [cons_append] at S | simp only [nil_append] at S | simp only [List.append_nil] at S)
   rotate_left 1
   focus
    intro wz S
    (with_reducible apply hard_of);(case hi=>rfl)
    simp only [cons_append,nil_append] at S
    go_wp2_with first | ((with_reducible apply wps_store (u:=(.int .i64 0)) S 2);(case hx|hy|hi|h1=>rfl);(case hn=>exact nle rfl);(case hT=>decide +kernel);clear S;intro wz S;simp only [set_cons_succ,set_cons_zero,setIfInBounds_toArray] at S) | ((with_reducible refine tot_done ?ht ?_);(case ht=>kernel_rfl))
    refine ⟨_,S,?_⟩
    clear S
    (with_reducible apply W_hard1 (i:=1));(case hn=>rfl);(case hr=>decide +kernel)
    intro wz S
    (with_reducible apply hard_of);(case hi=>rfl)
    simp only [cons_append,nil_append] at S
    go_wp2_with first | ((with_reducible apply wps_load S 1);(case hx|hi|hu=>rfl);(case hT=>decide +kernel)) | ((with_reducible refine tot_done ?ht ?_);(case ht=>kernel_rfl))
    refine ⟨_,S,?_⟩
    clear S
    (with_reducible apply W_hard1 (i:=3));(case hn=>rfl);(case hr=>decide +kernel)
    intro wz S
    (with_reducible apply hard_of);(case hi=>rfl)
    simp only [cons_append,nil_append] at S
    go_wp2_with first | ((with_reducible apply wps_store (u:=(.bool false)) S 1);(case hx|hy|hi|h1=>rfl);(case hn=>exact nle rfl);(case hT=>decide +kernel);clear S;intro wz S;simp only [set_cons_succ,set_cons_zero,setIfInBounds_toArray] at S) | ((with_reducible refine tot_done ?ht ?_);(case ht=>kernel_rfl))
    refine ⟨_,S,?_⟩
    clear S
    (with_reducible apply W_done);(case hn=>rfl);(case hr=>decide +kernel)
    intro wz S
    repeat (first | simp only at S | simp only [pick] at S | simp only [nth] at S | simp only [set_cons_succ] at S | simp only [set_cons_zero] at S | simp only [setIfInBounds_toArray] at S | simp only [setAll] at S | simp only [cons_append] at S | simp only [nil_append] at S | simp only [List.append_nil] at S)
  rotate_left 2
  focus
   intro wz S
   (with_reducible apply hard_of);(case hi=>rfl)
   simp only [cons_append,nil_append] at S
   go_wp2_with first | ((with_reducible apply wps_load S 1);(case hx|hi|hu=>rfl);(case hT=>decide +kernel)) | ((with_reducible refine tot_done ?ht ?_);(case ht=>kernel_rfl))
   refine ⟨_,S,?_⟩
   clear S
   (with_reducible apply W_hard1 (i:=0));(case hn=>rfl);(case hr=>decide +kernel)
   intro wz S
   (with_reducible apply hard_of);(case hi=>rfl)
   simp only [cons_append,nil_append] at S
   go_wp2_with first | ((with_reducible apply wps_load S 2);(case hx|hi|hu=>rfl);(case hT=>decide +kernel)) | ((with_reducible refine tot_done ?ht ?_);(case ht=>kernel_rfl))
   refine ⟨_,S,?_⟩
   clear S
   (with_reducible apply W_hard1 (i:=2));(case hn=>rfl);(case hr=>decide +kernel)
   intro wz S
   (with_reducible apply hard_of);(case hi=>rfl)
   simp only [cons_append,nil_append] at S
   go_wp2_with first | ((with_reducible apply wps_store (u:=(.int .i64 0)) S 2);(case hx|hy|hi|h1=>rfl);(case hn=>exact nle rfl);(case hT=>decide +kernel);clear S;intro wz S;simp only [set_cons_succ,set_cons_zero,setIfInBounds_toArray] at S) | ((with_reducible refine tot_done ?ht ?_);(case ht=>kernel_rfl))
   refine ⟨_,S,?_⟩
   clear S
   (with_reducible apply W_hard1 (i:=3));(case hn=>rfl);(case hr=>decide +kernel)
   intro wz S
   (with_reducible apply hard_of);(case hi=>rfl)
   simp only [cons_append,nil_append] at S
   go_wp2_with first | ((with_reducible apply wps_store (u:=(.bool false)) S 1);(case hx|hy|hi|h1=>rfl);(case hn=>exact nle rfl);(case hT=>decide +kernel);clear S;intro wz S;simp only [set_cons_succ,set_cons_zero,setIfInBounds_toArray] at S) | ((with_reducible refine tot_done ?ht ?_);(case ht=>kernel_rfl))
   refine ⟨_,S,?_⟩
   clear S
   (with_reducible apply W_done);(case hn=>rfl);(case hr=>decide +kernel)
   intro wz S
   repeat (first | simp only at S | simp only [pick] at S | simp only [nth] at S | simp only [set_cons_succ] at S | simp only [set_cons_zero] at S | simp only [setIfInBounds_toArray] at S | simp only [setAll] at S | simp only [cons_append] at S | simp only [nil_append] at S | simp only [List.append_nil] at S)
  all_goals
   go_wp2_with first | ((with_reducible refine wpList_skip ?hw ?_);(case hw=>with_unfolding_all rfl);simp only [Act.put,setIfInBounds_toArray,set_cons_succ,set_cons_zero])
   refine leaves_ret1c S rfl (fun w=>by simp [invoke,go_sem,HEN.out]) (fun w=>idle_calls _ _ w) fun w' S=>⟨_,results2 rfl (S.res1 1 rfl rfl (by decide +kernel)) (S.res1 0 rfl rfl (by decide +kernel)),rfl,S.below⟩
def krdS (X R : Nat) (k : KeE) (q : KeAt) (av : Option Addr) (cv : Nat) (vn : Value) : List Asn:=[Blk true X #[.pointer (some ⟨q.lg,0,none⟩),.slice av k.ws.length cv,.pointer (some ⟨q.nt,0,none⟩),.pointer (some ⟨q.ma,0,none⟩),.pointer (some ⟨q.bu,0,none⟩),.int .i64 k.window,.int .i64 k.fan,.bool k.over] 65,Sl true wpE 1 (.slice av k.ws.length cv) (q.ws.map WkAt.x),rd (stars (q.ws.map fun p : WkAt=>workerA p.x R p.k)),Blk true q.nt #[.int .i64 k.net.boxes,.int .i64 k.net.next,vn] 147,Sl true pkcell 14 vn k.net.way]
def leastWs (l : List WkE) : Int:=(l.flatMap localE).foldl min 1073741825
def KlRel (X R : Nat) (k : KeE) (q : KeAt) (av : Option Addr) (cv : Nat) (vn : Value) (w : World) (z i : Value) (wr : World) : Prop:=
 ∃ (j : Nat) (m : Int),j ≤ k.ws.length ∧ i = .int .i64 j ∧ z = .int .i64 m ∧ Hid (leastWs (k.ws.take j) = m) ∧
  St (fun _=>False) w wr (krdS X R k q av cv vn)
def KlIn (X R : Nat) (k : KeE) (q : KeAt) (av : Option Addr) (cv : Nat) (vn : Value) (a : Int) (l : List Int) (lv : Value) (w : World) (z i : Value) (wr : World) : Prop:=
 ∃ (n : Nat) (m : Int),n ≤ l.length ∧ i = .int .i64 n ∧ z = .int .i64 m ∧ Hid ((l.take n).foldl min a = m) ∧
  St (fun _=>False) w wr (Sl true intE 1 lv l :: krdS X R k q av cv vn)
theorem kleast_none (X R : Nat) (k : KeE) (hk : KeOk k) (hn : k.net.way = []) (w : World) (F : Nat → Prop) (h : (kernelA X R k).at_ w F) :
 Calls Tryz.prog 9 #[.pointer (some ⟨X,0,none⟩)] w fun e w'=>e = .returned (.int .i64 (leastWs k.ws)) ∧ Below w.heap.size w w':=by
 obtain ⟨q,vn,hq,S0⟩:=kernelR h
 have S:=S0.pick [0,1,2,3,4] rfl
 simp only [pick,nth] at S
 clear h S0
 have HNL:=Lib.hid fun w F F2 h1 h2=>netleast_none q.nt k.net vn hn w F F2 h1 h2
 have HLW : Hid ((q.ws.map WkAt.x).length = k.ws.length):=Lib.hid (by rw [← hq];simp)
 have HQ:=Lib.hid hq
 have HK:=Lib.hid hk
 have hwl:=hk.many
 obtain ⟨av,cv,hqv,_⟩:=(S.sl 1 rfl).elim fun _ h=>h.form
 rw [HLW.out] at hqv
 unfold kernelBlk at S
 rw [hqv] at S
 clear hk hq hn hqv
 go_enter Tryz.func9,Tryz.ntmps9
 go_wp2_with first | ((with_reducible apply wps_load S 0);(case hx|hi|hu=>rfl);(case hT=>decide +kernel))
 go_loopw [3,17] (fun z i wr=>KlRel X R k q av cv vn w z i wr) (fun _ i _=>k.ws.length - (intOf i).toNat)
 case atStart=>exact ⟨0,_,Nat.zero_le _,rfl,rfl,Lib.hid rfl,S⟩
 case round=>
  clear S
  obtain ⟨j,m,hj,rfl,rfl,HM,S⟩:=hrel
  unfold krdS at S
  by_cases hlt : j < k.ws.length
  · obtain ⟨kj,hkj⟩ : ∃ kj,k.ws[j]? = some kj:=⟨_,List.getElem?_eq_getElem hlt⟩
    obtain ⟨wa,hwa,hwk⟩ : ∃ wa,q.ws[j]? = some wa ∧ wa.k = kj:=by
     rw [← HQ.out,List.getElem?_map] at hkj
     exact Option.map_eq_some_iff.1 hkj
    obtain ⟨Rb,o,rfl⟩ : ∃ R o,av = some ⟨R,o,none⟩:=(S.sl 1 rfl).elim fun F h=>h.head (by rw [HLW.out];omega)
    have hlt2 : (j : Int) < k.ws.length:=by omega
    have HXI : Hid ((q.ws.map WkAt.x)[j]? = some wa.x):=Lib.hid (by rw [List.getElem?_map,hwa];rfl)
    have HSI : Hid ((q.ws.map fun p : WkAt=>workerA p.x R p.k)[j]? = some (workerA wa.x R kj)):=Lib.hid (by rw [List.getElem?_map,hwa,← hwk];rfl)
    have HWC:=Lib.hid fun w F h=>wlocal_calls wa.x R kj (HK.out.ok kj (List.mem_of_getElem? hkj)) w F h
    have HM2 : Hid ((localE kj).foldl min m = leastWs (k.ws.take (j + 1))):=Lib.hid (by unfold leastWs;rw [take_snocP hkj,List.flatMap_append,List.foldl_append,← HM.out];unfold leastWs;simp only [List.flatMap_cons,List.flatMap_nil,List.append_nil])
    have hll : (localE kj).length ≤ 65536:=by have:=(HK.out.ok kj (List.mem_of_getElem? hkj)).many;unfold localE;rw [List.length_map];omega
    generalize localE kj = l at *
    clear hkj hwa hwk
    go_wp2_with first | ((with_reducible apply wps_load_el S 1 (hj:=HXI.out) (q:=0) (u:=(.pointer (some ⟨wa.x,0,none⟩))));(case hx|hi=>rfl);(case hn=>omega);(case hu=>rfl);(case hT=>decide +kernel)) | (go_at_call 31;refine Calls.mono (HWC.out _ _ (star_get (S.get (i:=2) rfl) HSI.out).choose_spec) ?_;rintro rr wz ⟨lv,rfl,T⟩;replace S:=S.join T rfl;clear T;simp only [cons_append,nil_append] at S;replace S:=S.freeze true 0 intE_len rfl;simp only [set_cons_zero] at S;obtain ⟨al,cl,rfl,_⟩:=(S.sl 0 rfl).elim fun _ h=>h.form)
    go_loopw [3,24] (fun z i wr=>KlIn X R k q (some ⟨Rb,o,none⟩) cv vn m l (.slice al l.length cl) w z i wr) (fun _ i _=>l.length - (intOf i).toNat)
    case atStart=>exact ⟨0,_,Nat.zero_le _,rfl,rfl,Lib.hid rfl,S⟩
    case round=>
     clear S
     obtain ⟨n,m2,hn,rfl,rfl,HN,S⟩:=hrel
     unfold krdS at S
     by_cases hlt : n < l.length
     · obtain ⟨x,hx⟩ : ∃ x,l[n]? = some x:=⟨_,List.getElem?_eq_getElem hlt⟩
       obtain ⟨R2,o2,rfl⟩ : ∃ R o,al = some ⟨R,o,none⟩:=(S.sl 0 rfl).elim fun F h=>h.head (by omega)
       have hlt3 : (n : Int) < l.length:=by omega
       have HX:=Lib.hid hx
       have HN2 : Hid ((l.take (n + 1)).foldl min m = min m2 x):=Lib.hid (by rw [List.take_add_one,hx,Option.toList_some,List.foldl_append,HN.out];rfl)
       clear hx
       go_wp2_with first | ((with_reducible apply wps_load_el S 0 (hj:=HX.out) (q:=0) (u:=(.int .i64 x)));(case hx|hi=>rfl);(case hn=>omega);(case hu=>rfl);(case hT=>decide +kernel))
       go_roundw
       case rel=>exact ⟨n + 1,_,by omega,by go_num,rfl,Lib.hid (HN2.out.trans (by rw [Int.min_def])),S⟩
       case measure=>first | (simp [intOf];done) | (simp [intOf];omega)
     · obtain rfl : n = l.length:=by omega
       rw [List.take_length] at HN
       have HM3:=Lib.hid (HM2.out.symm.trans HN.out)
       go_wp2_with first | ((with_reducible apply wps_load S 0);(case hx|hi|hu=>rfl);(case hT=>decide +kernel))
       go_roundw
       case rel=>exact ⟨j + 1,_,by omega,by go_num,rfl,HM3,St.tail S⟩
       case measure=>first | (simp [intOf];done) | (simp [intOf];omega)
  · obtain rfl : j = k.ws.length:=by omega
    rw [List.take_length] at HM
    go_wp2_with first | ((with_reducible apply wps_load S 0);(case hx|hi|hu=>rfl);(case hT=>decide +kernel)) | (go_at_call 32;refine Calls.mono (HNL.out _ _ _ (S.get (i:=3) rfl).choose_spec (S.get (i:=4) rfl).choose_spec) ?_;rintro rr wz ⟨rfl,hE⟩;replace S:=S.ext (Keep.of_below hE);clear hE)
    go_ret
    exact ⟨ret_int HM.out.symm,S.below⟩
end Go.Proofs.YtmjljoaakdocaaaGreatDoor
/- Plain: what there is of a new kernel: how many of each kind, the least time. -/
namespace Go.Proofs.YtmjljoaakdocaaaGreatDoor
open Go Mem
open List (set_cons_succ set_cons_zero setIfInBounds_toArray cons_append nil_append)
theorem sum_one (a : Nat) : ∀ (W : Nat) (h : Int),0 ≤ h → h < W → ((List.range W).map fun i : Nat=>if h = (i : Int) then a else 0).sum = a
 | 0,h,h0,h1=>by omega
 | W + 1,h,h0,h1=>by
   rw [List.range_succ,List.map_append,List.sum_append]
   simp only [List.map_cons,List.map_nil,List.sum_cons,List.sum_nil]
   by_cases e : h = (W : Int)
   · rw [if_pos e]
     have : ((List.range W).map fun i : Nat=>if h = (i : Int) then a else 0).sum = 0:=by
      rw [List.sum_eq_zero_iff_forall_eq_nat]
      intro x hx
      obtain ⟨i,hi,rfl⟩:=List.mem_map.1 hx
      have:=List.mem_range.1 hi
      rw [if_neg (by omega)]
     omega
   · rw [if_neg e,sum_one a W h h0 (by omega)];omega
theorem home_lt (n W : Nat) (h1 : 1 ≤ W) : 0 ≤ homeOf n W ∧ homeOf n W < W:=by
 unfold homeOf
 rw [if_neg (by omega)]
 exact ⟨Int.emod_nonneg _ (by omega),Int.emod_lt_of_pos _ (by omega)⟩
theorem sumN_append (f : LpE → Nat) (l m : List (Int × LpE)) : sumN f (l ++ m) = sumN f l + sumN f m:=by
 unfold sumN;rw [List.map_append,List.sum_append]
theorem sumN_nil (f : LpE → Nat) : sumN f [] = 0:=rfl
theorem sumN_one (f : LpE → Nat) (q : Int × LpE) : sumN f [q] = f q.2:=by simp [sumN]
theorem sum_ws (f : LpE → Nat) (c : Cfg) (es : List Event) (W : Nat) (every : Int) (lazy : Bool) (h1 : 1 ≤ W) : ∀ N : Nat,
 ((List.range W).map fun i : Nat=>sumN f (newPs c es i W every lazy N)).sum = ((List.range N).map fun n : Nat=>f (newLp n every lazy (firstOf c n) (toldOf es n))).sum
 | 0=>by
   have : ∀ W : Nat,((List.range W).map fun i : Nat=>sumN f (newPs c es i W every lazy 0)).sum = 0:=fun W=>by
    rw [List.sum_eq_zero_iff_forall_eq_nat]
    intro x hx
    obtain ⟨i,_,rfl⟩:=List.mem_map.1 hx
    rfl
   exact this W
 | N + 1=>by
   have hh:=home_lt N W h1
   have ih:=sum_ws f c es W every lazy h1 N
   have e : (fun i : Nat=>sumN f (newPs c es i W every lazy (N + 1))) = fun i : Nat=>sumN f (newPs c es i W every lazy N) + (if homeOf N W = (i : Int) then f (newLp N every lazy (firstOf c N) (toldOf es N)) else 0):=by
    funext i
    rw [newPs_succ,sumN_append]
    by_cases e : homeOf N W = (i : Int)
    · rw [if_pos e,if_pos e,sumN_one]
    · rw [if_neg e,if_neg e,sumN_nil]
   rw [e]
   have e2 : ∀ l : List Nat,∀ g h : Nat → Nat,(l.map fun i=>g i + h i).sum = (l.map g).sum + (l.map h).sum:=fun l g h=>by
    induction l with
    | nil=>rfl
    | cons a l ih=>simp only [List.map_cons,List.sum_cons,ih];omega
   rw [e2,ih,sum_one _ W _ hh.1 hh.2,List.range_succ,List.map_append,List.sum_append]
   simp
theorem told_sum (es : List Event) (N : Nat) (h : ∀ x ∈ es,0 ≤ x.dst ∧ x.dst < N) : ((List.range N).map fun n : Nat=>(toldOf es n).length).sum = es.length:=by
 induction es with
 | nil=>
   rw [List.length_nil,List.sum_eq_zero_iff_forall_eq_nat]
   intro x hx
   obtain ⟨i,_,rfl⟩:=List.mem_map.1 hx
   rfl
 | cons x es ih=>
   have hx:=h x (by simp)
   have e2 : ∀ l : List Nat,∀ g h : Nat → Nat,(l.map fun i=>g i + h i).sum = (l.map g).sum + (l.map h).sum:=fun l g h=>by
    induction l with
    | nil=>rfl
    | cons a l ih=>simp only [List.map_cons,List.sum_cons,ih];omega
   have e : (fun n : Nat=>(toldOf (x :: es) n).length) = fun n : Nat=>(toldOf es n).length + (if x.dst = (n : Int) then 1 else 0):=by
    funext n
    unfold toldOf
    by_cases e : x.dst = (n : Int)
    · rw [if_pos e,List.filter_cons_of_pos (by simpa using e)];rfl
    · rw [if_neg e,List.filter_cons_of_neg (by simpa using e)];rfl
   rw [e,e2,ih fun y hy=>h y (by simp [hy]),sum_one 1 N _ hx.1 hx.2,List.length_cons]
theorem foldl_plus (l : List CntE) : ∀ z : CntE,l.foldl CntE.plus z = ⟨z.a + (l.map (·.a)).sum,z.b + (l.map (·.b)).sum,z.c + (l.map (·.c)).sum,z.d + (l.map (·.d)).sum,z.e + (l.map (·.e)).sum⟩:=by
 induction l with
 | nil=>intro z;simp
 | cons x l ih=>
   intro z
   rw [List.foldl_cons,ih]
   simp only [CntE.plus,List.map_cons,List.sum_cons,CntE.mk.injEq]
   omega
structure KwC (c : Cfg) : Prop where
 lps : c.lps.length ≤ 32
 starts : c.starts.length ≤ 256
 dsts : ∀ s ∈ c.starts,0 ≤ s.dst ∧ s.dst < c.lps.length
 times : ∀ s ∈ c.starts,0 ≤ s.at_ ∧ s.at_ ≤ 1073741824
theorem starts_mem {c : Cfg} (h : KwC c) {x : Event} (hx : x ∈ startsFrom 0 c.starts) : (0 ≤ x.dst ∧ x.dst < c.lps.length) ∧ 0 ≤ x.key.at_ ∧ x.key.at_ ≤ 1073741824:=by
 obtain ⟨k,hk⟩:=List.getElem?_of_mem hx
 rw [startsFrom_get] at hk
 obtain ⟨s,hs,rfl⟩:=Option.map_eq_some_iff.1 hk
 have hm:=List.mem_of_getElem? hs
 exact ⟨h.dsts s hm,h.times s hm⟩
theorem evs_mem {c : Cfg} (h : KwC c) {x : Event} (hx : x ∈ evsOf c) : (0 ≤ x.dst ∧ x.dst < c.lps.length) ∧ 0 ≤ x.key.at_ ∧ x.key.at_ ≤ 1073741824:=
 starts_mem h ((sortE_perm _).subset hx)
theorem newPs_len (c : Cfg) (es : List Event) (id workers every : Int) (lazy : Bool) : ∀ n,(newPs c es id workers every lazy n).length ≤ n
 | 0=>Nat.le_refl _
 | n + 1=>by
   rw [newPs_succ,List.length_append]
   have:=newPs_len c es id workers every lazy n
   split <;> simp <;> omega
theorem newPs_up (c : Cfg) (es : List Event) (id workers every : Int) (lazy : Bool) : ∀ n,((newPs c es id workers every lazy n).map (·.1)).Pairwise (· < ·)
 | 0=>List.Pairwise.nil
 | n + 1=>by
   rw [newPs_succ,List.map_append,List.pairwise_append]
   refine ⟨newPs_up c es id workers every lazy n,by split <;> simp,fun a ha b hb=>?_⟩
   obtain ⟨p,hp,rfl⟩:=List.mem_map.1 ha
   have:=newPs_lt c es id workers every lazy n p hp
   split at hb
   · simp at hb;subst hb;omega
   · simp at hb
theorem newPs_mem (c : Cfg) (es : List Event) (id workers every : Int) (lazy : Bool) : ∀ (n : Nat) (q : Int × LpE),q ∈ newPs c es id workers every lazy n ↔ ∃ m : Nat,m < n ∧ homeOf m workers = id ∧ q = ((m : Int),newLp m every lazy (firstOf c m) (toldOf es m))
 | 0,q=>by simp [newPs]
 | n + 1,q=>by
   rw [newPs_succ,List.mem_append,newPs_mem c es id workers every lazy n q]
   constructor
   · rintro (⟨m,h1,h2,h3⟩ | h)
     · exact ⟨m,by omega,h2,h3⟩
     · split at h
       · rename_i e;simp at h;exact ⟨n,by omega,e,h⟩
       · simp at h
   · rintro ⟨m,h1,h2,h3⟩
     by_cases e : m = n
     · subst e;rw [if_pos h2];exact .inr (by simp [h3])
     · exact .inl ⟨m,by omega,h2,h3⟩
theorem newWk_fine {c : Cfg} (h : KwC c) (id workers every : Int) (lazy : Bool) : WkFine (newWk c id workers every lazy) where
 up:=newPs_up ..
 many:=Nat.le_trans (newPs_len ..) h.lps
 ok:=fun q hq=>by
  obtain ⟨m,h1,h2,rfl⟩:=(newPs_mem _ _ _ _ _ _ _ q).1 hq
  have e : (sortT (toldOf (evsOf c) m)).length ≤ 65536:=by
   rw [(sortT_perm _).length_eq]
   refine Nat.le_trans (List.length_filter_le ..) ?_
   rw [evsOf_len];have:=h.starts;omega
  exact ⟨e,by simp [newLp],by simp [newLp],by simp [newLp]⟩
theorem new_counts {c : Cfg} {d : KcE} (h : KwC c) (h1 : 1 ≤ d.workers) : cntK (newK1 c d) = ⟨c.starts.length,0,0,c.lps.length,0⟩:=by
 obtain ⟨W,hW⟩ : ∃ W : Nat,d.workers = W:=⟨d.workers.toNat,by omega⟩
 have e1 : (newK1 c d).ws = (List.range W).map fun i : Nat=>newWk c i W d.every d.lazy:=by
  show newWs c d d.workers.toNat = _
  rw [hW];unfold newWs;rw [hW];rfl
 have e2 : (newK1 c d).net.way = []:=rfl
 have s1 : ∀ f : LpE → Nat,(((newK1 c d).ws.map fun k : WkE=>sumN f k.ps).sum : Nat) = ((List.range c.lps.length).map fun n : Nat=>f (newLp n d.every d.lazy (firstOf c n) (toldOf (evsOf c) n))).sum:=fun f=>by
  rw [e1,List.map_map]
  exact sum_ws f c (evsOf c) W d.every d.lazy (by omega) _
 have cs : ∀ f : LpE → Nat,((newK1 c d).ws.map fun k : WkE=>((sumN f k.ps : Nat) : Int)).sum = (((newK1 c d).ws.map fun k : WkE=>sumN f k.ps).sum : Nat):=fun f=>by
  generalize (newK1 c d).ws = l
  induction l with
  | nil=>rfl
  | cons a l ih=>simp only [List.map_cons,List.sum_cons,ih];omega
 have z : ∀ N,((List.range N).map fun _ : Nat=>0).sum = 0:=fun N=>by
  rw [List.sum_eq_zero_iff_forall_eq_nat];intro x hx;obtain ⟨_,_,rfl⟩:=List.mem_map.1 hx;rfl
 have o : ∀ N,((List.range N).map fun _ : Nat=>1).sum = N:=fun N=>by
  induction N with
  | zero=>rfl
  | succ N ih=>rw [List.range_succ,List.map_append,List.sum_append,ih];rfl
 have fe : (fun n : Nat=>evN (newLp n d.every d.lazy (firstOf c n) (toldOf (evsOf c) n))) = fun n : Nat=>(toldOf (evsOf c) n).length:=by
  funext n;exact (sortT_perm _).length_eq
 have c1:=cs evN;rw [s1,fe,told_sum _ _ fun x hx=>(evs_mem h hx).1,evsOf_len] at c1
 have c2:=cs anN;rw [s1,show (fun n : Nat=>anN (newLp n d.every d.lazy (firstOf c n) (toldOf (evsOf c) n))) = fun _=>0 from rfl,z] at c2
 have c3:=cs rcN;rw [s1,show (fun n : Nat=>rcN (newLp n d.every d.lazy (firstOf c n) (toldOf (evsOf c) n))) = fun _=>0 from rfl,z] at c3
 have c4:=cs svN;rw [s1,show (fun n : Nat=>svN (newLp n d.every d.lazy (firstOf c n) (toldOf (evsOf c) n))) = fun _=>1 from rfl,o] at c4
 unfold cntK
 rw [foldl_plus,e2]
 have z2 : ∀ l : List WkE,(l.map fun _=>(0 : Int)).sum = 0:=fun l=>by
  induction l with
  | nil=>rfl
  | cons a l ih=>simp only [List.map_cons,List.sum_cons,ih];omega
 simp only [List.map_map,Function.comp_def,cntW,c1,c2,c3,c4,mailN,List.countP_nil,z2]
 simp
theorem new_ok {c : Cfg} {d : KcE} (h : KwC c) (h1 : 1 ≤ d.workers) (h8 : d.workers ≤ 8) : KcB c d where
 lps:=h.lps
 starts:=by have:=h.starts;omega
 times:=fun x hx=>(starts_mem h hx).2
 ok:=⟨by show (newWs c d d.workers.toNat).length ≤ 8;unfold newWs;rw [List.length_map,List.length_range];omega,fun w hw=>by
  obtain ⟨i,_,rfl⟩:=List.mem_map.1 (show w ∈ newWs c d d.workers.toNat from hw)
  exact newWk_fine h ..,Nat.zero_le _⟩
 cnt:=by
  rw [new_counts h h1]
  have:=h.lps;have:=h.starts
  constructor <;> simp <;> omega
theorem new_fit {c : Cfg} {d : KcE} (h : KwC c) (h1 : 1 ≤ d.workers) : fitE (newK1 c d).bu (cntK (newK1 c d)) 0 true = decide (((c.starts.length + c.lps.length : Nat) : Int) ≤ d.room):=by
 rw [new_counts h h1]
 show decide (_ ≤ d.room) = _
 congr 1
theorem le_fold (z : Int) (l : List Int) : ∀ a : Int,z ≤ l.foldl min a ↔ z ≤ a ∧ ∀ x ∈ l,z ≤ x:=by
 induction l with
 | nil=>intro a;simp
 | cons x l ih=>
   intro a
   rw [List.foldl_cons,ih,List.forall_mem_cons,← and_assoc]
   refine and_congr_left fun _=>?_
   omega
theorem le_lpLeast (z id every : Int) (lazy : Bool) (s : State) (l : List Event) (h0 : ∀ x ∈ l,0 ≤ x.key.at_) : z ≤ lpLeast (newLp id every lazy s l) ↔ z ≤ 1073741825 ∧ ∀ x ∈ l,z ≤ x.key.at_:=by
 have hm : ∀ x,x ∈ sortT l ↔ x ∈ l:=fun x=>(sortT_perm l).mem_iff
 have hu:=sortT_up l
 show z ≤ minO (minO 1073741825 (nextAt (-1) (sortT l))) (leastU []) ↔ _
 rw [show leastU [] = none from rfl]
 show z ≤ minO 1073741825 (nextAt (-1) (sortT l)) ↔ _
 rw [show (∀ x ∈ l,z ≤ x.key.at_) ↔ ∀ x ∈ sortT l,z ≤ x.key.at_ from ⟨fun h x hx=>h x ((hm x).1 hx),fun h x hx=>h x ((hm x).2 hx)⟩]
 have h0' : ∀ x ∈ sortT l,0 ≤ x.key.at_:=fun x hx=>h0 x ((hm x).1 hx)
 cases hs : sortT l with
 | nil=>simp [nextAt,minO]
 | cons a m=>
   rw [hs] at hu h0'
   have ha:=h0' a (by simp)
   have e : nextAt (-1) (a :: m) = some a.key.at_:=by
    unfold nextAt;rw [List.find?_cons_of_pos (by simp;omega)];rfl
   rw [e]
   show z ≤ min 1073741825 a.key.at_ ↔ _
   rw [List.forall_mem_cons]
   have hp:=(List.pairwise_cons.1 hu).1
   constructor
   · intro h
     refine ⟨by omega,by omega,fun x hx=>?_⟩
     have:=hp x hx
     unfold evLt at this
     omega
   · rintro ⟨h1,h2,_⟩;omega
theorem new_least {c : Cfg} {d : KcE} (h : KwC c) (h1 : 1 ≤ d.workers) : leastWs (newK1 c d).ws = ((evsOf c).map fun x=>x.key.at_).foldl min 1073741825:=by
 obtain ⟨W,hW⟩ : ∃ W : Nat,d.workers = W:=⟨d.workers.toNat,by omega⟩
 have e1 : (newK1 c d).ws = (List.range W).map fun i : Nat=>newWk c i W d.every d.lazy:=by
  show newWs c d d.workers.toNat = _
  rw [hW];unfold newWs;rw [hW];rfl
 have key : ∀ z : Int,z ≤ leastWs (newK1 c d).ws ↔ z ≤ ((evsOf c).map fun x=>x.key.at_).foldl min 1073741825:=fun z=>by
  unfold leastWs
  rw [le_fold,le_fold]
  refine and_congr_right fun hz=>?_
  have h0 : ∀ (m : Int) (x : Event),x ∈ toldOf (evsOf c) m → 0 ≤ x.key.at_:=fun m x hx=>(evs_mem h ((List.mem_filter.1 hx).1)).2.1
  constructor
  · intro hl y hy
    obtain ⟨x,hx,rfl⟩:=List.mem_map.1 hy
    have hd:=(evs_mem h hx).1
    have hh:=home_lt x.dst.toNat W (by omega)
    rw [show ((x.dst.toNat : Nat) : Int) = x.dst by omega] at hh
    have:=hl (lpLeast (newLp x.dst.toNat d.every d.lazy (firstOf c x.dst.toNat) (toldOf (evsOf c) x.dst.toNat))) (by
     rw [e1,List.mem_flatMap]
     refine ⟨newWk c (homeOf x.dst W) W d.every d.lazy,List.mem_map.2 ⟨(homeOf x.dst W).toNat,List.mem_range.2 (by omega),by rw [show (((homeOf x.dst W).toNat : Nat) : Int) = homeOf x.dst W by omega]⟩,?_⟩
     exact List.mem_map.2 ⟨_,(newPs_mem _ _ _ _ _ _ _ _).2 ⟨x.dst.toNat,by omega,by rw [show ((x.dst.toNat : Nat) : Int) = x.dst by omega],rfl⟩,rfl⟩)
    exact ((le_lpLeast z _ _ _ _ _ (h0 _)).1 this).2 x (List.mem_filter.2 ⟨hx,by simp;omega⟩)
  · intro hl y hy
    rw [e1,List.mem_flatMap] at hy
    obtain ⟨k,hk,hy⟩:=hy
    obtain ⟨i,_,rfl⟩:=List.mem_map.1 hk
    obtain ⟨q,hq,rfl⟩:=List.mem_map.1 hy
    obtain ⟨m,_,_,rfl⟩:=(newPs_mem _ _ _ _ _ _ _ q).1 hq
    exact (le_lpLeast z _ _ _ _ _ (h0 _)).2 ⟨hz,fun x hx=>hl _ (List.mem_map.2 ⟨x,(List.mem_filter.1 hx).1,rfl⟩)⟩
 have a:=(key (leastWs (newK1 c d).ws)).1 (Int.le_refl _)
 have b:=(key (((evsOf c).map fun x=>x.key.at_).foldl min 1073741825)).2 (Int.le_refl _)
 omega
end Go.Proofs.YtmjljoaakdocaaaGreatDoor
/- What a kernel's New answers, of whatever configuration; the reference's May. -/
namespace Go.Proofs.YtmjljoaakdocaaaGreatDoor
open Go Go.RowKit Reg Mem
open List (set_cons_succ set_cons_zero setIfInBounds_toArray cons_append nil_append)
def kmayB (a b c d e : Int) : Bool:=decide (1 ≤ a ∧ a ≤ 8 ∧ 1 ≤ b ∧ 0 ≤ c ∧ 1 ≤ d ∧ d ≤ 4096 ∧ 0 ≤ e ∧ e ≤ d)
theorem kmay_calls (a b c d e : Int) (w : World) : Calls Tryz.prog 15 #[.int .i64 a,.int .i64 b,.int .i64 c,.int .i64 d,.int .i64 e] w fun r w'=>r = .returned (.bool (kmayB a b c d e)) ∧ Below w.heap.size w w':=by
 have S:=St.init (fun _=>False) w
 obtain ⟨z,hz⟩ : ∃ z,kmayB a b c d e = z:=⟨_,rfl⟩
 rw [hz]
 have HZ:=Lib.hid hz
 clear hz
 by_cases h1 : a < 1
 · have f1 : decide (a < 1) = true:=decide_eq_true h1
   go_enter Tryz.func15,Tryz.ntmps15
   go_wp2_with first | ((with_reducible refine tot_done ?ht ?_);(case ht=>kernel_rfl))
   go_ret
   exact ⟨ret_bool (by rw [← HZ.out];unfold kmayB;rw [decide_eq_false (by omega)]),S.below⟩
 · have f1 : decide (a < 1) = false:=decide_eq_false h1
   by_cases h2 : a > 8
   · have f2 : decide (a > 8) = true:=decide_eq_true h2
     go_enter Tryz.func15,Tryz.ntmps15
     go_wp2_with first | ((with_reducible refine tot_done ?ht ?_);(case ht=>kernel_rfl))
     go_ret
     exact ⟨ret_bool (by rw [← HZ.out];unfold kmayB;rw [decide_eq_false (by omega)]),S.below⟩
   · have f2 : decide (a > 8) = false:=decide_eq_false h2
     by_cases h3 : b < 1
     · have f3 : decide (b < 1) = true:=decide_eq_true h3
       go_enter Tryz.func15,Tryz.ntmps15
       go_wp2_with first | ((with_reducible refine tot_done ?ht ?_);(case ht=>kernel_rfl))
       go_ret
       exact ⟨ret_bool (by rw [← HZ.out];unfold kmayB;rw [decide_eq_false (by omega)]),S.below⟩
     · have f3 : decide (b < 1) = false:=decide_eq_false h3
       by_cases h4 : c < 0
       · have f4 : decide (c < 0) = true:=decide_eq_true h4
         go_enter Tryz.func15,Tryz.ntmps15
         go_wp2_with first | ((with_reducible refine tot_done ?ht ?_);(case ht=>kernel_rfl))
         go_ret
         exact ⟨ret_bool (by rw [← HZ.out];unfold kmayB;rw [decide_eq_false (by omega)]),S.below⟩
       · have f4 : decide (c < 0) = false:=decide_eq_false h4
         by_cases h5 : d ≥ 1
         · have f5 : decide (d ≥ 1) = true:=decide_eq_true h5
           by_cases h6 : d ≤ 4096
           · have f6 : decide (d ≤ 4096) = true:=decide_eq_true h6
             by_cases h7 : e ≥ 0
             · have f7 : decide (e ≥ 0) = true:=decide_eq_true h7
               go_enter Tryz.func15,Tryz.ntmps15
               go_wp2_with first | ((with_reducible refine tot_done ?ht ?_);(case ht=>kernel_rfl))
               go_ret
               exact ⟨ret_bool (by rw [← HZ.out];unfold kmayB;exact decide_eq_decide.2 (by omega)),S.below⟩
             · have f7 : decide (e ≥ 0) = false:=decide_eq_false h7
               go_enter Tryz.func15,Tryz.ntmps15
               go_wp2_with first | ((with_reducible refine tot_done ?ht ?_);(case ht=>kernel_rfl))
               go_ret
               exact ⟨ret_bool (by rw [← HZ.out];unfold kmayB;rw [decide_eq_false (by omega)]),S.below⟩
           · have f6 : decide (d ≤ 4096) = false:=decide_eq_false h6
             go_enter Tryz.func15,Tryz.ntmps15
             go_wp2_with first | ((with_reducible refine tot_done ?ht ?_);(case ht=>kernel_rfl))
             go_ret
             exact ⟨ret_bool (by rw [← HZ.out];unfold kmayB;rw [decide_eq_false (by omega)]),S.below⟩
         · have f5 : decide (d ≥ 1) = false:=decide_eq_false h5
           go_enter Tryz.func15,Tryz.ntmps15
           go_wp2_with first | ((with_reducible refine tot_done ?ht ?_);(case ht=>kernel_rfl))
           go_ret
           exact ⟨ret_bool (by rw [← HZ.out];unfold kmayB;rw [decide_eq_false (by omega)]),S.below⟩
def KAnyPost (R : Nat) (c : Cfg) (d : KcE) (w : World) (e : Ending) (w' : World) : Prop:=
 (kmayB d.workers d.every d.window d.room d.res = false ∧ KBad w e w') ∨
 (kmayB d.workers d.every d.window d.room d.res = true ∧ d.room < (c.starts.length : Int) + c.lps.length ∧ e = .returned (.tuple #[.pointer none,.int .i64 20]) ∧ Below w.heap.size w w') ∨
 (kmayB d.workers d.every d.window d.room d.res = true ∧ (c.starts.length : Int) + c.lps.length ≤ d.room ∧ 1 ≤ d.workers ∧ d.workers ≤ 8 ∧ KNewPost R (newK c d) w e w')
theorem kany_calls (R : Nat) (vs hs : List Value) (c : Cfg) (d : KcE) (hc : KwC c) (w : World) (F : Nat → Prop) (h : (ModA true 110 R vs hs c).at_ w F) :
 Calls Tryz.prog 6 #[.pointer (some ⟨R,0,none⟩),.agg #[.int .i64 d.workers,.int .i64 d.every,.bool d.lazy,.int .i64 d.window,.int .i64 d.room,.int .i64 d.res]] w (KAnyPost R c d w):=by
 have no : ∀ p : ¬ (1 ≤ d.workers ∧ d.workers ≤ 8 ∧ 1 ≤ d.every ∧ 0 ≤ d.window ∧ 1 ≤ d.room ∧ d.room ≤ 4096 ∧ 0 ≤ d.res ∧ d.res ≤ d.room),kmayB d.workers d.every d.window d.room d.res = false:=fun p=>decide_eq_false p
 by_cases h1 : d.window < 0
 · exact (knew_win R vs hs c d h1 w F h).mono fun e w' h=>.inl ⟨no (by omega),h⟩
 by_cases h2 : 1 ≤ d.workers ∧ d.workers ≤ 8
 · by_cases h3 : d.every < 1
   · exact (knew_every R vs hs c d (by omega) h2.1 h2.2 h3 w F h).mono fun e w' h=>.inl ⟨no (by omega),h⟩
   · refine (knewr_calls R vs hs c d (new_ok hc h2.1 h2.2) h2.1 h2.2 (by omega) (by omega) w F h).mono ?_
     rintro e w' (⟨h,hb⟩ | ⟨h,hf,hb⟩ | ⟨h,hf,hb⟩)
     · exact .inl ⟨no (fun k=>h ⟨k.2.2.2.2.1,k.2.2.2.2.2.1,k.2.2.2.2.2.2.1,k.2.2.2.2.2.2.2⟩),hb⟩
     · rw [new_fit hc h2.1] at hf;have:=of_decide_eq_false hf
       exact .inr (.inl ⟨decide_eq_true ⟨h2.1,h2.2,by omega,by omega,h.1,h.2.1,h.2.2.1,h.2.2.2⟩,by omega,hb⟩)
     · rw [new_fit hc h2.1] at hf;have:=of_decide_eq_true hf
       exact .inr (.inr ⟨decide_eq_true ⟨h2.1,h2.2,by omega,by omega,h.1,h.2.1,h.2.2.1,h.2.2.2⟩,by omega,h2.1,h2.2,hb⟩)
 · exact (knew_args R vs hs c d (by omega) h2 w F h).mono fun e w' h=>.inl ⟨no (by omega),h⟩
end Go.Proofs.YtmjljoaakdocaaaGreatDoor
/- The walks of a nil kernel's methods; of Done. -/
namespace Go.Proofs.YtmjljoaakdocaaaGreatDoor
open Go Go.RowKit Reg Mem
open List (set_cons_succ set_cons_zero setIfInBounds_toArray cons_append nil_append)
theorem kdone_calls (X : Nat) (k : KeE) (q : KeAt) (w : World) (F : Nat → Prop) (h : (kernelBlk true X k q).at_ w F) : Calls Tryz.prog 8 #[.pointer (some ⟨X,0,none⟩)] w fun r w'=>r = .returned (.bool k.over) ∧ Below w.heap.size w w':=by
 have S : St (fun _=>False) w w [kernelBlk true X k q]:=(St.init _ w).share rfl rfl h
 clear h
 unfold kernelBlk at S
 go_enter Tryz.func8,Tryz.ntmps8
 go_wp2_with first | ((with_reducible apply wps_load S 0);(case hx|hi|hu=>rfl);(case hT=>decide +kernel))
 go_ret
 exact ⟨rfl,S.below⟩
end Go.Proofs.YtmjljoaakdocaaaGreatDoor
