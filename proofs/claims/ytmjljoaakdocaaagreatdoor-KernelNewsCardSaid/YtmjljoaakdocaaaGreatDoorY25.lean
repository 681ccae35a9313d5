import Derived.Test.YtmjljoaakdocaaaGreatDoorY23
import Derived.Test.YtmjljoaakdocaaaGreatDoorY21
import Derived.Test.YtmjljoaakdocaaaGreatDoorY19
import Derived.Deep.Cut
/- The walk of a kernel's New, where there is one. -/
set_option maxHeartbeats 16000000
set_option maxRecDepth 100000
namespace Go.Proofs.YtmjljoaakdocaaaGreatDoor
open Go Go.RowKit Reg Mem
open List (set_cons_succ set_cons_zero setIfInBounds_toArray cons_append nil_append)
theorem mnew_ok (workers : Int) (h1 : 1 ≤ workers) (h2 : workers ≤ 8) (w : World) : Calls Tryz.prog 24 #[.int .i64 workers] w fun e w'=>∃ X,e = .returned (.tuple #[.pointer (some ⟨X,0,none⟩),.int .i64 0]) ∧ St (fun _=>False) w w' [masterA X (newMa workers)]:=by
 refine (mnewM_calls workers w).mono ?_
 rintro e w' (⟨h,_⟩ | ⟨_,h⟩)
 · omega
 · exact h
theorem netnew_ok (boxes : Int) (h1 : 1 ≤ boxes) (h2 : boxes ≤ 64) (w : World) : Calls Tryz.prog 27 #[.int .i64 boxes] w fun e w'=>∃ X,e = .returned (.tuple #[.pointer (some ⟨X,0,none⟩),.int .i64 0]) ∧ St (fun _=>False) w w' [netA X ⟨boxes,0,[]⟩]:=by
 refine (netnew_calls boxes w).mono ?_
 rintro e w' (⟨h,_⟩ | ⟨_,h⟩)
 · omega
 · exact h
theorem bunew_no (room res : Int) (h : ¬ (1 ≤ room ∧ room ≤ 4096 ∧ 0 ≤ res ∧ res ≤ room)) (w : World) : Calls Tryz.prog 26 #[.int .i64 room,.int .i64 res] w fun e w'=>e = .returned (.tuple #[.pointer none,.int .i64 1]) ∧ Below w.heap.size w w':=by
 refine (bunew_calls room res w).mono ?_
 rintro e w' (⟨_,h2⟩ | ⟨h2,_⟩)
 · exact h2
 · exact absurd h2 h
theorem bunew_ok (room res : Int) (h : 1 ≤ room ∧ room ≤ 4096 ∧ 0 ≤ res ∧ res ≤ room) (w : World) : Calls Tryz.prog 26 #[.int .i64 room,.int .i64 res] w fun e w'=>∃ X,e = .returned (.tuple #[.pointer (some ⟨X,0,none⟩),.int .i64 0]) ∧ St (fun _=>False) w w' [budgetA X ⟨room,res,cntz⟩]:=by
 refine (bunew_calls room res w).mono ?_
 rintro e w' (⟨h2,_⟩ | ⟨_,h⟩)
 · exact absurd h h2
 · exact h
theorem bufit_ok (X : Nat) (b : BuE) (c : CntE) (more : Int) (vital : Bool) (hc : CntOk 1073741824 c) (hm : mayB more = true) (hr : 1 ≤ b.room) (hr2 : b.room ≤ 4096) (hr3 : 0 ≤ b.res) (hr4 : b.res ≤ b.room) (hf : fitE b c more vital = true) (w : World) (F : Nat → Prop) (S0 : St F w w [budgetA X b]) :
 Calls Tryz.prog 29 #[.pointer (some ⟨X,0,none⟩),.agg #[.int .i64 c.a,.int .i64 c.b,.int .i64 c.c,.int .i64 c.d,.int .i64 c.e],.int .i64 more,.bool vital] w fun e w'=>e = .returned (.int .i64 0) ∧ St F w w' [budgetA X (b.fit c)]:=by
 refine (bufit_calls X b c more vital hc hm hr hr2 hr3 hr4 w F S0).mono ?_
 rintro e w' (⟨h,_⟩ | ⟨_,h⟩)
 · rw [hf] at h;cases h
 · exact h
theorem bufit_no (X : Nat) (b : BuE) (c : CntE) (more : Int) (vital : Bool) (hc : CntOk 1073741824 c) (hm : mayB more = true) (hr : 1 ≤ b.room) (hr2 : b.room ≤ 4096) (hr3 : 0 ≤ b.res) (hr4 : b.res ≤ b.room) (hf : fitE b c more vital = false) (w : World) (F : Nat → Prop) (S0 : St F w w [budgetA X b]) :
 Calls Tryz.prog 29 #[.pointer (some ⟨X,0,none⟩),.agg #[.int .i64 c.a,.int .i64 c.b,.int .i64 c.c,.int .i64 c.d,.int .i64 c.e],.int .i64 more,.bool vital] w fun e w'=>e = .returned (.int .i64 20) ∧ St F w w' [budgetA X b]:=by
 refine (bufit_calls X b c more vital hc hm hr hr2 hr3 hr4 w F S0).mono ?_
 rintro e w' (⟨_,h⟩ | ⟨h,_⟩)
 · exact h
 · rw [hf] at h;cases h
structure KcE where
 workers : Int
 every : Int
 lazy : Bool
 window : Int
 room : Int
 res : Int
def newWs (c : Cfg) (d : KcE) (n : Nat) : List WkE:=(List.range n).map fun i : Nat=>newWk c i d.workers d.every d.lazy
def newK1 (c : Cfg) (d : KcE) : KeE:=⟨newL c,newWs c d d.workers.toNat,⟨d.workers + 1,0,[]⟩,newMa d.workers,⟨d.room,d.res,cntz⟩,d.window,c.fan,false⟩
def newK (c : Cfg) (d : KcE) : KeE:={ newK1 c d with bu:=(newK1 c d).bu.fit (cntK (newK1 c d)) }
theorem newWs_succ (c : Cfg) (d : KcE) (n : Nat) : newWs c d (n + 1) = newWs c d n ++ [newWk c n d.workers d.every d.lazy]:=by
 unfold newWs;rw [List.range_succ,List.map_append];rfl
structure KcB (c : Cfg) (d : KcE) : Prop where
 lps : c.lps.length ≤ 32
 starts : c.starts.length ≤ 65536
 times : ∀ x ∈ startsFrom 0 c.starts,0 ≤ x.key.at_ ∧ x.key.at_ ≤ 1073741824
 ok : KeOk (newK1 c d)
 cnt : CntOk 1073741824 (cntK (newK1 c d))
def roomB (d : KcE) : Prop:=1 ≤ d.room ∧ d.room ≤ 4096 ∧ 0 ≤ d.res ∧ d.res ≤ d.room
structure KcOk (c : Cfg) (d : KcE) : Prop extends KcB c d where
 w1 : 1 ≤ d.workers
 w2 : d.workers ≤ 8
 ev : 1 ≤ d.every
 win : 0 ≤ d.window
 r1 : 1 ≤ d.room
 r2 : d.room ≤ 4096
 r3 : 0 ≤ d.res
 r4 : d.res ≤ d.room
 fit : fitE (newK1 c d).bu (cntK (newK1 c d)) 0 true = true
def KnRel (Ma b3 bX R : Nat) (vs hs : List Value) (c : Cfg) (d : KcE) (w : World) (i : Value) (wr : World) : Prop:=
 ∃ (j : Nat) (v : Value) (ws : List WkAt) (xs : List Nat),(j : Int) ≤ d.workers ∧ i = .int .i64 j ∧ xs.length = j ∧ Hid (ws.map WkAt.x = xs) ∧ Hid (ws.map WkAt.k = newWs c d j) ∧
  St (fun _=>False) w wr [masterA Ma (newMa d.workers),Blk false b3 #[.int .i64 d.workers,.int .i64 d.every,.bool d.lazy,.int .i64 d.window,.int .i64 d.room,.int .i64 d.res] 29,ModA true 110 R vs hs c,
   Blk false bX #[.pointer none,v,.pointer none,.pointer (some ⟨Ma,0,none⟩),.pointer none,.int .i64 d.window,.int .i64 c.fan,.bool false] 65,Mem.Own 76 wpE 1 v xs,stars (ws.map fun p : WkAt=>workerA p.x R p.k)]
def KNewPost (R : Nat) (k : KeE) (w : World) (e : Ending) (w' : World) : Prop:=
 ∃ X,e = .returned (.tuple #[.pointer (some ⟨X,0,none⟩),.int .i64 0]) ∧ St (fun _=>False) w w' [kernelA X R k]
def KNewsPost (R : Nat) (c : Cfg) (d : KcE) (w : World) (e : Ending) (w' : World) : Prop:=
 (¬ roomB d ∧ e = .returned (.tuple #[.pointer none,.int .i64 1]) ∧ Below w.heap.size w w') ∨
 (roomB d ∧ fitE (newK1 c d).bu (cntK (newK1 c d)) 0 true = false ∧ e = .returned (.tuple #[.pointer none,.int .i64 20]) ∧ Below w.heap.size w w') ∨
 (roomB d ∧ fitE (newK1 c d).bu (cntK (newK1 c d)) 0 true = true ∧ KNewPost R (newK c d) w e w')
theorem knewr_calls (R : Nat) (vs hs : List Value) (c : Cfg) (d : KcE) (hk : KcB c d) (hw1 : 1 ≤ d.workers) (hw8 : d.workers ≤ 8) (hev : 1 ≤ d.every) (hwin : 0 ≤ d.window) (w : World) (F : Nat → Prop) (h : (ModA true 110 R vs hs c).at_ w F) :
 Calls Tryz.prog 6 #[.pointer (some ⟨R,0,none⟩),.agg #[.int .i64 d.workers,.int .i64 d.every,.bool d.lazy,.int .i64 d.window,.int .i64 d.room,.int .i64 d.res]] w (KNewsPost R c d w):=by
 have S : St (fun _=>False) w w [ModA true 110 R vs hs c]:=(St.init _ w).share rfl rfl h
 clear h
 have HK:=Lib.hid hk
 have f1 : decide (d.window < 0) = false:=decide_eq_false (by omega)
 have HMN:=Lib.hid (mnew_ok d.workers hw1 hw8)
 have HNN:=Lib.hid (netnew_ok (d.workers + 1) (by omega) (by omega))
 have HLN:=Lib.hid fun w F h=>lnew_calls R vs hs c w F h hk.lps
 have HEV:=Lib.hid hev
 clear hk hev hwin
 go_enter Tryz.func6,Tryz.ntmps6
 go_upto_region 5 with first | ((with_reducible apply wps_boxa (E:=29) S);(case hx=>rfl);clear S;intro b3 wz S) | ((with_reducible apply wps_load S 0);(case hx|hi|hu=>rfl);(case hT=>decide +kernel))
 (refine wp_region_w (soft:=[0,1,2]) S ?hm ?hB ?_);(case hm=>kernel_rfl);(case hB=>decide +kernel);clear S
 iterate 3
  (with_reducible apply softs_cons)
  (case hw=>
    (with_reducible apply soft_of);(case hi=>rfl)
    intro T wz S
    simp only [cons_append,nil_append] at S
    go_wp2_with first | ((with_reducible apply wps_load S 0);(case hx|hi|hu=>rfl);(case hT=>decide +kernel)) | ((with_reducible refine tot_done ?ht ?_);(case ht=>kernel_rfl))
    exact ⟨rfl,S⟩)
  (case hs=>exact ⟨_,rfl,by kernel_rfl⟩)
 refine softs_nil ?_
 (with_reducible apply W_hard1 (i:=3));(case hn=>rfl);(case hr=>decide +kernel)
 intro wz S
 (with_reducible apply hard_of);(case hi=>rfl)
 simp only [cons_append,nil_append] at S
 go_wp2_with first | (go_at_call 23;refine Calls.mono (fan_calls R vs hs c _ _ (S.get (i:=1) rfl).choose_spec) ?_;rintro e wz ⟨rfl,hE⟩;replace S:=S.ext (Keep.of_below hE);clear hE) | ((with_reducible refine tot_done ?ht ?_);(case ht=>kernel_rfl))
 refine ⟨_,S,?_⟩
 clear S
 (refine W_mid (f:=2) (soft:=[4]) rfl ?hB ?_);(case hB=>decide +kernel)
 iterate 1
  (with_reducible apply softs_cons)
  (case hw=>
    (with_reducible apply soft_of);(case hi=>rfl)
    intro T wz S
    simp only [cons_append,nil_append] at S
    go_wp2_with first | ((with_reducible refine tot_done ?ht ?_);(case ht=>kernel_rfl))
    exact ⟨rfl,S⟩)
  (case hs=>exact ⟨_,rfl,by kernel_rfl⟩)
 refine softs_nil ?_
 (with_reducible apply W_hard1 (i:=5));(case hn=>rfl);(case hr=>decide +kernel)
 intro wz S
 (with_reducible apply hard_of);(case hi=>rfl)
 simp only [cons_append,nil_append] at S
 go_wp2_with first | ((with_reducible apply wps_boxa (E:=65) S);(case hx=>rfl);clear S;intro bX wz S) | ((with_reducible refine tot_done ?ht ?_);(case ht=>kernel_rfl))
 refine ⟨_,S.pick [1,2,0] rfl,?_⟩
 clear S
 (refine W_mid (f:=0) (soft:=[6]) rfl ?hB ?_);(case hB=>decide +kernel)
 iterate 1
  (with_reducible apply softs_cons)
  (case hw=>
    (with_reducible apply soft_of);(case hi=>rfl)
    intro T wz S
    simp only [cons_append,nil_append] at S
    go_wp2_with first | ((with_reducible refine tot_done ?ht ?_);(case ht=>kernel_rfl))
    exact ⟨rfl,S⟩)
  (case hs=>exact ⟨_,rfl,by kernel_rfl⟩)
 refine softs_nil ?_
 (with_reducible apply W_done);(case hn=>rfl);(case hr=>decide +kernel)
 intro wz S
 repeat (first | simp only at S | simp only [pick] at S | simp only [nth] at S | simp only [set_cons_succ] at S | simp only [set_cons_zero] at S | simp only [setIfInBounds_toArray] at S | simp only [setAll] at S | simp only [cons_append] at S | simp only [nil_append] at S | simp only [List.append_nil] at S)
 all_goals
  go_wp2_with first | ((with_reducible apply wps_load S 0);(case hx|hi|hu=>rfl);(case hT=>decide +kernel)) | (go_at_call 24;refine Calls.mono (HMN.out _) ?_;rintro rr wz ⟨Ma,rfl,T⟩;replace S:=S.join T rfl;clear T;simp only [cons_append,nil_append] at S) | ((with_reducible apply wps_store (u:=(.pointer (some ⟨Ma,0,none⟩))) S 3);(case hx|hy|hi|h1=>rfl);(case hn=>exact nle rfl);(case hT=>decide +kernel);clear S;intro wz S;simp only [set_cons_succ,set_cons_zero,setIfInBounds_toArray] at S) | ((with_reducible apply wps_load S 1);(case hx|hi|hu=>rfl);(case hT=>decide +kernel))
  replace S:=((S.nil 76 wpE 1).starNil).pick [2,3,4,5,1,0] rfl
  simp only [pick,nth] at S
  go_loopw [36] (fun i wr=>KnRel Ma b3 bX R vs hs c d w i wr) (fun i _=>d.workers.toNat - (intOf i).toNat)
  case atStart=>exact ⟨0,_,[],[],by omega,rfl,rfl,Lib.hid rfl,Lib.hid rfl,S⟩
  case round=>
   clear S
   obtain ⟨j,v,ws,xs,hj,rfl,hwl,HXS,HWS,S⟩:=hrel
   obtain ⟨av,cv,rfl,_⟩:=(S.ownsl wpElen 4 rfl).elim fun _ h=>h.form
   by_cases hlt : (j : Int) < d.workers
   · have HWN:=Lib.hid fun w F h=>wnew_calls R vs hs c j d.workers d.every d.lazy w F h HK.out.lps HK.out.starts hw1 hw8 (by omega) hlt HEV.out HK.out.times
     have HWS2 : Hid (∀ W,(ws ++ [(⟨W,newWk c j d.workers d.every d.lazy⟩ : WkAt)]).map WkAt.k = newWs c d (j + 1)):=Lib.hid fun W=>by rw [List.map_append,HWS.out,newWs_succ];rfl
     have hcl : xs.length < 4294967296:=by omega
     have HXL:=Lib.hid hwl
     have HXS2 : Hid (∀ W,(ws ++ [(⟨W,newWk c j d.workers d.every d.lazy⟩ : WkAt)]).map WkAt.x = xs ++ [W]):=Lib.hid fun W=>by rw [List.map_append,HXS.out];rfl
     clear hwl
     go_wp2_with first | ((with_reducible apply wps_load S 1);(case hx|hi|hu=>rfl);(case hT=>decide +kernel)) | (go_at_call 25;refine Calls.mono (HWN.out _ _ (S.get (i:=2) rfl).choose_spec) ?_;rintro rr wz ⟨W,rfl,T⟩;replace S:=S.join T rfl;clear T;simp only [cons_append,nil_append] at S) | ((with_reducible apply wps_load S 4);(case hx|hi|hu=>rfl);(case hT=>decide +kernel)) | ((with_reducible apply wps_build11 (T:=60) (E:=76) S);(case hx=>rfl);(case hr=>intro w;kernel_rfl);clear S;intro bz wz S) | ((with_reducible apply wps_append1 elem_Wp wpElen wpEone (by decide) S 6 (j:=0) (e:=W));(case hx|hy|hi|hj|he=>rfl);(case hl=>exact hcl);clear S;intro az nz cz wz hnz S;simp only [set_cons_succ,set_cons_zero] at S) | ((with_reducible apply wps_store (u:=(.slice az nz cz)) S 5);(case hx|hy|hi|h1=>rfl);(case hn=>exact nle rfl);(case hT=>decide +kernel);clear S;intro wz S;simp only [set_cons_succ,set_cons_zero,setIfInBounds_toArray] at S)
     replace S:=S.pick [1,7,2,3,4,5,6] rfl
     simp only [pick,nth] at S
     replace S:=S.starSnoc rfl
     rw [show (ws.map fun p : WkAt=>workerA p.x R p.k) ++ [workerA W R (newWk c j d.workers d.every d.lazy)] = (ws ++ [(⟨W,newWk c j d.workers d.every d.lazy⟩ : WkAt)]).map fun p : WkAt=>workerA p.x R p.k by rw [List.map_append];rfl] at S
     go_roundw
     case rel=>exact ⟨j + 1,_,_,_,by omega,by go_num,by rw [List.length_append,HXL.out];rfl,Lib.hid (HXS2.out W),Lib.hid (HWS2.out W),S.pick [1,2,3,4,5,0] rfl⟩
     case measure=>simp [intOf];omega
   · have hjw : (j : Int) = d.workers:=by omega
     have HWS3 : Hid (ws.map WkAt.k = (newK1 c d).ws):=Lib.hid (by rw [HWS.out];show newWs c d j = newWs c d d.workers.toNat;congr 1;omega)
     by_cases hrm : roomB d
     · have HBN:=Lib.hid (bunew_ok d.room d.res hrm)
       have HRM:=Lib.hid hrm
       cases hf : fitE (newK1 c d).bu (cntK (newK1 c d)) 0 true with
       | true=>
         have HF:=Lib.hid hf
         clear hf
         have HKC:=Lib.hid fun X w F h=>kcounts_calls X R (newK1 c d) HK.out.ok w F h
         have HFI:=Lib.hid fun X w F S0=>bufit_ok X (newK1 c d).bu (cntK (newK1 c d)) 0 true HK.out.cnt (by rfl) hrm.1 hrm.2.1 hrm.2.2.1 hrm.2.2.2 HF.out w F S0
         simp only at HKC
         obtain ⟨y,hy⟩ : ∃ y,cntK (newK1 c d) = y:=⟨_,rfl⟩
         rw [hy] at HKC HFI
         have HY:=Lib.hid hy
         clear hy hjw hwl hrm
         go_upto_region 27 with first | ((with_reducible apply wps_load S 1);(case hx|hi|hu=>rfl);(case hT=>decide +kernel)) | (go_at_call 26;refine Calls.mono (HBN.out _) ?_;rintro rr wz ⟨Bu,rfl,T⟩;replace S:=S.join T rfl;clear T;simp only [cons_append,nil_append] at S) | ((with_reducible apply wps_store (u:=(.pointer (some ⟨Bu,0,none⟩))) S 4);(case hx|hy|hi|h1=>rfl);(case hn=>exact nle rfl);(case hT=>decide +kernel);clear S;intro wz S;simp only [set_cons_succ,set_cons_zero,setIfInBounds_toArray] at S) | ((with_reducible apply wps_load S 2);(case hx|hi|hu=>rfl);(case hT=>decide +kernel)) | (go_at_call 27;refine Calls.mono (HNN.out _) ?_;rintro rr wz ⟨Nt,rfl,T⟩;replace S:=S.join T rfl;clear T;simp only [cons_append,nil_append] at S) | ((with_reducible apply wps_store (u:=(.pointer (some ⟨Nt,0,none⟩))) S 5);(case hx|hy|hi|h1=>rfl);(case hn=>exact nle rfl);(case hT=>decide +kernel);clear S;intro wz S;simp only [set_cons_succ,set_cons_zero,setIfInBounds_toArray] at S) | (go_at_call 28;refine Calls.mono (HLN.out _ _ (S.get (i:=4) rfl).choose_spec) ?_;rintro rr wz ⟨Lg,rfl,T⟩;replace S:=S.join T rfl;clear T;simp only [cons_append,nil_append] at S) | ((with_reducible apply wps_store (u:=(.pointer (some ⟨Lg,0,none⟩))) S 6);(case hx|hy|hi|h1=>rfl);(case hn=>exact nle rfl);(case hT=>decide +kernel);clear S;intro wz S;simp only [set_cons_succ,set_cons_zero,setIfInBounds_toArray] at S)
         replace S:=S.pick [0,1,3,4,5,6,7,8,2] rfl
         simp only [pick,nth] at S
         (refine wp_region_wt (soft:=[0,1,2,3,4]) (L:=[_,_,_,_,_,_,_,_]) (T:=[_]) S ?hm ?hB ?_);(case hm=>kernel_rfl);(case hB=>decide +kernel);clear S
         iterate 5
          (with_reducible apply softs_cons)
          (case hw=>
            (with_reducible apply soft_of);(case hi=>rfl)
            intro T wz S
            simp only [cons_append,nil_append] at S
            go_wp2_with first | ((with_reducible apply wps_load S 5);(case hx|hi|hu=>rfl);(case hT=>decide +kernel)) | ((with_reducible refine tot_done ?ht ?_);(case ht=>kernel_rfl))
            exact ⟨rfl,S⟩)
          (case hs=>exact ⟨_,rfl,by kernel_rfl⟩)
         refine softs_nil ?_
         (with_reducible apply W_hard1 (i:=5));(case hn=>rfl);(case hr=>decide +kernel)
         intro wz S
         (with_reducible apply hard_of);(case hi=>rfl)
         simp only [cons_append,nil_append] at S
         go_wp2_with first | (go_at_call 10;have S2:=S.pick [8,0,2,1,7,6,5] rfl;simp only [pick,nth] at S2;have S3:=kernel_close (k:=newK1 c d) (q:=⟨Lg,Nt,Ma,Bu,.slice av xs.length cv,ws⟩) HWS3.out (by rw [show ws.map WkAt.x = xs from HXS.out];exact S2);refine Calls.mono (HKC.out bX _ _ (S3.get (i:=0) rfl).choose_spec) ?_;clear S2 S3;rintro rr wz ⟨rfl,hE⟩;replace S:=S.ext (Keep.of_below hE);clear hE) | ((with_reducible refine tot_done ?ht ?_);(case ht=>kernel_rfl))
         refine ⟨_,S,?_⟩
         clear S
         (with_reducible apply W_hard1 (i:=6));(case hn=>rfl);(case hr=>decide +kernel)
         intro wz S
         (with_reducible apply hard_of);(case hi=>rfl)
         simp only [cons_append,nil_append] at S
         go_wp2_with first | (go_at_call 29;obtain ⟨Fz,hF,hBk⟩:=S.lend [8] [] [0,1,2,3,4,5,6,7] rfl rfl rfl;simp only [cons_append,nil_append,pick,nth] at hF hBk;refine Calls.mono (HFI.out _ _ _ hF) ?_;rintro rr wz ⟨rfl,T⟩;replace S:=(hBk _ _ T rfl).pick [1,2,3,4,5,6,7,8,0] rfl;clear hBk hF T;simp only [cons_append,nil_append,pick,nth] at S) | ((with_reducible refine tot_done ?ht ?_);(case ht=>kernel_rfl))
         refine ⟨_,S,?_⟩
         clear S
         (refine W_mid (f:=0) (soft:=[7]) rfl ?hB ?_);(case hB=>decide +kernel)
         iterate 1
          (with_reducible apply softs_cons)
          (case hw=>
            (with_reducible apply soft_of);(case hi=>rfl)
            intro T wz S
            simp only [cons_append,nil_append] at S
            go_wp2_with first | ((with_reducible refine tot_done ?ht ?_);(case ht=>kernel_rfl))
            exact ⟨rfl,S⟩)
          (case hs=>exact ⟨_,rfl,by kernel_rfl⟩)
         refine softs_nil ?_
         (with_reducible apply W_done);(case hn=>rfl);(case hr=>decide +kernel)
         intro wz S
         repeat (first | simp only at S | simp only [pick] at S | simp only [nth] at S | simp only [set_cons_succ] at S | simp only [set_cons_zero] at S | simp only [setIfInBounds_toArray] at S | simp only [setAll] at S | simp only [cons_append] at S | simp only [nil_append] at S | simp only [List.append_nil] at S)
         all_goals
          go_wp2_with first | ((with_reducible apply wps_load S 0);(case hx|hi|hu=>rfl);(case hT=>decide +kernel))
          (try simp only [Exit.inBlock,Exit.then]);refine bodyPost_ret (results2 rfl (res_tmp rfl) (res_tmp rfl)) rfl ?_
          have S2:=S.pick [8,0,2,1,7,6,5] rfl
          simp only [pick,nth] at S2
          refine .inr (.inr ⟨HRM.out,HF.out,bX,rfl,kernel_close (k:=newK c d) (q:=⟨Lg,Nt,Ma,Bu,.slice av xs.length cv,ws⟩) HWS3.out ?_⟩)
          unfold newK
          simp only
          rw [HY.out,show ws.map WkAt.x = xs from HXS.out]
          exact S2
       | false=>
         have HF:=Lib.hid hf
         clear hf
         have HKC:=Lib.hid fun X w F h=>kcounts_calls X R (newK1 c d) HK.out.ok w F h
         have HFI:=Lib.hid fun X w F S0=>bufit_no X (newK1 c d).bu (cntK (newK1 c d)) 0 true HK.out.cnt (by rfl) hrm.1 hrm.2.1 hrm.2.2.1 hrm.2.2.2 HF.out w F S0
         simp only at HKC
         obtain ⟨y,hy⟩ : ∃ y,cntK (newK1 c d) = y:=⟨_,rfl⟩
         rw [hy] at HKC HFI
         have HY:=Lib.hid hy
         clear hy hjw hwl hrm
         go_upto_region 27 with first | ((with_reducible apply wps_load S 1);(case hx|hi|hu=>rfl);(case hT=>decide +kernel)) | (go_at_call 26;refine Calls.mono (HBN.out _) ?_;rintro rr wz ⟨Bu,rfl,T⟩;replace S:=S.join T rfl;clear T;simp only [cons_append,nil_append] at S) | ((with_reducible apply wps_store (u:=(.pointer (some ⟨Bu,0,none⟩))) S 4);(case hx|hy|hi|h1=>rfl);(case hn=>exact nle rfl);(case hT=>decide +kernel);clear S;intro wz S;simp only [set_cons_succ,set_cons_zero,setIfInBounds_toArray] at S) | ((with_reducible apply wps_load S 2);(case hx|hi|hu=>rfl);(case hT=>decide +kernel)) | (go_at_call 27;refine Calls.mono (HNN.out _) ?_;rintro rr wz ⟨Nt,rfl,T⟩;replace S:=S.join T rfl;clear T;simp only [cons_append,nil_append] at S) | ((with_reducible apply wps_store (u:=(.pointer (some ⟨Nt,0,none⟩))) S 5);(case hx|hy|hi|h1=>rfl);(case hn=>exact nle rfl);(case hT=>decide +kernel);clear S;intro wz S;simp only [set_cons_succ,set_cons_zero,setIfInBounds_toArray] at S) | (go_at_call 28;refine Calls.mono (HLN.out _ _ (S.get (i:=4) rfl).choose_spec) ?_;rintro rr wz ⟨Lg,rfl,T⟩;replace S:=S.join T rfl;clear T;simp only [cons_append,nil_append] at S) | ((with_reducible apply wps_store (u:=(.pointer (some ⟨Lg,0,none⟩))) S 6);(case hx|hy|hi|h1=>rfl);(case hn=>exact nle rfl);(case hT=>decide +kernel);clear S;intro wz S;simp only [set_cons_succ,set_cons_zero,setIfInBounds_toArray] at S)
         replace S:=S.pick [0,1,3,4,5,6,7,8,2] rfl
         simp only [pick,nth] at S
         (refine wp_region_wt (soft:=[0,1,2,3,4]) (L:=[_,_,_,_,_,_,_,_]) (T:=[_]) S ?hm ?hB ?_);(case hm=>kernel_rfl);(case hB=>decide +kernel);clear S
         iterate 5
          (with_reducible apply softs_cons)
          (case hw=>
            (with_reducible apply soft_of);(case hi=>rfl)
            intro T wz S
            simp only [cons_append,nil_append] at S
            go_wp2_with first | ((with_reducible apply wps_load S 5);(case hx|hi|hu=>rfl);(case hT=>decide +kernel)) | ((with_reducible refine tot_done ?ht ?_);(case ht=>kernel_rfl))
            exact ⟨rfl,S⟩)
          (case hs=>exact ⟨_,rfl,by kernel_rfl⟩)
         refine softs_nil ?_
         (with_reducible apply W_hard1 (i:=5));(case hn=>rfl);(case hr=>decide +kernel)
         intro wz S
         (with_reducible apply hard_of);(case hi=>rfl)
         simp only [cons_append,nil_append] at S
         go_wp2_with first | (go_at_call 10;have S2:=S.pick [8,0,2,1,7,6,5] rfl;simp only [pick,nth] at S2;have S3:=kernel_close (k:=newK1 c d) (q:=⟨Lg,Nt,Ma,Bu,.slice av xs.length cv,ws⟩) HWS3.out (by rw [show ws.map WkAt.x = xs from HXS.out];exact S2);refine Calls.mono (HKC.out bX _ _ (S3.get (i:=0) rfl).choose_spec) ?_;clear S2 S3;rintro rr wz ⟨rfl,hE⟩;replace S:=S.ext (Keep.of_below hE);clear hE) | ((with_reducible refine tot_done ?ht ?_);(case ht=>kernel_rfl))
         refine ⟨_,S,?_⟩
         clear S
         (with_reducible apply W_hard1 (i:=6));(case hn=>rfl);(case hr=>decide +kernel)
         intro wz S
         (with_reducible apply hard_of);(case hi=>rfl)
         simp only [cons_append,nil_append] at S
         go_wp2_with first | (go_at_call 29;obtain ⟨Fz,hF,hBk⟩:=S.lend [8] [] [0,1,2,3,4,5,6,7] rfl rfl rfl;simp only [cons_append,nil_append,pick,nth] at hF hBk;refine Calls.mono (HFI.out _ _ _ hF) ?_;rintro rr wz ⟨rfl,T⟩;replace S:=(hBk _ _ T rfl).pick [1,2,3,4,5,6,7,8,0] rfl;clear hBk hF T;simp only [cons_append,nil_append,pick,nth] at S) | ((with_reducible refine tot_done ?ht ?_);(case ht=>kernel_rfl))
         refine ⟨_,S,?_⟩
         clear S
         (refine W_mid (f:=0) (soft:=[7]) rfl ?hB ?_);(case hB=>decide +kernel)
         iterate 1
          (with_reducible apply softs_cons)
          (case hw=>
            (with_reducible apply soft_of);(case hi=>rfl)
            intro T wz S
            simp only [cons_append,nil_append] at S
            go_wp2_with first | ((with_reducible refine tot_done ?ht ?_);(case ht=>kernel_rfl))
            exact ⟨rfl,S⟩)
          (case hs=>exact ⟨_,rfl,by kernel_rfl⟩)
         refine softs_nil ?_
         (with_reducible apply W_done);(case hn=>rfl);(case hr=>decide +kernel)
         intro wz S
         repeat (first | simp only at S | simp only [pick] at S | simp only [nth] at S | simp only [set_cons_succ] at S | simp only [set_cons_zero] at S | simp only [setIfInBounds_toArray] at S | simp only [setAll] at S | simp only [cons_append] at S | simp only [nil_append] at S | simp only [List.append_nil] at S)
         all_goals
          go_wp2_with first | ((with_reducible apply wps_load S 0);(case hx|hi|hu=>rfl);(case hT=>decide +kernel))
          (try simp only [Exit.inBlock,Exit.then]);refine bodyPost_ret (results2 rfl (res_tmp rfl) (res_tmp rfl)) rfl ?_
          exact .inr (.inl ⟨HRM.out,HF.out,rfl,S.below⟩)
     · have HBN:=Lib.hid (bunew_no d.room d.res hrm)
       have HRM:=Lib.hid hrm
       clear hjw hwl hrm
       go_wp2_with first | ((with_reducible apply wps_load S 1);(case hx|hi|hu=>rfl);(case hT=>decide +kernel)) | (go_at_call 26;refine Calls.mono (HBN.out _) ?_;rintro rr wz ⟨rfl,hE⟩;replace S:=S.ext (Keep.of_below hE);clear hE) | ((with_reducible apply wps_store (u:=(.pointer none)) S 3);(case hx|hy|hi|h1=>rfl);(case hn=>exact nle rfl);(case hT=>decide +kernel);clear S;intro wz S;simp only [set_cons_succ,set_cons_zero,setIfInBounds_toArray] at S)
       (try simp only [Exit.inBlock,Exit.then]);refine bodyPost_ret (results2 rfl (res_tmp rfl) (res_tmp rfl)) rfl ?_
       exact .inl ⟨HRM.out,rfl,S.below⟩
theorem knew_calls (R : Nat) (vs hs : List Value) (c : Cfg) (d : KcE) (hk : KcOk c d) (w : World) (F : Nat → Prop) (h : (ModA true 110 R vs hs c).at_ w F) :
 Calls Tryz.prog 6 #[.pointer (some ⟨R,0,none⟩),.agg #[.int .i64 d.workers,.int .i64 d.every,.bool d.lazy,.int .i64 d.window,.int .i64 d.room,.int .i64 d.res]] w (KNewPost R (newK c d) w):=by
 refine (knewr_calls R vs hs c d hk.toKcB hk.w1 hk.w2 hk.ev hk.win w F h).mono ?_
 rintro e w' (⟨h,_⟩ | ⟨_,h,_⟩ | ⟨_,_,h⟩)
 · exact absurd ⟨hk.r1,hk.r2,hk.r3,hk.r4⟩ h
 · rw [hk.fit] at h;cases h
 · exact h
end Go.Proofs.YtmjljoaakdocaaaGreatDoor
