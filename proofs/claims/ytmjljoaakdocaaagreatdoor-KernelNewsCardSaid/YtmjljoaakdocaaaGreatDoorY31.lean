import Derived.Test.YtmjljoaakdocaaaGreatDoorY30
import Derived.Test.YtmjljoaakdocaaaGreatDoorY08
import Derived.Test.YtmjljoaakdocaaaGreatDoorY25
import Derived.Test.YtmjljoaakdocaaaGreatDoorY33
import Derived.Test.YtmjljoaakdocaaaGreatDoorY26
import Derived.Deep.Cut
/- The walk of a kernel's deliver, where a worker reports. -/
set_option maxHeartbeats 16000000
set_option maxRecDepth 100000
namespace Go.Proofs.YtmjljoaakdocaaaGreatDoor
open Go Go.RowKit Reg Mem
open List (set_cons_succ set_cons_zero setIfInBounds_toArray cons_append nil_append)
def reported (k : KeE) (x : PkE) : KeE:={ k with net:=k.net.less x.no,ma:=repM k.ma x.from_.toNat x.x.at_ }
theorem kdeliver_rep (X R : Nat) (k : KeE) (d : Int × Int × Int) (x : PkE) (z : Int) (hk : KeRun k) (hd1 : -9223372036854775808 ≤ d.2.2) (hd2 : d.2.2 ≤ 9223372036854775807) (hd : (k.net.way.map (·.no)).Nodup) (hb : boxB k.net.boxes d.2.1 = true) (hx : pickE d.2.1 d.2.2 k.net.way = some x)
 (hkd : x.x.kind = 4) (h0 : 0 ≤ x.from_) (hz : k.ma.reps[x.from_.toNat]? = some z) (hz0 : z < 0) (hno : x.x.no = k.ma.no) (ht : timeB x.x.at_ = true) (hr : k.ma.runs = true) (hall : repAll k.ma x.from_.toNat x.x.at_ = false) (w : World) (F : Nat → Prop) (S0 : St F w w [kernelA X R k]) :
 Calls Tryz.prog 54 #[.pointer (some ⟨X,0,none⟩),.agg #[.int .i64 d.1,.int .i64 d.2.1,.int .i64 d.2.2]] w fun e w'=>e = .returned (.int .i64 0) ∧ St F w w' [kernelA X R (reported k x)]:=by
 obtain ⟨q,hq,S⟩:=kernel_open S0
 clear S0
 have HP:=Lib.hid fun w F S0=>netpick_ok q.nt k.net d.2.1 d.2.2 x hd1 hd2 hd hk.way hb hx w F S0
 have HM:=Lib.hid fun w F S0=>mreport_calls q.ma k.ma x.from_.toNat x.x.at_ z w F S0 (by rw [hk.reps];exact hk.many) hz hz0 ht hr
 rw [show ((x.from_.toNat : Nat) : Int) = x.from_ by omega,← hno,hall] at HM
 have HQ:=Lib.hid hq
 have f0 : (x.x.kind == 0) = false:=by rw [hkd];rfl
 have f1 : (x.x.kind == 1) = false:=by rw [hkd];rfl
 have f2 : (x.x.kind == 2) = false:=by rw [hkd];rfl
 have f3 : (x.x.kind == 3) = false:=by rw [hkd];rfl
 clear hk hq hkd hd1 hd2 hd hb hx hno hz hz0 ht hr hall h0
 unfold kernelBlk at S
 go_enter Tryz.func54,Tryz.ntmps54
 go_upto_region 1 with first | ((with_reducible apply wps_boxa (E:=23) S);(case hx=>rfl);clear S;intro b3 wz S)
 replace S:=S.pick [0,1,2,3,5,6,7,4] rfl
 simp only [pick,nth] at S
 (refine wp_region_wt (soft:=[0,1,2,3,4,5,6,7]) (L:=[_,_,_,_,_,_,_]) (T:=[_]) S ?hm ?hB ?_);(case hm=>kernel_rfl);(case hB=>decide +kernel);clear S
 iterate 8
  (with_reducible apply softs_cons)
  (case hw=>
    (with_reducible apply soft_of);(case hi=>rfl)
    intro T wz S
    simp only [cons_append,nil_append] at S
    go_wp2_with first | ((with_reducible apply wps_load S 6);(case hx|hi|hu=>rfl);(case hT=>decide +kernel)) | ((with_reducible apply wps_load S 0);(case hx|hi|hu=>rfl);(case hT=>decide +kernel)) | ((with_reducible refine tot_done ?ht ?_);(case ht=>kernel_rfl))
    exact ⟨rfl,S⟩)
  (case hs=>exact ⟨_,rfl,by kernel_rfl⟩)
 refine softs_nil ?_
 (with_reducible apply W_hard2 (i:=8) (i':=12));(case hn=>rfl);(case hr=>decide +kernel)
 focus
  intro wz S
  (with_reducible apply hard_of);(case hi=>rfl)
  simp only [cons_append,nil_append] at S
  go_wp2_with first | (go_at_call 87;obtain ⟨Fz,hF,hBk⟩:=S.lend [7] [] [0,1,2,3,4,5,6] rfl rfl rfl;simp only [cons_append,nil_append,pick,nth] at hF hBk;refine Calls.mono (HP.out _ _ hF) ?_;rintro rr wz ⟨rfl,T⟩;replace S:=(hBk _ _ T rfl).pick [1,2,3,4,5,6,7,0] rfl;clear hBk hF T;simp only [cons_append,nil_append,pick,nth] at S) | ((with_reducible refine tot_done ?ht ?_);(case ht=>kernel_rfl))
  refine ⟨_,S,?_⟩
  clear S
  (refine W_mid (f:=3) (soft:=[9,10,11]) rfl ?hB ?_);(case hB=>decide +kernel)
  iterate 3
   (with_reducible apply softs_cons)
   (case hw=>
     (with_reducible apply soft_of);(case hi=>rfl)
     intro T wz S
     simp only [cons_append,nil_append] at S
     go_wp2_with first | ((with_reducible refine tot_done ?ht ?_);(case ht=>kernel_rfl))
     exact ⟨rfl,S⟩)
   (case hs=>exact ⟨_,rfl,by kernel_rfl⟩)
  refine softs_nil ?_
  (with_reducible apply W_hard1 (i:=12));(case hn=>rfl);(case hr=>decide +kernel)
  intro wz S
  (with_reducible apply hard_of);(case hi=>rfl)
  simp only [cons_append,nil_append] at S
  go_wp2_with first | ((with_reducible apply wps_alloca (E:=100) S);(case hz=>exact Tryz.zeroValue100);clear S;intro b5 wz S) | ((with_reducible refine tot_done ?ht ?_);(case ht=>kernel_rfl))
  refine ⟨_,S.pick [1,2,3,4,5,6,7,8,0] rfl,?_⟩
  clear S
  (with_reducible apply W_hard1 (i:=13));(case hn=>rfl);(case hr=>decide +kernel)
  intro wz S
  (with_reducible apply hard_of);(case hi=>rfl)
  simp only [cons_append,nil_append] at S
  go_wp2_with first | ((with_reducible apply wps_storea (T:=100) S 8 (vs:=[.int .i64 x.no,.int .i64 x.from_,.int .i64 x.to_,.int .i64 x.x.kind,.int .i64 x.x.m.ev.key.at_,.int .i64 x.x.m.ev.key.src,.int .i64 x.x.m.ev.key.sent,.int .i64 x.x.m.ev.key.no,.int .i64 x.x.m.ev.dst,.int .i64 x.x.m.ev.kind,.int .i64 x.x.m.ev.data,.bool x.x.m.anti,.int .i64 x.x.no,.int .i64 x.x.at_]) (m:=14));(case hx|hy|hi|hm|h1=>rfl);(case hn=>exact nle rfl);(case hT=>decide +kernel);clear S;intro wz S;simp only [set_cons_zero,set_cons_succ,setAll,setIfInBounds_toArray] at S) | ((with_reducible refine tot_done ?ht ?_);(case ht=>kernel_rfl))
  refine ⟨_,S,?_⟩
  clear S
  (refine W_mid (f:=0) (soft:=[14]) rfl ?hB ?_);(case hB=>decide +kernel)
  iterate 1
   (with_reducible apply softs_cons)
   (case hw=>
     (with_reducible apply soft_of);(case hi=>rfl)
     intro T wz S
     simp only [cons_append,nil_append] at S
     go_wp2_with first | ((with_reducible refine tot_done ?ht ?_);(case ht=>kernel_rfl))
     exact ⟨rfl,S⟩)
   (case hs=>exact ⟨_,rfl,by kernel_rfl⟩)
  refine softs_nil ?_
  (with_reducible apply W_done);(case hn=>rfl);(case hr=>decide +kernel)
  intro wz S
  repeat (first | simp only at S | simp only [pick] at S | simp only [nth] at S | simp only [set_cons_succ] at S | simp only [set_cons_zero] at S | simp only [setIfInBounds_toArray] at S | simp only [setAll] at S | simp only [cons_append] at S | simp only [nil_append] at S | simp only [List.append_nil] at S)
 rotate_left 1
 focus
  intro wz S
  (with_reducible apply hard_of);(case hi=>rfl)
  simp only [cons_append,nil_append] at S
  go_wp2_with first | ((with_reducible apply wps_alloca (E:=100) S);(case hz=>exact Tryz.zeroValue100);clear S;intro b5 wz S) | ((with_reducible refine tot_done ?ht ?_);(case ht=>kernel_rfl))
  refine ⟨_,S.pick [1,2,3,4,5,6,7,8,0] rfl,?_⟩
  clear S
  (with_reducible apply W_hard1 (i:=8));(case hn=>rfl);(case hr=>decide +kernel)
  intro wz S
  (with_reducible apply hard_of);(case hi=>rfl)
  simp only [cons_append,nil_append] at S
  go_wp2_with first | (go_at_call 87;obtain ⟨Fz,hF,hBk⟩:=S.lend [7] [] [0,1,2,3,4,5,6,8] rfl rfl rfl;simp only [cons_append,nil_append,pick,nth] at hF hBk;refine Calls.mono (HP.out _ _ hF) ?_;rintro rr wz ⟨rfl,T⟩;replace S:=(hBk _ _ T rfl).pick [1,2,3,4,5,6,7,0,8] rfl;clear hBk hF T;simp only [cons_append,nil_append,pick,nth] at S) | ((with_reducible refine tot_done ?ht ?_);(case ht=>kernel_rfl))
  refine ⟨_,S,?_⟩
  clear S
  (refine W_mid (f:=2) (soft:=[9,10,11]) rfl ?hB ?_);(case hB=>decide +kernel)
  iterate 3
   (with_reducible apply softs_cons)
   (case hw=>
     (with_reducible apply soft_of);(case hi=>rfl)
     intro T wz S
     simp only [cons_append,nil_append] at S
     go_wp2_with first | ((with_reducible refine tot_done ?ht ?_);(case ht=>kernel_rfl))
     exact ⟨rfl,S⟩)
   (case hs=>exact ⟨_,rfl,by kernel_rfl⟩)
  refine softs_nil ?_
  (with_reducible apply W_hard1 (i:=13));(case hn=>rfl);(case hr=>decide +kernel)
  intro wz S
  (with_reducible apply hard_of);(case hi=>rfl)
  simp only [cons_append,nil_append] at S
  go_wp2_with first | ((with_reducible apply wps_storea (T:=100) S 8 (vs:=[.int .i64 x.no,.int .i64 x.from_,.int .i64 x.to_,.int .i64 x.x.kind,.int .i64 x.x.m.ev.key.at_,.int .i64 x.x.m.ev.key.src,.int .i64 x.x.m.ev.key.sent,.int .i64 x.x.m.ev.key.no,.int .i64 x.x.m.ev.dst,.int .i64 x.x.m.ev.kind,.int .i64 x.x.m.ev.data,.bool x.x.m.anti,.int .i64 x.x.no,.int .i64 x.x.at_]) (m:=14));(case hx|hy|hi|hm|h1=>rfl);(case hn=>exact nle rfl);(case hT=>decide +kernel);clear S;intro wz S;simp only [set_cons_zero,set_cons_succ,setAll,setIfInBounds_toArray] at S) | ((with_reducible refine tot_done ?ht ?_);(case ht=>kernel_rfl))
  refine ⟨_,S,?_⟩
  clear S
  (refine W_mid (f:=0) (soft:=[14]) rfl ?hB ?_);(case hB=>decide +kernel)
  iterate 1
   (with_reducible apply softs_cons)
   (case hw=>
     (with_reducible apply soft_of);(case hi=>rfl)
     intro T wz S
     simp only [cons_append,nil_append] at S
     go_wp2_with first | ((with_reducible refine tot_done ?ht ?_);(case ht=>kernel_rfl))
     exact ⟨rfl,S⟩)
   (case hs=>exact ⟨_,rfl,by kernel_rfl⟩)
  refine softs_nil ?_
  (with_reducible apply W_done);(case hn=>rfl);(case hr=>decide +kernel)
  intro wz S
  repeat (first | simp only at S | simp only [pick] at S | simp only [nth] at S | simp only [set_cons_succ] at S | simp only [set_cons_zero] at S | simp only [setIfInBounds_toArray] at S | simp only [setAll] at S | simp only [cons_append] at S | simp only [nil_append] at S | simp only [List.append_nil] at S)
 all_goals
  go_wp2_with first | ((with_reducible apply wps_load S 8);(case hx|hi|hu=>rfl);(case hT=>decide +kernel)) | ((with_reducible apply wps_load S 6);(case hx|hi|hu=>rfl);(case hT=>decide +kernel)) | (go_at_call 92;obtain ⟨Fz,hF,hBk⟩:=S.lend [3] [] [0,1,2,4,5,6,7,8] rfl rfl rfl;simp only [cons_append,nil_append,pick,nth] at hF hBk;refine Calls.mono (HM.out _ _ hF) ?_;rintro rr wz ⟨rfl,T⟩;replace S:=(hBk _ _ T rfl).pick [1,2,3,0,4,5,6,7,8] rfl;clear hBk hF T;simp only [cons_append,nil_append,pick,nth] at S) | ((with_reducible refine tot_done ?ht ?_);(case ht=>kernel_rfl)) | ((with_reducible apply wps_text S);(case hm=>kernel_rfl);(case hB=>decide +kernel);clear S;intro wz S)
  go_ret
  have S2:=S.pick [1,2,3,7,4,5,6] rfl
  simp only [pick,nth] at S2
  exact ⟨rfl,kernel_close (k:=reported k x) (q:=q) HQ.out S2⟩
theorem kdeliver_last (X R : Nat) (vs hs : List Value) (c : Cfg) (g' : LogE) (k : KeE) (d : Int × Int × Int) (x : PkE) (z : Int) (hk : KeRun k) (hd1 : -9223372036854775808 ≤ d.2.2) (hd2 : d.2.2 ≤ 9223372036854775807) (hd : (k.net.way.map (·.no)).Nodup) (hb : boxB k.net.boxes d.2.1 = true) (hx : pickE d.2.1 d.2.2 k.net.way = some x)
 (hkd : x.x.kind = 4) (h0 : 0 ≤ x.from_) (hz : k.ma.reps[x.from_.toNat]? = some z) (hz0 : z < 0) (hno : x.x.no = k.ma.no) (ht : timeB x.x.at_ = true) (hr : k.ma.runs = true) (hall : repAll k.ma x.from_.toNat x.x.at_ = true) (hp : KePub (reported k x)) (hc : CommitsL R vs hs c k.log (reported k x).ma.time (freedK (reported k x).ma.time k.ws) g') (w : World) (F : Nat → Prop) (S0 : St F w w [kernelA X R k,ModA true 110 R vs hs c,Tab]) :
 Calls Tryz.prog 54 #[.pointer (some ⟨X,0,none⟩),.agg #[.int .i64 d.1,.int .i64 d.2.1,.int .i64 d.2.2]] w fun e w'=>e = .returned (.int .i64 0) ∧ St F w w' [kernelA X R (published g' (reported k x))]:=by
 obtain ⟨q,hq,S⟩:=kernel_open S0
 clear S0
 have HP:=Lib.hid fun w F S0=>netpick_ok q.nt k.net d.2.1 d.2.2 x hd1 hd2 hd hk.way hb hx w F S0
 have HM:=Lib.hid fun w F S0=>mreport_calls q.ma k.ma x.from_.toNat x.x.at_ z w F S0 (by rw [hk.reps];exact hk.many) hz hz0 ht hr
 rw [show ((x.from_.toNat : Nat) : Int) = x.from_ by omega,← hno,hall] at HM
 have HPB:=Lib.hid fun w F S0=>kpublish_calls X R vs hs c (reported k x) g' hp hc w F S0
 have HQ:=Lib.hid hq
 have f0 : (x.x.kind == 0) = false:=by rw [hkd];rfl
 have f1 : (x.x.kind == 1) = false:=by rw [hkd];rfl
 have f2 : (x.x.kind == 2) = false:=by rw [hkd];rfl
 have f3 : (x.x.kind == 3) = false:=by rw [hkd];rfl
 clear hk hq hkd hd1 hd2 hd hb hx hno hz hz0 ht hr hall h0 hp hc
 unfold kernelBlk at S
 go_enter Tryz.func54,Tryz.ntmps54
 go_upto_region 1 with first | ((with_reducible apply wps_boxa (E:=23) S);(case hx=>rfl);clear S;intro b3 wz S)
 replace S:=S.pick [0,1,2,3,5,6,7,8,9,4] rfl
 simp only [pick,nth] at S
 (refine wp_region_wt (soft:=[0,1,2,3,4,5,6,7]) (L:=[_,_,_,_,_,_,_,_,_]) (T:=[_]) S ?hm ?hB ?_);(case hm=>kernel_rfl);(case hB=>decide +kernel);clear S
 iterate 8
  (with_reducible apply softs_cons)
  (case hw=>
    (with_reducible apply soft_of);(case hi=>rfl)
    intro T wz S
    simp only [cons_append,nil_append] at S
    go_wp2_with first | ((with_reducible apply wps_load S 6);(case hx|hi|hu=>rfl);(case hT=>decide +kernel)) | ((with_reducible apply wps_load S 0);(case hx|hi|hu=>rfl);(case hT=>decide +kernel)) | ((with_reducible refine tot_done ?ht ?_);(case ht=>kernel_rfl))
    exact ⟨rfl,S⟩)
  (case hs=>exact ⟨_,rfl,by kernel_rfl⟩)
 refine softs_nil ?_
 (with_reducible apply W_hard2 (i:=8) (i':=12));(case hn=>rfl);(case hr=>decide +kernel)
 focus
  intro wz S
  (with_reducible apply hard_of);(case hi=>rfl)
  simp only [cons_append,nil_append] at S
  go_wp2_with first | (go_at_call 87;obtain ⟨Fz,hF,hBk⟩:=S.lend [9] [] [0,1,2,3,4,5,6,7,8] rfl rfl rfl;simp only [cons_append,nil_append,pick,nth] at hF hBk;refine Calls.mono (HP.out _ _ hF) ?_;rintro rr wz ⟨rfl,T⟩;replace S:=(hBk _ _ T rfl).pick [1,2,3,4,5,6,7,8,9,0] rfl;clear hBk hF T;simp only [cons_append,nil_append,pick,nth] at S) | ((with_reducible refine tot_done ?ht ?_);(case ht=>kernel_rfl))
  refine ⟨_,S,?_⟩
  clear S
  (refine W_mid (f:=3) (soft:=[9,10,11]) rfl ?hB ?_);(case hB=>decide +kernel)
  iterate 3
   (with_reducible apply softs_cons)
   (case hw=>
     (with_reducible apply soft_of);(case hi=>rfl)
     intro T wz S
     simp only [cons_append,nil_append] at S
     go_wp2_with first | ((with_reducible refine tot_done ?ht ?_);(case ht=>kernel_rfl))
     exact ⟨rfl,S⟩)
   (case hs=>exact ⟨_,rfl,by kernel_rfl⟩)
  refine softs_nil ?_
  (with_reducible apply W_hard1 (i:=12));(case hn=>rfl);(case hr=>decide +kernel)
  intro wz S
  (with_reducible apply hard_of);(case hi=>rfl)
  simp only [cons_append,nil_append] at S
  go_wp2_with first | ((with_reducible apply wps_alloca (E:=100) S);(case hz=>exact Tryz.zeroValue100);clear S;intro b5 wz S) | ((with_reducible refine tot_done ?ht ?_);(case ht=>kernel_rfl))
  refine ⟨_,S.pick [1,2,3,4,5,6,7,8,9,10,0] rfl,?_⟩
  clear S
  (with_reducible apply W_hard1 (i:=13));(case hn=>rfl);(case hr=>decide +kernel)
  intro wz S
  (with_reducible apply hard_of);(case hi=>rfl)
  simp only [cons_append,nil_append] at S
  go_wp2_with first | ((with_reducible apply wps_storea (T:=100) S 10 (vs:=[.int .i64 x.no,.int .i64 x.from_,.int .i64 x.to_,.int .i64 x.x.kind,.int .i64 x.x.m.ev.key.at_,.int .i64 x.x.m.ev.key.src,.int .i64 x.x.m.ev.key.sent,.int .i64 x.x.m.ev.key.no,.int .i64 x.x.m.ev.dst,.int .i64 x.x.m.ev.kind,.int .i64 x.x.m.ev.data,.bool x.x.m.anti,.int .i64 x.x.no,.int .i64 x.x.at_]) (m:=14));(case hx|hy|hi|hm|h1=>rfl);(case hn=>exact nle rfl);(case hT=>decide +kernel);clear S;intro wz S;simp only [set_cons_zero,set_cons_succ,setAll,setIfInBounds_toArray] at S) | ((with_reducible refine tot_done ?ht ?_);(case ht=>kernel_rfl))
  refine ⟨_,S,?_⟩
  clear S
  (refine W_mid (f:=0) (soft:=[14]) rfl ?hB ?_);(case hB=>decide +kernel)
  iterate 1
   (with_reducible apply softs_cons)
   (case hw=>
     (with_reducible apply soft_of);(case hi=>rfl)
     intro T wz S
     simp only [cons_append,nil_append] at S
     go_wp2_with first | ((with_reducible refine tot_done ?ht ?_);(case ht=>kernel_rfl))
     exact ⟨rfl,S⟩)
   (case hs=>exact ⟨_,rfl,by kernel_rfl⟩)
  refine softs_nil ?_
  (with_reducible apply W_done);(case hn=>rfl);(case hr=>decide +kernel)
  intro wz S
  repeat (first | simp only at S | simp only [pick] at S | simp only [nth] at S | simp only [set_cons_succ] at S | simp only [set_cons_zero] at S | simp only [setIfInBounds_toArray] at S | simp only [setAll] at S | simp only [cons_append] at S | simp only [nil_append] at S | simp only [List.append_nil] at S)
 rotate_left 1
 focus
  intro wz S
  (with_reducible apply hard_of);(case hi=>rfl)
  simp only [cons_append,nil_append] at S
  go_wp2_with first | ((with_reducible apply wps_alloca (E:=100) S);(case hz=>exact Tryz.zeroValue100);clear S;intro b5 wz S) | ((with_reducible refine tot_done ?ht ?_);(case ht=>kernel_rfl))
  refine ⟨_,S.pick [1,2,3,4,5,6,7,8,9,10,0] rfl,?_⟩
  clear S
  (with_reducible apply W_hard1 (i:=8));(case hn=>rfl);(case hr=>decide +kernel)
  intro wz S
  (with_reducible apply hard_of);(case hi=>rfl)
  simp only [cons_append,nil_append] at S
  go_wp2_with first | (go_at_call 87;obtain ⟨Fz,hF,hBk⟩:=S.lend [9] [] [0,1,2,3,4,5,6,7,8,10] rfl rfl rfl;simp only [cons_append,nil_append,pick,nth] at hF hBk;refine Calls.mono (HP.out _ _ hF) ?_;rintro rr wz ⟨rfl,T⟩;replace S:=(hBk _ _ T rfl).pick [1,2,3,4,5,6,7,8,9,0,10] rfl;clear hBk hF T;simp only [cons_append,nil_append,pick,nth] at S) | ((with_reducible refine tot_done ?ht ?_);(case ht=>kernel_rfl))
  refine ⟨_,S,?_⟩
  clear S
  (refine W_mid (f:=2) (soft:=[9,10,11]) rfl ?hB ?_);(case hB=>decide +kernel)
  iterate 3
   (with_reducible apply softs_cons)
   (case hw=>
     (with_reducible apply soft_of);(case hi=>rfl)
     intro T wz S
     simp only [cons_append,nil_append] at S
     go_wp2_with first | ((with_reducible refine tot_done ?ht ?_);(case ht=>kernel_rfl))
     exact ⟨rfl,S⟩)
   (case hs=>exact ⟨_,rfl,by kernel_rfl⟩)
  refine softs_nil ?_
  (with_reducible apply W_hard1 (i:=13));(case hn=>rfl);(case hr=>decide +kernel)
  intro wz S
  (with_reducible apply hard_of);(case hi=>rfl)
  simp only [cons_append,nil_append] at S
  go_wp2_with first | ((with_reducible apply wps_storea (T:=100) S 10 (vs:=[.int .i64 x.no,.int .i64 x.from_,.int .i64 x.to_,.int .i64 x.x.kind,.int .i64 x.x.m.ev.key.at_,.int .i64 x.x.m.ev.key.src,.int .i64 x.x.m.ev.key.sent,.int .i64 x.x.m.ev.key.no,.int .i64 x.x.m.ev.dst,.int .i64 x.x.m.ev.kind,.int .i64 x.x.m.ev.data,.bool x.x.m.anti,.int .i64 x.x.no,.int .i64 x.x.at_]) (m:=14));(case hx|hy|hi|hm|h1=>rfl);(case hn=>exact nle rfl);(case hT=>decide +kernel);clear S;intro wz S;simp only [set_cons_zero,set_cons_succ,setAll,setIfInBounds_toArray] at S) | ((with_reducible refine tot_done ?ht ?_);(case ht=>kernel_rfl))
  refine ⟨_,S,?_⟩
  clear S
  (refine W_mid (f:=0) (soft:=[14]) rfl ?hB ?_);(case hB=>decide +kernel)
  iterate 1
   (with_reducible apply softs_cons)
   (case hw=>
     (with_reducible apply soft_of);(case hi=>rfl)
     intro T wz S
     simp only [cons_append,nil_append] at S
     go_wp2_with first | ((with_reducible refine tot_done ?ht ?_);(case ht=>kernel_rfl))
     exact ⟨rfl,S⟩)
   (case hs=>exact ⟨_,rfl,by kernel_rfl⟩)
  refine softs_nil ?_
  (with_reducible apply W_done);(case hn=>rfl);(case hr=>decide +kernel)
  intro wz S
  repeat (first | simp only at S | simp only [pick] at S | simp only [nth] at S | simp only [set_cons_succ] at S | simp only [set_cons_zero] at S | simp only [setIfInBounds_toArray] at S | simp only [setAll] at S | simp only [cons_append] at S | simp only [nil_append] at S | simp only [List.append_nil] at S)
 all_goals
  go_wp2_with first | ((with_reducible apply wps_load S 10);(case hx|hi|hu=>rfl);(case hT=>decide +kernel)) | ((with_reducible apply wps_load S 6);(case hx|hi|hu=>rfl);(case hT=>decide +kernel)) | (go_at_call 92;obtain ⟨Fz,hF,hBk⟩:=S.lend [3] [] [0,1,2,4,5,6,7,8,9,10] rfl rfl rfl;simp only [cons_append,nil_append,pick,nth] at hF hBk;refine Calls.mono (HM.out _ _ hF) ?_;rintro rr wz ⟨rfl,T⟩;replace S:=(hBk _ _ T rfl).pick [1,2,3,0,4,5,6,7,8,9,10] rfl;clear hBk hF T;simp only [cons_append,nil_append,pick,nth] at S) | (go_at_call 93;have S2:=S.pick [1,2,3,9,4,5,6,7,8] rfl;simp only [pick,nth] at S2;have S3:=kernel_close (k:=reported k x) (q:=q) HQ.out S2;clear S S2;obtain ⟨Fz,hF,hBk⟩:=S3.lend [0] [1,2] [] rfl rfl rfl;simp only [cons_append,nil_append,pick,nth] at hF hBk;refine Calls.mono (HPB.out _ _ hF) ?_;rintro rr wz ⟨rfl,T⟩;have S:=hBk _ _ T rfl;clear hBk hF T S3;simp only [cons_append,nil_append] at S) | ((with_reducible refine tot_done ?ht ?_);(case ht=>kernel_rfl)) | ((with_reducible apply wps_text S);(case hm=>kernel_rfl);(case hB=>decide +kernel);clear S;intro wz S)
  go_ret
  exact ⟨rfl,S⟩
end Go.Proofs.YtmjljoaakdocaaaGreatDoor
/- The walks of a kernel's one and Do. -/
namespace Go.Proofs.YtmjljoaakdocaaaGreatDoor
open Go Go.RowKit Reg Mem
open List (set_cons_succ set_cons_zero setIfInBounds_toArray cons_append nil_append)
def DoesK (X R : Nat) (vs hs : List Value) (c : Cfg) (k k' : KeE) (f : FuncId) (what a b : Int) : Prop:=
 ∀ (w : World) (F : Nat → Prop),St F w w [kernelA X R k,ModA true 110 R vs hs c,Tab] → Calls Tryz.prog f #[.pointer (some ⟨X,0,none⟩),.agg #[.int .i64 what,.int .i64 a,.int .i64 b]] w fun e w'=>e = .returned (.int .i64 0) ∧ St F w w' [kernelA X R k']
theorem kone_round (X R : Nat) (vs hs : List Value) (c : Cfg) (k k' : KeE) (a b : Int) (hov : k.over = false) (HT : Hid (DoesK X R vs hs c k k' 55 2 a b)) : DoesK X R vs hs c k k' 30 2 a b:=by
 intro w F S0
 obtain ⟨q,hq,S⟩:=kernel_open S0
 clear S0
 have HQ:=Lib.hid hq
 have e1 : kernelBlk false X k q = Blk false X #[.pointer (some ⟨q.lg,0,none⟩),q.v,.pointer (some ⟨q.nt,0,none⟩),.pointer (some ⟨q.ma,0,none⟩),.pointer (some ⟨q.bu,0,none⟩),.int .i64 k.window,.int .i64 k.fan,.bool false] 65:=by
  unfold kernelBlk;rw [hov]
 rw [e1] at S
 have HE:=Lib.hid e1
 clear e1 hq hov
 go_enter Tryz.func30,Tryz.ntmps30
 go_wp2_with first | ((with_reducible apply wps_boxa (E:=23) S);(case hx=>rfl);clear S;intro b3 wz S) | ((with_reducible apply wps_load S 7);(case hx|hi|hu=>rfl);(case hT=>decide +kernel)) | ((with_reducible apply wps_alloca (E:=150) S);(case hz=>exact Tryz.zeroValue150);clear S;intro b5 wz S) | ((with_reducible apply wps_storea (T:=150) S 0 (vs:=[.func (.func 53) #[] #[],.func (.func 54) #[] #[],.func (.func 55) #[] #[],.func (.func 56) #[] #[]]) (m:=4));(case hx|hy|hi|hm|h1=>rfl);(case hn=>exact nle rfl);(case hT=>decide +kernel);clear S;intro wz S;simp only [set_cons_zero,set_cons_succ,setAll,setIfInBounds_toArray] at S) | ((with_reducible apply wps_load S 1);(case hx|hi|hu=>rfl);(case hT=>decide +kernel)) | ((with_reducible apply wps_load S 0);(case hx|hi|hu=>rfl);(case hT=>decide +kernel)) | ((with_reducible apply wps_loada (T:=23) (k:=3) S 1);(case hx|hi=>rfl);(case hk=>exact nle rfl);(case hT=>decide +kernel)) | (go_at_call 55;have S2:=S.pick [2,3,4,5,6,7,8,9,10] rfl;simp only [pick,nth] at S2;rw [← HE.out] at S2;have S3:=kernel_close (k:=k) (q:=q) HQ.out S2;clear S S2;obtain ⟨Fz,hF,hBk⟩:=S3.lend [0] [1,2] [] rfl rfl rfl;simp only [cons_append,nil_append,pick,nth] at hF hBk;refine Calls.mono (HT.out _ _ hF) ?_;rintro rr wz ⟨rfl,T⟩;have S:=hBk _ _ T rfl;clear hBk hF T S3;simp only [cons_append,nil_append] at S) | ((with_reducible refine tot_done ?ht ?_);(case ht=>kernel_rfl)) | ((with_reducible apply wps_text S);(case hm=>kernel_rfl);(case hB=>decide +kernel);clear S;intro wz S)
 go_ret
 exact ⟨rfl,S⟩
theorem kone_deliver (X R : Nat) (vs hs : List Value) (c : Cfg) (k k' : KeE) (a b : Int) (hov : k.over = false) (HT : Hid (DoesK X R vs hs c k k' 54 1 a b)) : DoesK X R vs hs c k k' 30 1 a b:=by
 intro w F S0
 obtain ⟨q,hq,S⟩:=kernel_open S0
 clear S0
 have HQ:=Lib.hid hq
 have e1 : kernelBlk false X k q = Blk false X #[.pointer (some ⟨q.lg,0,none⟩),q.v,.pointer (some ⟨q.nt,0,none⟩),.pointer (some ⟨q.ma,0,none⟩),.pointer (some ⟨q.bu,0,none⟩),.int .i64 k.window,.int .i64 k.fan,.bool false] 65:=by
  unfold kernelBlk;rw [hov]
 rw [e1] at S
 have HE:=Lib.hid e1
 clear e1 hq hov
 go_enter Tryz.func30,Tryz.ntmps30
 go_wp2_with first | ((with_reducible apply wps_boxa (E:=23) S);(case hx=>rfl);clear S;intro b3 wz S) | ((with_reducible apply wps_load S 7);(case hx|hi|hu=>rfl);(case hT=>decide +kernel)) | ((with_reducible apply wps_alloca (E:=150) S);(case hz=>exact Tryz.zeroValue150);clear S;intro b5 wz S) | ((with_reducible apply wps_storea (T:=150) S 0 (vs:=[.func (.func 53) #[] #[],.func (.func 54) #[] #[],.func (.func 55) #[] #[],.func (.func 56) #[] #[]]) (m:=4));(case hx|hy|hi|hm|h1=>rfl);(case hn=>exact nle rfl);(case hT=>decide +kernel);clear S;intro wz S;simp only [set_cons_zero,set_cons_succ,setAll,setIfInBounds_toArray] at S) | ((with_reducible apply wps_load S 1);(case hx|hi|hu=>rfl);(case hT=>decide +kernel)) | ((with_reducible apply wps_load S 0);(case hx|hi|hu=>rfl);(case hT=>decide +kernel)) | ((with_reducible apply wps_loada (T:=23) (k:=3) S 1);(case hx|hi=>rfl);(case hk=>exact nle rfl);(case hT=>decide +kernel)) | (go_at_call 54;have S2:=S.pick [2,3,4,5,6,7,8,9,10] rfl;simp only [pick,nth] at S2;rw [← HE.out] at S2;have S3:=kernel_close (k:=k) (q:=q) HQ.out S2;clear S S2;obtain ⟨Fz,hF,hBk⟩:=S3.lend [0] [1,2] [] rfl rfl rfl;simp only [cons_append,nil_append,pick,nth] at hF hBk;refine Calls.mono (HT.out _ _ hF) ?_;rintro rr wz ⟨rfl,T⟩;have S:=hBk _ _ T rfl;clear hBk hF T S3;simp only [cons_append,nil_append] at S) | ((with_reducible refine tot_done ?ht ?_);(case ht=>kernel_rfl)) | ((with_reducible apply wps_text S);(case hm=>kernel_rfl);(case hB=>decide +kernel);clear S;intro wz S)
 go_ret
 exact ⟨rfl,S⟩
theorem kone_over (X R : Nat) (k : KeE) (x : Int × Int × Int) (hov : k.over = true) (w : World) (F : Nat → Prop) (h : (kernelA X R k).at_ w F) :
 Calls Tryz.prog 30 #[.pointer (some ⟨X,0,none⟩),.agg #[.int .i64 x.1,.int .i64 x.2.1,.int .i64 x.2.2]] w fun e w'=>e = .returned (.int .i64 21) ∧ Below w.heap.size w w':=by
 obtain ⟨q,vn,hq,S0⟩:=kernelR h
 have S:=S0.pick [0] rfl
 simp only [pick,nth] at S
 clear h S0 hq
 unfold kernelBlk at S
 rw [hov] at S
 clear hov
 go_enter Tryz.func30,Tryz.ntmps30
 go_wp2_with first | ((with_reducible apply wps_boxa (E:=23) S);(case hx=>rfl);clear S;intro b3 wz S) | ((with_reducible apply wps_load S 1);(case hx|hi|hu=>rfl);(case hT=>decide +kernel))
 go_ret
 exact ⟨rfl,S.below⟩
def dothE (x : Int × Int × Int) : List Value:=[.int .i64 x.1,.int .i64 x.2.1,.int .i64 x.2.2]
theorem dothElen : ∀ x,(dothE x).length = 3:=fun _=>rfl
def KdRel (X R : Nat) (vs hs : List Value) (c : Cfg) (ks : Nat → KeE) (v : Value) (l : List (Int × Int × Int)) (F : Nat → Prop) (w : World) (i : Value) (wr : World) : Prop:=
 ∃ j : Nat,j ≤ l.length ∧ i = .int .i64 j ∧ St F w wr [kernelA X R (ks j),ModA true 110 R vs hs c,Tab,Sl true dothE 3 v l]
theorem kdo_calls (X R : Nat) (vs hs : List Value) (c : Cfg) (ks : Nat → KeE) (v : Value) (l : List (Int × Int × Int)) (hstep : ∀ (j : Nat) x,l[j]? = some x → DoesK X R vs hs c (ks j) (ks (j + 1)) 30 x.1 x.2.1 x.2.2) (hn : l.length ≤ 1000) (w : World) (F : Nat → Prop) (S0 : St F w w [kernelA X R (ks 0),ModA true 110 R vs hs c,Tab,Sl true dothE 3 v l]) :
 Calls Tryz.prog 7 #[.pointer (some ⟨X,0,none⟩),v] w fun e w'=>e = .returned (.tuple #[.int .i64 l.length,.int .i64 0]) ∧ St F w w' [kernelA X R (ks l.length)]:=by
 have S:=S0
 clear S0
 obtain ⟨ad,cv,rfl,_⟩:=(S.sl 3 rfl).elim fun _ h=>h.form
 have HS:=Lib.hid hstep
 clear hstep
 go_enter Tryz.func7,Tryz.ntmps7
 go_wp2_with first | ((with_reducible apply wps_loada (T:=23) (k:=3) S 0);(case hx|hi=>rfl);(case hk=>exact nle rfl);(case hT=>decide +kernel))
 go_loopw [13] (fun i wr=>KdRel X R vs hs c ks (.slice ad l.length cv) l F w i wr) (fun i _=>l.length - (intOf i).toNat)
 case atStart=>exact ⟨0,Nat.zero_le _,rfl,S⟩
 case round=>
  clear S
  obtain ⟨j,hj,rfl,S⟩:=hrel
  by_cases hlt : j < l.length
  · obtain ⟨x,hx⟩ : ∃ x,l[j]? = some x:=⟨_,List.getElem?_eq_getElem hlt⟩
    obtain ⟨Rb,o,rfl⟩ : ∃ R o,ad = some ⟨R,o,none⟩:=(S.sl 3 rfl).elim fun F h=>h.head (by omega)
    have hlt2 : (j : Int) < l.length:=by omega
    have HX:=Lib.hid hx
    have HD:=Lib.hid (HS.out j x hx)
    unfold DoesK at HD
    clear hx
    go_wp2_with first | ((with_reducible apply wps_loada_el S 3 (hj:=HX.out) (q:=0) (vs:=[.int .i64 x.1,.int .i64 x.2.1,.int .i64 x.2.2]) (m:=3));(case hx|hi=>rfl);(case hn=>omega);(case hm|hv=>rfl);(case hT=>decide +kernel)) | ((with_reducible apply wps_alloca (E:=23) S);(case hz=>exact Tryz.zeroValue23);clear S;intro b7 wz S) | ((with_reducible apply wps_storea (T:=23) S 0 (vs:=[.int .i64 x.1,.int .i64 x.2.1,.int .i64 x.2.2]) (m:=3));(case hx|hy|hi|hm|h1=>rfl);(case hn=>exact nle rfl);(case hT=>decide +kernel);clear S;intro wz S;simp only [set_cons_zero,set_cons_succ,setAll,setIfInBounds_toArray] at S) | ((with_reducible apply wps_loada (T:=23) (k:=3) S 0);(case hx|hi=>rfl);(case hk=>exact nle rfl);(case hT=>decide +kernel)) | (go_at_call 30;obtain ⟨Fz,hF,hBk⟩:=S.lend [1] [2,3] [2,3,4] rfl rfl rfl;simp only [cons_append,nil_append,pick,nth] at hF hBk;refine Calls.mono (HD.out _ _ hF) ?_;rintro rr wz ⟨rfl,T⟩;replace S:=hBk _ _ T rfl;clear hBk hF T;simp only [cons_append,nil_append] at S)
    go_roundw
    case rel=>exact ⟨j + 1,by omega,by go_num,S⟩
    case measure=>first | (simp [intOf];done) | (simp [intOf];omega)
  · obtain rfl : j = l.length:=by omega
    go_wp2_with first | ((with_reducible apply wps_loada (T:=23) (k:=3) S 0);(case hx|hi=>rfl);(case hk=>exact nle rfl);(case hT=>decide +kernel))
    (try simp only [Exit.inBlock,Exit.then]);refine bodyPost_ret (results2 rfl (res_tmp rfl) (res_tmp rfl)) rfl ?_
    exact ⟨rfl,S.pick [0] rfl⟩
theorem kdo_over (X R : Nat) (k : KeE) (v : Value) (x : Int × Int × Int) (hov : k.over = true) (w : World) (F F2 : Nat → Prop) (h : (kernelA X R k).at_ w F) (h2 : (Sl true dothE 3 v [x]).at_ w F2) :
 Calls Tryz.prog 7 #[.pointer (some ⟨X,0,none⟩),v] w fun e w'=>e = .returned (.tuple #[.int .i64 0,.int .i64 21]) ∧ Below w.heap.size w w':=by
 have S : St (fun _=>False) w w [rd (kernelA X R k),Sl true dothE 3 v [x]]:=((St.init _ w).share (A:=Sl true dothE 3 v [x]) rfl rfl h2).share (A:=rd (kernelA X R k)) rfl rfl h
 clear h h2
 obtain ⟨ad,cv,rfl,_⟩:=(S.sl 1 rfl).elim fun _ h=>h.form
 obtain ⟨Rb,o,rfl⟩ : ∃ R o,ad = some ⟨R,o,none⟩:=(S.sl 1 rfl).elim fun F h=>h.head (by simp)
 have e1 : ([x] : List (Int × Int × Int)).length = 1:=rfl
 rw [e1] at S ⊢
 have HX : Hid ([x][0]? = some x):=Lib.hid rfl
 have HO:=Lib.hid fun w F h=>kone_over X R k x hov w F h
 clear hov e1
 go_enter Tryz.func7,Tryz.ntmps7
 go_wp2_with first | ((with_reducible apply wps_loada (T:=23) (k:=3) S 0);(case hx|hi=>rfl);(case hk=>exact nle rfl);(case hT=>decide +kernel))
 go_loopw [13] (fun i wr=>i = .int .i64 0 ∧ St (fun _=>False) w wr [rd (kernelA X R k),Sl true dothE 3 (.slice (some ⟨Rb,o,none⟩) 1 cv) [x]]) (fun i _=>1 - (intOf i).toNat)
 case atStart=>exact ⟨rfl,S⟩
 case round=>
  clear S
  obtain ⟨rfl,S⟩:=hrel
  go_wp2_with first | ((with_reducible apply wps_loada_el S 1 (hj:=HX.out) (q:=0) (vs:=[.int .i64 x.1,.int .i64 x.2.1,.int .i64 x.2.2]) (m:=3));(case hx|hi=>rfl);(case hn=>omega);(case hm|hv=>rfl);(case hT=>decide +kernel)) | ((with_reducible apply wps_alloca (E:=23) S);(case hz=>exact Tryz.zeroValue23);clear S;intro b7 wz S) | ((with_reducible apply wps_storea (T:=23) S 0 (vs:=[.int .i64 x.1,.int .i64 x.2.1,.int .i64 x.2.2]) (m:=3));(case hx|hy|hi|hm|h1=>rfl);(case hn=>exact nle rfl);(case hT=>decide +kernel);clear S;intro wz S;simp only [set_cons_zero,set_cons_succ,setAll,setIfInBounds_toArray] at S) | ((with_reducible apply wps_loada (T:=23) (k:=3) S 0);(case hx|hi=>rfl);(case hk=>exact nle rfl);(case hT=>decide +kernel)) | (go_at_call 30;refine Calls.mono (HO.out _ _ (rd_get (S.get (i:=1) rfl)).choose_spec) ?_;rintro e wz ⟨rfl,hE⟩;replace S:=S.ext (Keep.of_below hE);clear hE)
  (try simp only [Exit.inBlock,Exit.then]);refine bodyPost_ret (results2 rfl (res_tmp rfl) (res_tmp rfl)) rfl ?_
  exact ⟨rfl,S.below⟩
end Go.Proofs.YtmjljoaakdocaaaGreatDoor
/- The chapter's example, as a chain of kernels (plain). -/
namespace Go.Proofs.YtmjljoaakdocaaaGreatDoor
open Go Go.RowKit Reg Mem
open List (set_cons_succ set_cons_zero setIfInBounds_toArray cons_append nil_append)
def lpOkB (p : LpE) : Bool:=decide (p.evs.length ≤ 65536) && decide (p.ans.length ≤ 65536) && decide (p.recs.length ≤ 65536) && decide (p.svs.length ≤ 65536)
def wkFineB (k : WkE) : Bool:=decide ((k.ps.map (·.1)).Pairwise (· < ·)) && decide (k.ps.length ≤ 32) && k.ps.all fun q=>lpOkB q.2
def keRunB (k : KeE) : Bool:=decide (k.ws.length ≤ 8) && (k.ws.all wkFineB) && decide (k.net.way.length ≤ 900000) && decide (k.ma.reps.length = k.ws.length) && decide (0 ≤ k.ma.no) && decide (k.ma.no ≤ 1000000) && decide (k.net.boxes = k.ws.length + 1) && decide (0 ≤ k.net.next) && decide (k.net.next ≤ 1000000)
theorem lpOk_of {p : LpE} (h : lpOkB p = true) : LpOk p:=by
 unfold lpOkB at h
 simp only [Bool.and_eq_true,decide_eq_true_eq] at h
 exact ⟨h.1.1.1,h.1.1.2,h.1.2,h.2⟩
theorem wkFine_of {k : WkE} (h : wkFineB k = true) : WkFine k:=by
 unfold wkFineB at h
 simp only [Bool.and_eq_true,decide_eq_true_eq] at h
 exact ⟨h.1.1,h.1.2,fun q hq=>lpOk_of (List.all_eq_true.1 h.2 q hq)⟩
theorem keRun_of {k : KeE} (h : keRunB k = true) : KeRun k:=by
 unfold keRunB at h
 simp only [Bool.and_eq_true,decide_eq_true_eq] at h
 obtain ⟨⟨⟨⟨⟨⟨⟨⟨h1,h2⟩,h3⟩,h4⟩,h5⟩,h6⟩,h7⟩,h8⟩,h9⟩:=h
 exact { many:=h1,ok:=fun w hw=>wkFine_of (List.all_eq_true.1 h2 w hw),way:=Nat.le_trans h3 (by decide),reps:=h4,no0:=h5,no1:=h6,boxes:=h7,next0:=h8,next1:=h9,way1:=h3 }
def c19 : Cfg:=⟨[[]],List.replicate 2 ⟨0,⟨0,0,0,0⟩⟩,[],9,1,0⟩
theorem c19_ok : cfgE c19 = 0:=by decide +kernel
theorem c19_mid : Mid c19:=⟨by decide,by decide,by decide⟩
theorem c19_mid2 : ∀ p ∈ c19.programs,p.length ≤ 65536:=by decide
def d19 : KcE:=⟨2,1,false,0,9,0⟩
def cntOkB (m : Int) (x : CntE) : Bool:=decide (0 ≤ x.a) && decide (0 ≤ x.b) && decide (0 ≤ x.c) && decide (0 ≤ x.d) && decide (0 ≤ x.e) && decide (x.a ≤ m) && decide (x.b ≤ m) && decide (x.c ≤ m) && decide (x.d ≤ m) && decide (x.e ≤ m)
theorem cntOk_of {m : Int} {x : CntE} (h : cntOkB m x = true) : CntOk m x:=by
 unfold cntOkB at h
 simp only [Bool.and_eq_true,decide_eq_true_eq] at h
 obtain ⟨⟨⟨⟨⟨⟨⟨⟨⟨a,b⟩,c⟩,d⟩,e⟩,f⟩,g⟩,i⟩,j⟩,l⟩:=h
 exact ⟨a,b,c,d,e,f,g,i,j,l⟩
theorem k19_run0 : keRunB (newK1 c19 d19) = true:=by decide +kernel
theorem k19_ok : KcOk c19 d19 where
 w1:=by decide
 w2:=by decide
 ev:=by decide
 win:=by decide
 r1:=by decide
 r2:=by decide
 r3:=by decide
 r4:=by decide
 lps:=by decide
 starts:=by decide
 times:=by decide
 ok:=(keRun_of k19_run0).toKeOk
 cnt:=cntOk_of (by decide +kernel)
 fit:=by decide +kernel
def k19_0 : KeE:=newK c19 d19
def k19_1 : KeE:=krounded k19_0
def x19_1 : PkE:=⟨0,2,0,startI 1⟩
def w19 (i : Int) : WkE:=newWk c19 i 2 1 false
def k19_2 : KeE:=started k19_1 x19_1 0 (w19 0)
def x19_2 : PkE:=⟨1,2,1,startI 1⟩
def k19_3 : KeE:=started k19_2 x19_2 1 (w19 1)
def x19_3 : PkE:=⟨2,0,2,reportI 1 1073741825⟩
def k19_4 : KeE:=reported k19_3 x19_3
def x19_4 : PkE:=⟨3,1,2,reportI 1 1073741825⟩
def g19 : LogE:=⟨k19_4.log.ss,(reported k19_4 x19_4).ma.time,k19_4.log.done⟩
def k19_5 : KeE:=published g19 (reported k19_4 x19_4)
theorem k19_r0 : KeRun k19_0:=keRun_of (by decide +kernel)
theorem k19_r1 : KeRun k19_1:=keRun_of (by decide +kernel)
theorem k19_r2 : KeRun k19_2:=keRun_of (by decide +kernel)
theorem k19_r3 : KeRun k19_3:=keRun_of (by decide +kernel)
theorem k19_r4 : KeRun k19_4:=keRun_of (by decide +kernel)
theorem k19_p1 : pickE 0 0 k19_1.net.way = some x19_1:=by kernel_rfl
theorem k19_p2 : pickE 1 0 k19_2.net.way = some x19_2:=by kernel_rfl
theorem k19_p3 : pickE 2 0 k19_3.net.way = some x19_3:=by kernel_rfl
theorem k19_p4 : pickE 2 0 k19_4.net.way = some x19_4:=by kernel_rfl
theorem k19_w1 : k19_1.ws[x19_1.to_.toNat]? = some (w19 0):=by kernel_rfl
theorem k19_w2 : k19_2.ws[x19_2.to_.toNat]? = some (w19 1):=by kernel_rfl
theorem k19_z3 : k19_3.ma.reps[x19_3.from_.toNat]? = some (-1):=by kernel_rfl
theorem k19_z4 : k19_4.ma.reps[x19_4.from_.toNat]? = some (-1):=by kernel_rfl
theorem k19_a3 : repAll k19_3.ma x19_3.from_.toNat x19_3.x.at_ = false:=by decide +kernel
theorem k19_a4 : repAll k19_4.ma x19_4.from_.toNat x19_4.x.at_ = true:=by decide +kernel
def svsB (k : WkE) : Bool:=k.ps.all fun q=>q.2.svs.all fun x=>decide (-9223372036854775808 ≤ x.1) && decide (x.1 < 9223372036854775807)
theorem k19_svs : (k19_4.ws.all svsB) = true:=by decide +kernel
theorem k19_free : (k19_4.ws.all fun w=>(localE w).all fun t=>decide ((reported k19_4 x19_4).ma.time ≤ t)) = true:=by decide +kernel
theorem k19_none : freedK (reported k19_4 x19_4).ma.time k19_4.ws = []:=by kernel_rfl
theorem k19_pub : KePub (reported k19_4 x19_4) where
 toKeOk:={ k19_r4.toKeOk with way:=Nat.le_trans (List.length_filter_le ..) k19_r4.way }
 svs:=fun w hw q hq x hx=>by
  have:=List.all_eq_true.1 (List.all_eq_true.1 (List.all_eq_true.1 k19_svs w hw) q hq) x hx
  simpa using this
 free:=fun w hw t ht=>by
  have:=List.all_eq_true.1 (List.all_eq_true.1 k19_free w hw) t ht
  simpa using this
theorem k19_com (R : Nat) (vs hs : List Value) : CommitsL R vs hs c19 k19_4.log (reported k19_4 x19_4).ma.time (freedK (reported k19_4 x19_4).ma.time k19_4.ws) g19:=by
 unfold CommitsL
 rw [k19_none]
 intro lg v w F S0
 refine (commit_empty lg R k19_4.log _ v w F (S0.pick [0,1] rfl) (by decide +kernel) (by decide +kernel)).mono ?_
 rintro e w' ⟨rfl,S⟩
 exact ⟨none,0,0,rfl,S⟩
theorem k19_loc1 : ∀ t ∈ localE (w19 0),timeB t = true:=by decide +kernel
theorem k19_loc2 : ∀ t ∈ localE (w19 1),timeB t = true:=by decide +kernel
theorem k19_over : k19_5.over = true:=by kernel_rfl
theorem k19_time : k19_5.log.time = 1073741825:=by kernel_rfl
def ks19 : Nat → KeE
 | 0=>k19_0
 | 1=>k19_1
 | 2=>k19_2
 | 3=>k19_3
 | 4=>k19_4
 | _=>k19_5
def l19 : List (Int × Int × Int):=[(2,0,0),(1,0,0),(1,1,0),(1,2,0),(1,2,0)]
theorem steps19 (X R : Nat) (vs hs : List Value) : ∀ (j : Nat) x,l19[j]? = some x → DoesK X R vs hs c19 (ks19 j) (ks19 (j + 1)) 30 x.1 x.2.1 x.2.2:=by
 intro j x h
 have hj : j < 5:=(List.getElem?_eq_some_iff.1 h).1
 obtain rfl | rfl | rfl | rfl | rfl : j = 0 ∨ j = 1 ∨ j = 2 ∨ j = 3 ∨ j = 4:=by omega
 · obtain rfl : (2,0,0) = x:=Option.some.inj h
   exact kone_round X R vs hs c19 k19_0 k19_1 0 0 (by kernel_rfl) (Lib.hid fun w F S0=>kround_calls X R k19_0 (2,0,0) k19_r0 (by kernel_rfl) w F (S0.pick [0] rfl))
 · obtain rfl : (1,0,0) = x:=Option.some.inj h
   exact kone_deliver X R vs hs c19 k19_1 k19_2 0 0 (by kernel_rfl) (Lib.hid fun w F S0=>kdeliver_start X R k19_1 (1,0,0) x19_1 (w19 0) k19_r1 (by decide) (by decide) (by decide +kernel) (by decide +kernel) k19_p1 (by kernel_rfl) (by decide) (by decide +kernel) k19_w1 (by kernel_rfl) (by decide +kernel) (by decide +kernel) k19_loc1 w F (S0.pick [0] rfl))
 · obtain rfl : (1,1,0) = x:=Option.some.inj h
   exact kone_deliver X R vs hs c19 k19_2 k19_3 1 0 (by kernel_rfl) (Lib.hid fun w F S0=>kdeliver_start X R k19_2 (1,1,0) x19_2 (w19 1) k19_r2 (by decide) (by decide) (by decide +kernel) (by decide +kernel) k19_p2 (by kernel_rfl) (by decide) (by decide +kernel) k19_w2 (by kernel_rfl) (by decide +kernel) (by decide +kernel) k19_loc2 w F (S0.pick [0] rfl))
 · obtain rfl : (1,2,0) = x:=Option.some.inj h
   exact kone_deliver X R vs hs c19 k19_3 k19_4 2 0 (by kernel_rfl) (Lib.hid fun w F S0=>kdeliver_rep X R k19_3 (1,2,0) x19_3 (-1) k19_r3 (by decide) (by decide) (by decide +kernel) (by decide +kernel) k19_p3 (by kernel_rfl) (by decide) k19_z3 (by decide) (by kernel_rfl) (by decide +kernel) (by kernel_rfl) k19_a3 w F (S0.pick [0] rfl))
 · obtain rfl : (1,2,0) = x:=Option.some.inj h
   exact kone_deliver X R vs hs c19 k19_4 k19_5 2 0 (by kernel_rfl) (Lib.hid fun w F S0=>kdeliver_last X R vs hs c19 g19 k19_4 (1,2,0) x19_4 (-1) k19_r4 (by decide) (by decide) (by decide +kernel) (by decide +kernel) k19_p4 (by kernel_rfl) (by decide) k19_z4 (by decide) (by kernel_rfl) (by decide +kernel) (by kernel_rfl) k19_a4 k19_pub (k19_com R vs hs) w F S0)
end Go.Proofs.YtmjljoaakdocaaaGreatDoor
/- The walks of the chapter's example and of the law KernelNil. -/
namespace Go.Proofs.YtmjljoaakdocaaaGreatDoor
open Go Go.RowKit Reg Mem
open List (set_cons_succ set_cons_zero setIfInBounds_toArray cons_append nil_append)
theorem zero_Pl : zeroIs Tryz.prog 163 5 (Place.cells ⟨0,⟨0,0,0,0⟩⟩):=⟨_,.agg #[.int .i64 0,.int .i64 0,.int .i64 0,.int .i64 0,.int .i64 0],rfl,by kernel_rfl,by kernel_rfl,rfl,by decide⟩
theorem sls_noneK (w : World) : (Sls true Instr.cells 5 [.slice none 0 0] [[]]).at_ w (fun b=>b < w.heap.size):=
 sls_one ⟨⟨none,0,rfl,Nat.le_refl _,fun _=>rfl,fun i y h=>by simp at h⟩,fun _ h=>h⟩
theorem awake19_calls (w : World) (F : Nat → Prop) (ht : Tab.at_ w F) : Calls Tryz.prog 13 #[] w fun r w'=>r = .returned (.bool true) ∧ Below w.heap.size w w':=by
 have S : St (fun _=>False) w w [Tab]:=(St.init _ w).share rfl rfl ht
 clear ht
 have HK:=Lib.hid fun (R : Nat) (vs hs : List Value) (w : World) (F : Nat → Prop) (h : (ModA true 110 R vs hs c19).at_ w F)=>knew_calls R vs hs c19 d19 k19_ok w F h
 change Hid (∀ (R : Nat) (vs hs : List Value) (w : World) (F : Nat → Prop) (h : (ModA true 110 R vs hs c19).at_ w F),Calls Tryz.prog 6 #[.pointer (some ⟨R,0,none⟩),.agg #[.int .i64 2,.int .i64 1,.bool false,.int .i64 0,.int .i64 9,.int .i64 0]] w (KNewPost R k19_0 w)) at HK
 have HD:=Lib.hid fun (X R : Nat) (vs hs : List Value) (v : Value) (w : World) (F : Nat → Prop) S0=>kdo_calls X R vs hs c19 ks19 v l19 (steps19 X R vs hs) (by decide) w F S0
 change Hid (∀ (X R : Nat) (vs hs : List Value) (v : Value) (w : World) (F : Nat → Prop) (S0 : St F w w [kernelA X R k19_0,ModA true 110 R vs hs c19,Tab,Sl true dothE 3 v l19]),Calls Tryz.prog 7 #[.pointer (some ⟨X,0,none⟩),v] w fun e w'=>e = .returned (.tuple #[.int .i64 5,.int .i64 0]) ∧ St F w w' [kernelA X R k19_5]) at HD
 have HO:=Lib.hid fun (X R : Nat) (v : Value) (w : World) (F F2 : Nat → Prop) h h2=>kdo_over X R k19_5 v (2,0,0) k19_over w F F2 h h2
 have HDn:=Lib.hid fun X q w F h=>kdone_calls X k19_5 q w F h
 rw [k19_over] at HDn
 have HTm:=Lib.hid fun X R w F h=>ltime_calls X R k19_5.log w F h
 rw [k19_time] at HTm
 go_enter Tryz.func13,Tryz.ntmps13
 go_wp2_with first | ((with_reducible apply wps_buildSlice (T:=39) (E:=157) (cs:=#[.slice none 0 0]) S);(case hr=>intro w;kernel_rfl);clear S;intro bh wz S) | ((with_reducible apply wps_make plcells Tryz.underlying40 _ zero_Pl S (n:=2));(case hx|hy=>rfl);(case hn=>omega);clear S;intro bz wz S)
 replace S:=S.freeze true 0 plcells rfl
 simp only [set_cons_zero] at S
 replace S:=S.nil 112 Start.cells 4
 have hcfg : (CfgA true [.slice (some ⟨bh,0,none⟩) 1 1,.slice (some ⟨bz,0,none⟩) 2 2,.slice none 0 0,.int .i64 9,.int .i64 1,.int .i64 0] [.slice none 0 0] c19).at_ wz (fun b=>b < wz.heap.size):=
  cfg_any (c:=c19) (blk_sl (n:=1) [.slice none 0 0] vcells (S.get (i:=2) rfl).choose_spec rfl rfl) (S.get (i:=1) rfl).choose_spec (own_sl (sh:=true) stcells (S.get (i:=0) rfl).choose_spec) (sls_noneK wz)
 refine Calls.mono (new_calls _ _ c19 _ _ _ hcfg (S.get (i:=3) rfl).choose_spec c19_mid c19_mid2) ?_
 clear hcfg
 rintro e wz (⟨h,_⟩ | ⟨_,R,vs,hs,rfl,T⟩)
 · exact absurd c19_ok h
 replace S:=((S.join T rfl).modShare 0 rfl).pick [0,4] rfl
 repeat (first | simp only at S | simp only [pick] at S | simp only [nth] at S | simp only [set_cons_succ] at S | simp only [set_cons_zero] at S | simp only [setIfInBounds_toArray] at S | simp only [setAll] at S | simp only [cons_append] at S | simp only [nil_append] at S | simp only [List.append_nil] at S)
 clear T
 go_upto_region 6 with first | (go_at_call 6;refine Calls.mono (HK.out R vs hs _ _ (S.get (i:=0) rfl).choose_spec) ?_;rintro e wz ⟨X,rfl,T⟩;replace S:=S.join T rfl;clear T;simp only [cons_append,nil_append] at S) | ((with_reducible apply wps_buildSlice (T:=90) (E:=23) (cs:=#[.int .i64 2,.int .i64 0,.int .i64 0,.int .i64 1,.int .i64 0,.int .i64 0,.int .i64 1,.int .i64 1,.int .i64 0,.int .i64 1,.int .i64 2,.int .i64 0,.int .i64 1,.int .i64 2,.int .i64 0]) S);(case hr=>intro w;kernel_rfl);clear S;intro bd wz S) | (go_at_call 7;replace S:=S.weak (i:=0) (A':=Sl true dothE 3 (.slice (some ⟨bd,0,none⟩) 5 5) l19) rfl (fun e=>by cases e) (fun F h=>⟨F,fun _ hb=>hb,blk_sl (n:=5) l19 dothElen h rfl rfl⟩);simp only [set_cons_zero] at S;obtain ⟨Fz,hF,hBk⟩:=S.lend [1] [2,3,0] [2,3] rfl rfl rfl;simp only [cons_append,nil_append,pick,nth] at hF hBk;refine Calls.mono (HD.out X R vs hs _ _ _ hF) ?_;rintro rr wz ⟨rfl,T⟩;replace S:=hBk _ _ T rfl;clear hBk hF T;simp only [cons_append,nil_append] at S;clear HD)
 go_wp2_with first | ((with_reducible apply wps_buildSlice (T:=90) (E:=23) (cs:=#[.int .i64 2,.int .i64 0,.int .i64 0]) S);(case hr=>intro w;kernel_rfl);clear S;intro be wz S) | (go_at_call 7;refine Calls.mono (HO.out X R _ _ _ _ (S.get (i:=1) rfl).choose_spec (blk_sl (n:=1) [((2,0,0) : Int × Int × Int)] dothElen (S.get (i:=0) rfl).choose_spec rfl rfl)) ?_;rintro rr wz ⟨rfl,hE⟩;replace S:=S.ext (Keep.of_below hE);clear hE;replace S:=S.pick [1] rfl;simp only [pick,nth] at S;obtain ⟨q,-,S2⟩:=kernel_open S;clear S;have S:=S2;clear S2;unfold kernelBlk at S) | (go_at_call 8;refine Calls.mono (HDn.out X q _ _ (S.get (i:=6) rfl).choose_spec) ?_;rintro e wz ⟨rfl,hE⟩;replace S:=S.ext (Keep.of_below hE);clear hE) | ((with_reducible apply wps_load S 6);(case hx|hi|hu=>rfl);(case hT=>decide +kernel)) | (go_at_call 18;refine Calls.mono (HTm.out q.lg R _ _ (S.get (i:=1) rfl).choose_spec) ?_;rintro e wz ⟨rfl,hE⟩;replace S:=S.ext (Keep.of_below hE);clear hE)
 go_ret
 exact ⟨rfl,S.below⟩
end Go.Proofs.YtmjljoaakdocaaaGreatDoor
