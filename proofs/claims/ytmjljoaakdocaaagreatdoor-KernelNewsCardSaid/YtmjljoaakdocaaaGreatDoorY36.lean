import Derived.Test.YtmjljoaakdocaaaGreatDoorY26
import Derived.Test.YtmjljoaakdocaaaGreatDoorY23
import Derived.Test.YtmjljoaakdocaaaGreatDoorY31
import Derived.Test.YtmjljoaakdocaaaGreatDoorY35
import Derived.Test.YtmjljoaakdocaaaGreatDoorY20
/- The walk of the law KernelNews. -/
set_option maxHeartbeats 16000000
set_option maxRecDepth 100000
namespace Go.Proofs.YtmjljoaakdocaaaGreatDoor
open Go Go.RowKit Reg Mem
open List (set_cons_succ set_cons_zero setIfInBounds_toArray cons_append nil_append)
theorem kwc_of {c : Cfg} (h : madeB c = true) : KwC c:=by
 obtain ⟨_,h2⟩ : fewB c = true ∧ cfgE c = 0:=by unfold madeB at h;simpa using h
 have hok:=cfg_ok.1 h2
 have hsz:=hok.sizes
 unfold sizesOk at hsz
 have f:=cfg_isfine h2
 exact ⟨by omega,f.starts,f.dsts,fun s hs=>by have:=f.times s hs;omega⟩
theorem evs_calls {R : Nat} {vs hs : List Value} {c : Cfg} {w : World} {F : Nat → Prop} (h : (ModA true 110 R vs hs c).at_ w F) (hn : c.starts.length ≤ 65536) :
 Calls Tryz.prog 16 #[.pointer (some ⟨R,0,none⟩)] w fun e w'=>∃ ad cc,e = .returned (.slice ad (evsOf c).length cc) ∧ St (fun _=>False) w w' [Mem.Own 58 Event.cells 7 (.slice ad (evsOf c).length cc) (evsOf c)]:=by
 have e : (startsFrom 0 c.starts).length = (evsOf c).length:=by rw [evsOf_len,startsFrom_len]
 refine (events_calls _ _ _ _ _ _ h hn).mono ?_
 rintro r w' ⟨ad,cc,rfl,T⟩
 rw [e] at T
 exact ⟨ad,cc,by rw [e],T⟩
def NwRel1 (es : List Event) (T : List Asn) (w : World) (z i : Value) (wr : World) : Prop:=
 ∃ (j : Nat) (m : Int),j ≤ es.length ∧ i = .int .i64 j ∧ z = .int .i64 m ∧ Hid (((es.take j).map fun x=>x.key.at_).foldl min 1073741825 = m) ∧ St (fun _=>False) w wr T
def NwRel2 (n : Int) (T : List Asn) (w : World) (i : Value) (wr : World) : Prop:=
 ∃ j : Nat,(j : Int) ≤ n + 1 ∧ i = .int .i64 j ∧ St (fun _=>False) w wr T
theorem news_law (d : KcE) (vs hs : List Value) (c : Cfg) (w : World) (F F2 : Nat → Prop) (h : (CfgA true vs hs c).at_ w F) (hw : Wide c) (hwb : WideB c) (ht : Tab.at_ w F2) :
 Calls Tryz.prog 4 #[.agg vs.toArray,.agg #[.int .i64 d.workers,.int .i64 d.every,.bool d.lazy,.int .i64 d.window,.int .i64 d.room,.int .i64 d.res]] w fun r w'=>r = .returned (.bool true) ∧ Below w.heap.size w w':=by
 have S : St (fun _=>False) w w [CfgA true vs hs c,Tab]:=((St.init _ w).share rfl rfl ht).share rfl rfl h
 clear h ht
 obtain ⟨aP,cP,aL,cL,aS,cS,rfl,_,_⟩:=S.cfg 0 rfl
 have HMd:=Lib.hid fun w F F2 h ht=>made_calls [.slice aP c.programs.length cP,.slice aL c.lps.length cL,.slice aS c.starts.length cS,.int .i64 c.fin,.int .i64 c.fuel,.int .i64 c.fan] hs c w F F2 h hw hwb ht
 have HMy:=Lib.hid fun w=>kmay_calls d.workers d.every d.window d.room d.res w
 clear hw hwb
 go_enter Tryz.func4,Tryz.ntmps4
 go_wp2_with first | ((with_reducible apply wps_boxa (E:=43) S);(case hx=>rfl);clear S;intro bx wz S) | ((with_reducible apply wps_boxa (E:=29) S);(case hx=>rfl);clear S;intro b3 wz S) | ((with_reducible apply wps_loada (T:=43) (k:=6) S 1);(case hx|hi=>rfl);(case hk=>exact nle rfl);(case hT=>decide +kernel))
 refine Calls.mono (HMd.out _ _ _ (S.get (i:=2) rfl).choose_spec (S.get (i:=3) rfl).choose_spec) ?_
 clear HMd
 rintro r wz ⟨pv,vs2,hs2,rfl,(⟨hmm,rfl,T⟩ | ⟨hmm,R,vs3,hs3,rfl,T⟩)⟩
 · replace S:=((S.join T rfl).cfgShare 0 rfl).pick [0,1,2,3,4] rfl
   repeat (first | simp only at S | simp only [pick] at S | simp only [nth] at S | simp only [set_cons_succ] at S | simp only [set_cons_zero] at S | simp only [setIfInBounds_toArray] at S | simp only [setAll] at S | simp only [cons_append] at S | simp only [nil_append] at S | simp only [List.append_nil] at S)
   clear T hmm
   obtain ⟨aP2,cP2,aL2,cL2,aS2,cS2,rfl,_,_⟩:=S.cfg 0 rfl
   go_wp2_with first | ((with_reducible apply wps_alloca (E:=49) S);(case hz=>exact Tryz.zeroValue49);clear S;intro b6 wz S) | ((with_reducible apply wps_storea (T:=49) S 0 (vs:=[.slice aP2 c.programs.length cP2,.slice aL2 c.lps.length cL2,.slice aS2 c.starts.length cS2,.int .i64 c.fin,.int .i64 c.fuel,.int .i64 c.fan]) (m:=6));(case hx|hy|hi|hm|h1=>rfl);(case hn=>exact nle rfl);(case hT=>decide +kernel);clear S;intro wz S;simp only [set_cons_zero,set_cons_succ,setAll,setIfInBounds_toArray] at S) | (go_at_call 13;refine Calls.mono (awake19_calls _ _ (S.get (i:=5) rfl).choose_spec) ?_;rintro e wz ⟨rfl,hE⟩;replace S:=S.ext (Keep.of_below hE);clear hE)
   go_ret
   exact ⟨rfl,S.below⟩
 · replace S:=(((S.join T rfl).modShare 0 rfl).cfgShare 1 rfl).pick [0,1,2,3,4,5] rfl
   repeat (first | simp only at S | simp only [pick] at S | simp only [nth] at S | simp only [set_cons_succ] at S | simp only [set_cons_zero] at S | simp only [setIfInBounds_toArray] at S | simp only [setAll] at S | simp only [cons_append] at S | simp only [nil_append] at S | simp only [List.append_nil] at S)
   clear T
   obtain ⟨aP2,cP2,aL2,cL2,aS2,cS2,rfl,_,_⟩:=S.cfg 1 rfl
   have hc:=kwc_of hmm
   clear hmm
   have HKN:=Lib.hid fun w F h=>kany_calls R vs3 hs3 c d hc w F h
   have HC:=Lib.hid hc
   clear hc
   go_wp2_with first | ((with_reducible apply wps_alloca (E:=49) S);(case hz=>exact Tryz.zeroValue49);clear S;intro b6 wz S) | ((with_reducible apply wps_storea (T:=49) S 0 (vs:=[.slice aP2 c.programs.length cP2,.slice aL2 c.lps.length cL2,.slice aS2 c.starts.length cS2,.int .i64 c.fin,.int .i64 c.fuel,.int .i64 c.fan]) (m:=6));(case hx|hy|hi|hm|h1=>rfl);(case hn=>exact nle rfl);(case hT=>decide +kernel);clear S;intro wz S;simp only [set_cons_zero,set_cons_succ,setAll,setIfInBounds_toArray] at S) | ((with_reducible apply wps_loada (T:=29) (k:=6) S 3);(case hx|hi=>rfl);(case hk=>exact nle rfl);(case hT=>decide +kernel))
   refine Calls.mono (HKN.out _ _ (S.get (i:=1) rfl).choose_spec) ?_
   clear HKN
   rintro rr wz (⟨hm,rfl,hE⟩ | ⟨hm,hr,rfl,hE⟩ | ⟨hm,hr,hw1,hw8,X,rfl,T⟩)
   · replace S:=S.ext (Keep.of_below hE)
     clear hE
     rw [hm] at HMy
     clear hm
     go_wp2_with first | ((with_reducible apply wps_load S 3);(case hx|hi|hu=>rfl);(case hT=>decide +kernel)) | (go_at_call 15;refine Calls.mono (HMy.out _) ?_;rintro e wz ⟨rfl,hE⟩;replace S:=S.ext (Keep.of_below hE);clear hE) | (go_at_call 13;refine Calls.mono (awake19_calls _ _ (S.get (i:=6) rfl).choose_spec) ?_;rintro e wz ⟨rfl,hE⟩;replace S:=S.ext (Keep.of_below hE);clear hE)
     go_ret
     exact ⟨rfl,S.below⟩
   · replace S:=S.ext (Keep.of_below hE)
     clear hE
     rw [hm] at HMy
     have hns:=HC.out.starts
     have hnl:=HC.out.lps
     have HEV:=Lib.hid fun w F h=>evs_calls (R:=R) (vs:=vs3) (hs:=hs3) (c:=c) (w:=w) (F:=F) h (by omega)
     have HLP:=Lib.hid fun w F h=>lps_calls (R:=R) (vs:=vs3) (hs:=hs3) (c:=c) (w:=w) (F:=F) h
     rw [← evsOf_len] at hns hr
     generalize evsOf c = es at *
     have hf : decide ((es.length : Int) + (c.lps.length : Int) > d.room) = true:=decide_eq_true hr
     clear hm hr HC
     go_wp2_with first | ((with_reducible apply wps_load S 3);(case hx|hi|hu=>rfl);(case hT=>decide +kernel)) | (go_at_call 15;refine Calls.mono (HMy.out _) ?_;rintro e wz ⟨rfl,hE⟩;replace S:=S.ext (Keep.of_below hE);clear hE) | (go_at_call 16;refine Calls.mono (HEV.out _ _ (S.get (i:=1) rfl).choose_spec) ?_;rintro rr wz ⟨ae,ce,rfl,T⟩;replace S:=S.join T rfl;clear T;simp only [cons_append,nil_append] at S) | (go_at_call 17;refine Calls.mono (HLP.out _ _ (S.get (i:=2) rfl).choose_spec) ?_;rintro e wz ⟨rfl,hE⟩;replace S:=S.ext (Keep.of_below hE);clear hE) | ((with_reducible apply wps_load S 4);(case hx|hi|hu=>rfl);(case hT=>decide +kernel)) | (go_at_call 13;refine Calls.mono (awake19_calls _ _ (S.get (i:=7) rfl).choose_spec) ?_;rintro e wz ⟨rfl,hE⟩;replace S:=S.ext (Keep.of_below hE);clear hE)
     go_ret
     exact ⟨rfl,S.below⟩
   · replace S:=S.join T rfl
     clear T
     simp only [cons_append,nil_append] at S
     rw [hm] at HMy
     have hns:=HC.out.starts
     have hnl:=HC.out.lps
     have HEV:=Lib.hid fun w F h=>evs_calls (R:=R) (vs:=vs3) (hs:=hs3) (c:=c) (w:=w) (F:=F) h (by omega)
     have HLP:=Lib.hid fun w F h=>lps_calls (R:=R) (vs:=vs3) (hs:=hs3) (c:=c) (w:=w) (F:=F) h
     have hlen:=evsOf_len c
     rw [← hlen] at hns hr
     have hkc : Hid (cntK (newK c d) = ⟨(evsOf c).length,0,0,c.lps.length,0⟩):=Lib.hid (by rw [hlen];exact new_counts HC.out hw1)
     have hkl : Hid (leastWs (newK c d).ws = ((evsOf c).map fun x=>x.key.at_).foldl min 1073741825):=Lib.hid (new_least HC.out hw1)
     have HKO : Hid (KeOk (newK c d)):=Lib.hid (let h:=(new_ok HC.out hw1 hw8).ok;⟨h.many,h.ok,h.way⟩)
     clear hlen
     generalize evsOf c = es at *
     have hf : decide ((es.length : Int) + (c.lps.length : Int) > d.room) = false:=decide_eq_false (by omega)
     clear hm hr HC
     go_wp2_with first | ((with_reducible apply wps_load S 4);(case hx|hi|hu=>rfl);(case hT=>decide +kernel)) | (go_at_call 15;refine Calls.mono (HMy.out _) ?_;rintro e wz ⟨rfl,hE⟩;replace S:=S.ext (Keep.of_below hE);clear hE) | (go_at_call 16;refine Calls.mono (HEV.out _ _ (S.get (i:=2) rfl).choose_spec) ?_;rintro rr wz ⟨ae,ce,rfl,T⟩;replace S:=S.join T rfl;clear T;simp only [cons_append,nil_append] at S) | (go_at_call 17;refine Calls.mono (HLP.out _ _ (S.get (i:=3) rfl).choose_spec) ?_;rintro e wz ⟨rfl,hE⟩;replace S:=S.ext (Keep.of_below hE);clear hE) | ((with_reducible apply wps_load S 5);(case hx|hi|hu=>rfl);(case hT=>decide +kernel))
     replace S:=S.freeze true 0 ecells rfl
     simp only [set_cons_zero] at S
     replace S:=S.pick [0,1,3,5,8] rfl
     simp only [pick,nth] at S
     go_loopw [11,12] (fun z i wr=>NwRel1 es [Sl true Event.cells 7 (.slice ae es.length ce) es,kernelA X R (newK c d),ModA true 110 R vs3 hs3 c,Blk false b3 #[.int .i64 d.workers,.int .i64 d.every,.bool d.lazy,.int .i64 d.window,.int .i64 d.room,.int .i64 d.res] 29,Tab] w z i wr) (fun _ i _=>es.length - (intOf i).toNat)
     case atStart=>exact ⟨0,_,Nat.zero_le _,rfl,rfl,Lib.hid rfl,S⟩
     case round=>
      clear S
      obtain ⟨j,m,hj,rfl,rfl,HM,S⟩:=hrel
      by_cases hlt : j < es.length
      · obtain ⟨x,hx⟩ : ∃ x,es[j]? = some x:=⟨_,List.getElem?_eq_getElem hlt⟩
        obtain ⟨R2,o2,rfl⟩ : ∃ R o,ae = some ⟨R,o,none⟩:=(S.sl 0 rfl).elim fun F h=>h.head (by omega)
        have hlt2 : (j : Int) < es.length:=by omega
        have HX:=Lib.hid hx
        have HM2 : Hid (((es.take (j + 1)).map fun x=>x.key.at_).foldl min 1073741825 = min m x.key.at_):=Lib.hid (by rw [List.take_add_one,hx,Option.toList_some,List.map_append,List.foldl_append,HM.out];rfl)
        clear hx
        go_wp2_with first | ((with_reducible apply wps_load_el S 0 (hj:=HX.out) (q:=0) (u:=.int .i64 x.key.at_));(case hx|hi=>rfl);(case hn=>omega);(case hu=>rfl);(case hT=>decide +kernel))
        go_roundw
        case rel=>exact ⟨j + 1,_,by omega,by go_num,rfl,Lib.hid (HM2.out.trans (by rw [Int.min_def])),S⟩
        case measure=>first | (simp [intOf];done) | (simp [intOf];omega)
      · obtain rfl : j = es.length:=by omega
        rw [List.take_length] at HM
        rw [HM.out] at hkl
        go_wp2_with first | ((with_reducible apply wps_loada (T:=43) (k:=6) S 0);(case hx|hi=>rfl);(case hk=>exact nle rfl);(case hT=>decide +kernel))
        go_loopw [13] (fun i wr=>NwRel2 d.workers [Sl true Event.cells 7 (.slice ae es.length ce) es,kernelA X R (newK c d),ModA true 110 R vs3 hs3 c,Blk false b3 #[.int .i64 d.workers,.int .i64 d.every,.bool d.lazy,.int .i64 d.window,.int .i64 d.room,.int .i64 d.res] 29,Tab] w i wr) (fun i _=>(d.workers + 1).toNat - (intOf i).toNat)
        case atStart=>exact ⟨0,by omega,rfl,S⟩
        case round=>
         clear S
         obtain ⟨j,hj,rfl,S⟩:=hrel
         by_cases hlt : (j : Int) ≤ d.workers
         · have HWT:=Lib.hid fun w F h=>kwaits_calls X R (newK c d) (Nat.zero_le _) j w F h
           rw [show waitsE j (newK c d).net = 0 from rfl] at HWT
           have f1 : decide ((j : Int) ≤ d.workers) = true:=decide_eq_true hlt
           go_wp2_with first | ((with_reducible apply wps_load S 3);(case hx|hi|hu=>rfl);(case hT=>decide +kernel)) | (go_at_call 11;refine Calls.mono (HWT.out _ _ (S.get (i:=1) rfl).choose_spec) ?_;rintro e wz ⟨rfl,hE⟩;replace S:=S.ext (Keep.of_below hE);clear hE)
           go_roundw
           case rel=>exact ⟨j + 1,by omega,by go_num,S⟩
           case measure=>simp [intOf];omega
         · have f1 : decide ((j : Int) ≤ d.workers) = false:=decide_eq_false hlt
           have HCN : Hid (∀ w F,(kernelA X R (newK c d)).at_ w F → Calls Tryz.prog 10 #[.pointer (some ⟨X,0,none⟩)] w fun e w'=>e = .returned (.agg #[.int .i64 (es.length : Nat),.int .i64 0,.int .i64 0,.int .i64 (c.lps.length : Nat),.int .i64 0]) ∧ Below w.heap.size w w'):=Lib.hid fun w F h=>by
            have:=kcounts_calls X R (newK c d) HKO.out w F h
            rw [hkc.out] at this
            exact this
           have HLS:=Lib.hid fun w F h=>kleast_none X R (newK c d) HKO.out rfl w F h
           rw [hkl.out] at HLS
           replace S:=S.pick [1,2,4,3] rfl
           simp only [pick,nth] at S
           replace S:=S.weak (i:=3) (A':=Blk true b3 #[.int .i64 d.workers,.int .i64 d.every,.bool d.lazy,.int .i64 d.window,.int .i64 d.room,.int .i64 d.res] 29) rfl (fun e=>by cases e) (fun F h=>⟨F,fun _ hb=>hb,h⟩)
           simp only [set_cons_zero,set_cons_succ] at S
           replace S:=S.weak (i:=0) (A':=rd (kernelA X R (newK c d))) rfl (fun e=>by cases e) (fun F h=>⟨F,fun _ hb=>hb,h⟩)
           simp only [set_cons_zero] at S
           obtain ⟨q,vn,_,T⟩:=kernelR (rd_get (S.get (i:=0) rfl)).choose_spec
           replace S:=(S.share (A:=rd (logA q.lg R (newK c d).log)) rfl rfl (T.get (i:=6) rfl).choose_spec).share (A:=kernelBlk true X (newK c d) q) rfl rfl (T.get (i:=0) rfl).choose_spec
           have HDn:=Lib.hid fun w F h=>kdone_calls X (newK c d) q w F h
           clear T hlt hj
           have HE5 : Hid (ceqs [.int .i64 (es.length : Nat),.int .i64 0,.int .i64 0,.int .i64 (c.lps.length : Nat),.int .i64 0] [.int .i64 (es.length : Nat),.int .i64 0,.int .i64 0,.int .i64 (c.lps.length : Nat),.int .i64 0] = true):=Lib.hid (by simp [ceqs,ceq])
           unfold kernelBlk at S
           go_wp2_with first | ((with_reducible apply wps_load S 5);(case hx|hi|hu=>rfl);(case hT=>decide +kernel)) | (go_at_call 10;refine Calls.mono (HCN.out _ _ (rd_get (S.get (i:=2) rfl)).choose_spec) ?_;rintro e wz ⟨rfl,hE⟩;replace S:=S.ext (Keep.of_below hE);clear hE) | (go_at_call 17;refine Calls.mono (HLP.out _ _ (S.get (i:=3) rfl).choose_spec) ?_;rintro e wz ⟨rfl,hE⟩;replace S:=S.ext (Keep.of_below hE);clear hE) | ((with_reducible apply wpList_eql_agg (t:=35) (ks:=[.int .i64,.int .i64,.int .i64,.int .i64,.int .i64]) (b:=true));(case hx|hy=>rfl);(case hl|ha|hg=>kernel_rfl);(case hfx|hfy=>rfl);(case hb=>exact HE5.out)) | (go_at_call 9;refine Calls.mono (HLS.out _ _ (rd_get (S.get (i:=2) rfl)).choose_spec) ?_;rintro e wz ⟨rfl,hE⟩;replace S:=S.ext (Keep.of_below hE);clear hE) | ((with_reducible apply wps_load S 0);(case hx|hi|hu=>rfl);(case hT=>decide +kernel)) | (go_at_call 18;refine Calls.mono (ltime_calls q.lg R (newK c d).log _ _ (rd_get (S.get (i:=1) rfl)).choose_spec) ?_;rintro e wz ⟨rfl,hE⟩;replace S:=S.ext (Keep.of_below hE);clear hE) | (go_at_call 19;refine Calls.mono (llen_calls q.lg R (newK c d).log _ _ (rd_get (S.get (i:=1) rfl)).choose_spec) ?_;rintro e wz ⟨rfl,hE⟩;replace S:=S.ext (Keep.of_below hE);clear hE) | (go_at_call 8;refine Calls.mono (HDn.out _ _ (S.get (i:=0) rfl).choose_spec) ?_;rintro e wz ⟨rfl,hE⟩;replace S:=S.ext (Keep.of_below hE);clear hE) | (go_at_call 12;refine Calls.mono (krunning_calls X R (newK c d) _ _ (rd_get (S.get (i:=2) rfl)).choose_spec) ?_;rintro e wz ⟨rfl,hE⟩;replace S:=S.ext (Keep.of_below hE);clear hE) | (go_at_call 13;refine Calls.mono (awake19_calls _ _ (S.get (i:=4) rfl).choose_spec) ?_;rintro e wz ⟨rfl,hE⟩;replace S:=S.ext (Keep.of_below hE);clear hE)
           go_ret
           exact ⟨rfl,S.below⟩
end Go.Proofs.YtmjljoaakdocaaaGreatDoor
