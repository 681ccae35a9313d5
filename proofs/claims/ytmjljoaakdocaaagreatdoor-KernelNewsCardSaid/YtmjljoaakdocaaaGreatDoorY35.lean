import Derived.Test.YtmjljoaakdocaaaGreatDoorY33
import Derived.Test.YtmjljoaakdocaaaGreatDoorY34
import Derived.Test.YtmjljoaakdocaaaGreatDoorY20
import Derived.Test.YtmjljoaakdocaaaGreatDoorY07
import Derived.Test.YtmjljoaakdocaaaGreatDoorY09
/- The walks of the law's Made and timely. -/
set_option maxHeartbeats 16000000
set_option maxRecDepth 100000
namespace Go.Proofs.YtmjljoaakdocaaaGreatDoor
open Go Go.RowKit Reg Mem
open List (set_cons_succ set_cons_zero setIfInBounds_toArray cons_append nil_append)
section
variable {G : Nat → Prop} {w0 w : World} {L : List Asn}
theorem Mem.St.rcfgNew {vH vR vT : Value} {gs : List Hd} {c : Cfg} (S : St G w0 w (Own 165 hcell 1 vH gs :: Ows 222 Instr.cells 5 (gs.map Hd.val) c.programs :: Own 167 Place.cells 5 vR c.lps :: Own 168 Start.cells 4 vT c.starts :: L)) :
 St G w0 w (CfgA false [vH,vR,vT,.int .i64 c.fin,.int .i64 c.fuel,.int .i64 c.fan] (gs.map Hd.val) c :: L):=by
 have S1:=((S.both rfl rfl).both rfl rfl).both rfl rfl
 have:=S1.weak (i:=0) (A':=CfgA false [vH,vR,vT,.int .i64 c.fin,.int .i64 c.fuel,.int .i64 c.fan] (gs.map Hd.val) c) rfl (fun _=>rfl) fun F h=>?_
 · simpa using this
 · obtain ⟨F3,F4,⟨F5,F6,⟨F7,F8,h1,h2,e4⟩,h3,e3⟩,h4,e2⟩:=h
   have i1 : ∀ b,F7 b → F b:=fun b h=>(e2 b).2 (.inl ((e3 b).2 (.inl ((e4 b).2 (.inl h)))))
   have i2 : ∀ b,F8 b → F b:=fun b h=>(e2 b).2 (.inl ((e3 b).2 (.inl ((e4 b).2 (.inr h)))))
   have i3 : ∀ b,F6 b → F b:=fun b h=>(e2 b).2 (.inl ((e3 b).2 (.inr h)))
   have i4 : ∀ b,F4 b → F b:=fun b h=>(e2 b).2 (.inr h)
   have k1:=own_sl (sh:=true) hdcells h1
   have k3:=own_sl (sh:=true) plcells h3
   have k4:=own_sl (sh:=true) stcells h4
   have k1' : (Sl true vcell 1 vH (gs.map Hd.val)).at_ w F7:=⟨slat_map Hd.val (fun _=>rfl) k1.1,k1.2⟩
   refine ⟨F,fun _ h=>h,⟨⟨⟨vH,vR,vT,rfl,k1'.1.mono i1,k3.1.mono i3,k4.1.mono i4⟩,(ows_sls incells h2).1.mono i2⟩,fun b hb=>?_⟩⟩
   rcases (e2 b).1 hb with h | h
   · rcases (e3 b).1 h with h | h
     · rcases (e4 b).1 h with h | h
       · exact k1.2 b h
       · exact h2.2 b h
     · exact k3.2 b h
   · exact k4.2 b h
end
def madeB (c : Cfg) : Bool:=fewB c && decide (cfgE c = 0)
def MadePost (c : Cfg) (w : World) (r : Ending) (w' : World) : Prop:=
 ∃ pv vs2 hs2,r = .returned (.tuple #[pv,.agg (List.toArray vs2)]) ∧
  ((madeB c = false ∧ pv = .pointer none ∧ St (fun _=>False) w w' [CfgA false vs2 hs2 c]) ∨
   (madeB c = true ∧ ∃ R vs hs,pv = .pointer (some ⟨R,0,none⟩) ∧ St (fun _=>False) w w' [ModA false 110 R vs hs c,CfgA false vs2 hs2 c]))
theorem made_calls (vs hs : List Value) (c : Cfg) (w : World) (F F2 : Nat → Prop) (h : (CfgA true vs hs c).at_ w F) (hw : Wide c) (hwb : WideB c) (ht : Tab.at_ w F2) : Calls Tryz.prog 14 #[.agg vs.toArray] w (MadePost c w):=by
 have S : St (fun _=>False) w w [CfgA true vs hs c,Tab]:=((St.init _ w).share rfl rfl ht).share rfl rfl h
 clear h ht
 obtain ⟨aP,cP,aL,cL,aS,cS,rfl,hlen,_⟩:=S.cfg 0 rfl
 have HF : Hid (∀ w F,(CfgA true [.slice aP c.programs.length cP,.slice aL c.lps.length cL,.slice aS c.starts.length cS,.int .i64 c.fin,.int .i64 c.fuel,.int .i64 c.fan] hs c).at_ w F →
  Calls Tryz.prog 41 #[.agg #[.slice aP c.programs.length cP,.slice aL c.lps.length cL,.slice aS c.starts.length cS,.int .i64 c.fin,.int .i64 c.fuel,.int .i64 c.fan]] w fun r w'=>r = .returned (.bool (fewB c)) ∧ Below w.heap.size w w'):=
  fun w F h=>few_calls _ hs c w F h hw
 have hmw : MidW c:=⟨hwb.p,hwb.l,hwb.s⟩
 have hmw2:=hwb.q
 clear hlen
 go_enter Tryz.func14,Tryz.ntmps14
 go_wp2_with first | ((with_reducible apply wps_boxa (E:=43) S);(case hx=>rfl);clear S;intro bx wz S) | ((with_reducible apply wps_alloca (E:=49) S);(case hz=>exact Tryz.zeroValue49);clear S;intro b3 wz S) | ((with_reducible apply wps_loada (T:=43) (k:=6) S 1);(case hx|hi=>rfl);(case hk=>exact nle rfl);(case hT=>decide +kernel))
 refine Calls.mono (cplainW_calls [.slice aP c.programs.length cP,.slice aL c.lps.length cL,.slice aS c.starts.length cS,.int .i64 c.fin,.int .i64 c.fuel,.int .i64 c.fan] hs c _ _ (S.get (i:=2) rfl).choose_spec hmw hmw2) ?_
 rintro e wz ⟨gs,vH,vR,vT,rfl,hgs,T⟩
 replace S:=S.join T rfl
 simp only [cons_append,nil_append] at S
 clear T
 obtain ⟨aH,cH,rfl⟩ : ∃ a c,_ = Value.slice a gs.length c:=(S.get (i:=0) rfl).elim fun F h=>h.1.form
 obtain ⟨aR,cR,rfl⟩ : ∃ a d,_ = Value.slice a c.lps.length d:=(S.get (i:=2) rfl).elim fun F h=>h.1.form
 obtain ⟨aT,cT,rfl⟩ : ∃ a d,_ = Value.slice a c.starts.length d:=(S.get (i:=3) rfl).elim fun F h=>h.1.form
 replace S:=S.rcfgNew
 generalize gs.map Hd.val = hs2 at *
 generalize gs.length = gn at *
 clear hgs
 have fin0 : ∀ (w' : World),madeB c = false → St (fun _=>False) w w' [CfgA false [.slice aH gn cH,.slice aR c.lps.length cR,.slice aT c.starts.length cT,.int .i64 c.fin,.int .i64 c.fuel,.int .i64 c.fan] hs2 c] →
  MadePost c w (.returned (.tuple #[.pointer none,.agg #[.slice aH gn cH,.slice aR c.lps.length cR,.slice aT c.starts.length cT,.int .i64 c.fin,.int .i64 c.fuel,.int .i64 c.fan]])) w':=fun w' hm S=>⟨_,[.slice aH gn cH,.slice aR c.lps.length cR,.slice aT c.starts.length cT,.int .i64 c.fin,.int .i64 c.fuel,.int .i64 c.fan],hs2,rfl,.inl ⟨hm,rfl,S⟩⟩
 have Fin0:=Lib.hid fin0
 clear fin0
 replace S:=S.pick [0,2,3,4,1] rfl
 repeat (first | simp only at S | simp only [pick] at S | simp only [nth] at S | simp only [set_cons_succ] at S | simp only [set_cons_zero] at S | simp only [setIfInBounds_toArray] at S | simp only [setAll] at S | simp only [cons_append] at S | simp only [nil_append] at S | simp only [List.append_nil] at S)
 cases hf : fewB c with
 | false=>
   rw [hf] at HF
   have Hm : Hid (madeB c = false):=by show _ = _;unfold madeB;rw [hf];rfl
   clear hf hw
   go_wp2_with first | go_skip | ((with_reducible apply wps_alloca (E:=49) S);(case hz=>exact Tryz.zeroValue49);clear S;intro b4 wz S) | ((with_reducible apply wps_storea (T:=49) S 0 (vs:=[.slice aH gn cH,.slice aR c.lps.length cR,.slice aT c.starts.length cT,.int .i64 c.fin,.int .i64 c.fuel,.int .i64 c.fan]) (m:=6));(case hx|hy|hi|hm|h1=>rfl);(case hn=>exact nle rfl);(case hT=>decide +kernel);clear S;intro wz S;simp only [set_cons_zero,set_cons_succ,setAll,setIfInBounds_toArray] at S) | ((with_reducible apply wps_loada (T:=43) (k:=6) S 2);(case hx|hi=>rfl);(case hk=>exact nle rfl);(case hT=>decide +kernel)) | (go_at_call 41;refine Calls.mono (HF.out _ _ (S.get (i:=3) rfl).choose_spec) ?_;rintro e wz ⟨rfl,hE⟩;replace S:=S.ext (Keep.of_below hE);clear hE) | ((with_reducible apply wps_loada (T:=49) (k:=6) S 0);(case hx|hi=>rfl);(case hk=>exact nle rfl);(case hT=>decide +kernel)) | ((with_reducible apply wps_storea (T:=49) S 5 (vs:=[.slice aH gn cH,.slice aR c.lps.length cR,.slice aT c.starts.length cT,.int .i64 c.fin,.int .i64 c.fuel,.int .i64 c.fan]) (m:=6));(case hx|hy|hi|hm|h1=>rfl);(case hn=>exact nle rfl);(case hT=>decide +kernel);clear S;intro wz S;simp only [set_cons_zero,set_cons_succ,setAll,setIfInBounds_toArray] at S) | ((with_reducible refine tot_done ?ht ?_);(case ht=>kernel_rfl)) | ((with_reducible apply wps_text S);(case hm=>kernel_rfl);(case hB=>decide +kernel);clear S;intro wz S)
   (try simp only [Exit.inBlock,Exit.then]);refine bodyPost_ret (results2 rfl (res_tmp rfl) (S.resA 5 rfl rfl (by kernel_rfl))) rfl ?_
   exact Fin0.out _ Hm.out (S.pick [1] rfl)
 | true=>
   rw [hf] at HF
   have HM:=Lib.hid (few_midK hf)
   have HM2:=Lib.hid (few_midK2 hf)
   have Hf:=Lib.hid hf
   clear hf hw
   have HR:=Lib.hid fun w F h=>refcheck_calls [.slice aH gn cH,.slice aR c.lps.length cR,.slice aT c.starts.length cT,.int .i64 c.fin,.int .i64 c.fuel,.int .i64 c.fan] hs2 c w F h HM.out
   have HNw:=Lib.hid fun w F F2 h ht=>new_calls [.slice aP c.programs.length cP,.slice aL c.lps.length cL,.slice aS c.starts.length cS,.int .i64 c.fin,.int .i64 c.fuel,.int .i64 c.fan] hs c w F F2 h ht HM.out HM2.out
   by_cases h0 : cfgE c = 0
   case neg=>
    have Hm : Hid (madeB c = false):=by show _ = _;unfold madeB;rw [decide_eq_false h0,Bool.and_false]
    obtain ⟨e,he⟩ : ∃ e,cfgE c = e:=⟨_,rfl⟩
    rw [he] at HR h0
    have h1 : (e != 0) = true:=by simpa using h0
    clear HNw h0
    have He:=Lib.hid he
    clear he
    go_wp2_with first | ((with_reducible apply wps_alloca (E:=49) S);(case hz=>exact Tryz.zeroValue49);clear S;intro b4 wz S) | ((with_reducible apply wps_storea (T:=49) S 0 (vs:=[.slice aH gn cH,.slice aR c.lps.length cR,.slice aT c.starts.length cT,.int .i64 c.fin,.int .i64 c.fuel,.int .i64 c.fan]) (m:=6));(case hx|hy|hi|hm|h1=>rfl);(case hn=>exact nle rfl);(case hT=>decide +kernel);clear S;intro wz S;simp only [set_cons_zero,set_cons_succ,setAll,setIfInBounds_toArray] at S) | ((with_reducible apply wps_loada (T:=43) (k:=6) S 2);(case hx|hi=>rfl);(case hk=>exact nle rfl);(case hT=>decide +kernel)) | ((with_reducible apply wps_loada (T:=49) (k:=6) S 0);(case hx|hi=>rfl);(case hk=>exact nle rfl);(case hT=>decide +kernel)) | (go_at_call 41;refine Calls.mono (HF.out _ _ (S.get (i:=3) rfl).choose_spec) ?_;rintro e wz ⟨rfl,hE⟩;replace S:=S.ext (Keep.of_below hE);clear hE) | (go_at_call 42;refine Calls.mono (HR.out _ _ (S.get (i:=1) rfl).choose_spec) ?_;rintro e wz ⟨rfl,hE⟩;replace S:=S.ext (Keep.of_below hE);clear hE) | ((with_reducible apply wps_storea (T:=49) S 5 (vs:=[.slice aH gn cH,.slice aR c.lps.length cR,.slice aT c.starts.length cT,.int .i64 c.fin,.int .i64 c.fuel,.int .i64 c.fan]) (m:=6));(case hx|hy|hi|hm|h1=>rfl);(case hn=>exact nle rfl);(case hT=>decide +kernel);clear S;intro wz S;simp only [set_cons_zero,set_cons_succ,setAll,setIfInBounds_toArray] at S) | ((with_reducible refine tot_done ?ht ?_);(case ht=>kernel_rfl)) | ((with_reducible apply wps_text S);(case hm=>kernel_rfl);(case hB=>decide +kernel);clear S;intro wz S)
    (try simp only [Exit.inBlock,Exit.then]);refine bodyPost_ret (results2 rfl (res_tmp rfl) (S.resA 5 rfl rfl (by kernel_rfl))) rfl ?_
    exact Fin0.out _ Hm.out (S.pick [1] rfl)
   case pos=>
    have Hm : Hid (madeB c = true):=by show _ = _;unfold madeB;rw [Hf.out,decide_eq_true h0];rfl
    have H0:=Lib.hid h0
    rw [h0] at HR
    clear h0
    go_wp2_with first | ((with_reducible apply wps_alloca (E:=49) S);(case hz=>exact Tryz.zeroValue49);clear S;intro b4 wz S) | ((with_reducible apply wps_storea (T:=49) S 0 (vs:=[.slice aH gn cH,.slice aR c.lps.length cR,.slice aT c.starts.length cT,.int .i64 c.fin,.int .i64 c.fuel,.int .i64 c.fan]) (m:=6));(case hx|hy|hi|hm|h1=>rfl);(case hn=>exact nle rfl);(case hT=>decide +kernel);clear S;intro wz S;simp only [set_cons_zero,set_cons_succ,setAll,setIfInBounds_toArray] at S) | ((with_reducible apply wps_loada (T:=43) (k:=6) S 2);(case hx|hi=>rfl);(case hk=>exact nle rfl);(case hT=>decide +kernel)) | ((with_reducible apply wps_loada (T:=49) (k:=6) S 0);(case hx|hi=>rfl);(case hk=>exact nle rfl);(case hT=>decide +kernel)) | (go_at_call 41;refine Calls.mono (HF.out _ _ (S.get (i:=3) rfl).choose_spec) ?_;rintro e wz ⟨rfl,hE⟩;replace S:=S.ext (Keep.of_below hE);clear hE) | (go_at_call 42;refine Calls.mono (HR.out _ _ (S.get (i:=1) rfl).choose_spec) ?_;rintro e wz ⟨rfl,hE⟩;replace S:=S.ext (Keep.of_below hE);clear hE)
    refine Calls.mono (HNw.out _ _ _ (S.get (i:=3) rfl).choose_spec (S.get (i:=4) rfl).choose_spec) ?_
    rintro e wz (⟨hne,rfl,hE⟩ | ⟨_,R,vs3,hs3,rfl,T⟩)
    · exact absurd H0.out hne
    replace S:=(S.join T rfl).pick [1,0,2,3,4,5,6] rfl
    repeat (first | simp only at S | simp only [pick] at S | simp only [nth] at S | simp only [set_cons_succ] at S | simp only [set_cons_zero] at S | simp only [setIfInBounds_toArray] at S | simp only [setAll] at S | simp only [cons_append] at S | simp only [nil_append] at S | simp only [List.append_nil] at S)
    clear T
    go_wp2_with first | ((with_reducible apply wps_storea (T:=49) S 6 (vs:=[.slice aH gn cH,.slice aR c.lps.length cR,.slice aT c.starts.length cT,.int .i64 c.fin,.int .i64 c.fuel,.int .i64 c.fan]) (m:=6));(case hx|hy|hi|hm|h1=>rfl);(case hn=>exact nle rfl);(case hT=>decide +kernel);clear S;intro wz S;simp only [set_cons_zero,set_cons_succ,setAll,setIfInBounds_toArray] at S) | ((with_reducible refine tot_done ?ht ?_);(case ht=>kernel_rfl)) | ((with_reducible apply wps_text S);(case hm=>kernel_rfl);(case hB=>decide +kernel);clear S;intro wz S) | ((with_reducible apply wps_loada (T:=49) (k:=6) S 0);(case hx|hi=>rfl);(case hk=>exact nle rfl);(case hT=>decide +kernel))
    (try simp only [Exit.inBlock,Exit.then]);refine bodyPost_ret (results2 rfl (res_tmp rfl) (S.resA 6 rfl rfl (by kernel_rfl))) rfl ?_
    exact ⟨_,[.slice aH gn cH,.slice aR c.lps.length cR,.slice aT c.starts.length cT,.int .i64 c.fin,.int .i64 c.fuel,.int .i64 c.fan],hs2,rfl,.inr ⟨Hm.out,R,vs3,hs3,rfl,S.pick [1,2] rfl⟩⟩
end Go.Proofs.YtmjljoaakdocaaaGreatDoor
