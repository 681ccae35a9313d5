import Derived.Test.YtcnfionnnpnplaaGreatDoorZ10
import Derived.Test.YtcnfionnnpnplaaGreatDoorZ07
import Derived.Test.YtcnfionnnpnplaaGreatDoorZ04
/- The walks of vm.New and of a machine's Step. -/
set_option maxHeartbeats 16000000
set_option maxRecDepth 100000
namespace Go.Proofs.YtcnfionnnpnplaaGreatDoor
open Go Go.RowKit Reg Mem
open List (set_cons_succ set_cons_zero setIfInBounds_toArray cons_append nil_append)
def StepPost (F : Nat → Prop) (R : Nat) (e : Event) (vp : Value) (fan : Int) (o : Option Mach) (m : Mach) (w : World) (r : Ending) (w' : World) : Prop:=
 ∃ vs',r = .returned (.bool o.isSome) ∧ St F w w' [Blk false R (machCells e vp (o.getD m) fan vs') 205,Own 177 Emit.cells 4 vs' (o.getD m).sent]
theorem step_calls (F : Nat → Prop) (w : World) (R : Nat) (e : Event) (vp vs : Value) (fan : Int) (cs : List Int) (k : Nat) (sent : List Emit) (p : List Instr)
 (S : St F w w [Blk false R (machCells e vp ⟨cs,k,sent⟩ fan vs) 205,Own 177 Emit.cells 4 vs sent,Sl true Instr.cells 5 vp p,Tab])
 (h8 : cs.length = 8) (hs : sent.length ≤ 65536) (hp : p.length ≤ 64) :
 Calls Tryz.prog 118 #[.pointer (some ⟨R,0,none⟩)] w (StepPost F R e vp fan (stepE p e fan ⟨cs,k,sent⟩) ⟨cs,k,sent⟩ w):=by
 obtain ⟨ad,cap,rfl,_⟩:=(S.sl 2 rfl).elim fun _ h=>h.form
 have H8:=Lib.hid (show (Mach.mk cs k sent).cs.length = 8 from h8)
 clear h8
 by_cases hk : k < p.length
 case neg=>
  have hk2 : (p.length : Int) ≤ k:=by omega
  rw [show stepE p e fan ⟨cs,k,sent⟩ = none by unfold stepE;rw [if_pos (.inr hk2)]]
  go_enter Tryz.func118,Tryz.ntmps118
  go_wp2_with first | ((with_reducible apply wps_load S 0 (hu:=mach_at (m:=⟨cs,(k:Int),sent⟩) H8.out));(case hx|hi=>rfl);(case hT=>decide +kernel)) | ((with_reducible apply wps_load S 0 (hu:=mach_prog));(case hx|hi=>rfl);(case hT=>decide +kernel)) | ((with_reducible refine tot_done ?ht ?_);(case ht=>kernel_rfl)) | ((with_reducible apply wps_text S);(case hm=>kernel_rfl);(case hB=>decide +kernel);clear S;intro wz S)
  go_ret
  exact ⟨vs,by simp,S.pick [0,1] rfl⟩
 case pos=>
  have hk2 : (k : Int) < p.length:=by omega
  obtain ⟨x,hx⟩ : ∃ x,p[k]? = some x:=⟨_,List.getElem?_eq_getElem hk⟩
  obtain ⟨RP,oP,rfl⟩ : ∃ R o,ad = some ⟨R,o,none⟩:=(S.sl 2 rfl).elim fun F h=>h.head (by omega)
  have hst : stepE p e fan ⟨cs,k,sent⟩ = if x.op = 15 ∨ mayE x p.length ≠ 0 then none else some (doE e fan ⟨cs,k + 1,sent⟩ x):=by
   unfold stepE
   rw [if_neg (by simp;omega)]
   simp only [Int.toNat_natCast,hx]
  by_cases h15 : x.op = 15
  · rw [if_pos (.inl h15)] at hst
    rw [hst]
    clear hst
    obtain ⟨op,a,b,c,d⟩:=x
    simp only at h15
    subst h15
    have Hx:=Lib.hid hx
    clear hx
    go_enter Tryz.func118,Tryz.ntmps118
    go_wp2_with first | go_skip | ((with_reducible apply wps_alloca (E:=79) S);(case hz=>exact Tryz.zeroValue79);clear S;intro bx wz S) | ((with_reducible apply wps_loada_el S 2 (hj:=Hx.out) (q:=0) (vs:=[.int .i64 (⟨15,a,b,c,d⟩:Instr).op,.int .i64 (⟨15,a,b,c,d⟩:Instr).a,.int .i64 (⟨15,a,b,c,d⟩:Instr).b,.int .i64 (⟨15,a,b,c,d⟩:Instr).c,.int .i64 (⟨15,a,b,c,d⟩:Instr).d]) (m:=5));(case hx|hi=>rfl);(case hn=>omega);(case hm|hv=>rfl);(case hT=>decide +kernel)) | ((with_reducible apply wps_storea (T:=79) S 0 (vs:=[.int .i64 15,.int .i64 a,.int .i64 b,.int .i64 c,.int .i64 d]) (m:=5));(case hx|hy|hi|hm|h1=>rfl);(case hn=>exact nle rfl);(case hT=>decide +kernel);clear S;intro wz S;simp only [set_cons_zero,set_cons_succ,setAll,setIfInBounds_toArray] at S) | ((with_reducible apply wps_load S 0 (hu:=mach_at (m:=⟨cs,(k:Int),sent⟩) H8.out));(case hx|hi=>rfl);(case hT=>decide +kernel)) | ((with_reducible apply wps_load S 0 (hu:=mach_prog));(case hx|hi=>rfl);(case hT=>decide +kernel)) | ((with_reducible refine tot_done ?ht ?_);(case ht=>kernel_rfl)) | ((with_reducible apply wps_text S);(case hm=>kernel_rfl);(case hB=>decide +kernel);clear S;intro wz S) | ((with_reducible apply wps_load S 0);(case hx|hi|hu=>rfl);(case hT=>decide +kernel))
    go_ret
    exact ⟨vs,by simp,S.pick [1,2] rfl⟩
  have HM:=Lib.hid fun w F2 h=>may_calls x p.length w F2 h
  have h15b : (x.op == 15) = false:=by simpa using h15
  by_cases hm : mayE x p.length = 0
  case neg=>
   rw [if_pos (.inr hm)] at hst
   rw [hst]
   clear hst
   obtain ⟨er,her⟩ : ∃ er,mayE x p.length = er:=⟨_,rfl⟩
   rw [her] at HM hm
   have hm2 : (er != 0) = true:=by simpa using hm
   clear her
   have Hx:=Lib.hid hx
   clear hx
   go_enter Tryz.func118,Tryz.ntmps118
   go_wp2_with first | ((with_reducible apply wps_alloca (E:=79) S);(case hz=>exact Tryz.zeroValue79);clear S;intro bx wz S) | ((with_reducible apply wps_loada_el S 2 (hj:=Hx.out) (q:=0) (vs:=[.int .i64 x.op,.int .i64 x.a,.int .i64 x.b,.int .i64 x.c,.int .i64 x.d]) (m:=5));(case hx|hi=>rfl);(case hn=>omega);(case hm|hv=>rfl);(case hT=>decide +kernel)) | ((with_reducible apply wps_storea (T:=79) S 0 (vs:=[.int .i64 x.op,.int .i64 x.a,.int .i64 x.b,.int .i64 x.c,.int .i64 x.d]) (m:=5));(case hx|hy|hi|hm|h1=>rfl);(case hn=>exact nle rfl);(case hT=>decide +kernel);clear S;intro wz S;simp only [set_cons_zero,set_cons_succ,setAll,setIfInBounds_toArray] at S) | ((with_reducible apply wps_load S 0 (hu:=mach_at (m:=⟨cs,(k:Int),sent⟩) H8.out));(case hx|hi=>rfl);(case hT=>decide +kernel)) | ((with_reducible apply wps_load S 0 (hu:=mach_prog));(case hx|hi=>rfl);(case hT=>decide +kernel)) | ((with_reducible apply wps_load S 1 (hu:=mach_prog));(case hx|hi=>rfl);(case hT=>decide +kernel)) | (go_at_call 124;refine Calls.mono (HM.out _ _ (S.get (i:=4) rfl).choose_spec) ?_;rintro e wz ⟨rfl,hE⟩;replace S:=S.ext (Keep.of_below hE);clear hE) | ((with_reducible refine tot_done ?ht ?_);(case ht=>kernel_rfl)) | ((with_reducible apply wps_text S);(case hm=>kernel_rfl);(case hB=>decide +kernel);clear S;intro wz S) | ((with_reducible apply wps_load S 0);(case hx|hi|hu=>rfl);(case hT=>decide +kernel)) | ((with_reducible apply wps_loada (T:=79) (k:=5) S 0);(case hx|hi=>rfl);(case hk=>exact nle rfl);(case hT=>decide +kernel))
   go_ret
   exact ⟨vs,by simp,S.pick [1,2] rfl⟩
  case pos=>
   rw [if_neg (fun h=>h.elim h15 (fun h=>h hm))] at hst
   rw [hst]
   clear hst
   have HX:=Lib.hid hm
   rw [hm] at HM
   clear hm
   have Hx:=Lib.hid hx
   clear hx
   go_enter Tryz.func118,Tryz.ntmps118
   go_wp2_with first | ((with_reducible apply wps_alloca (E:=79) S);(case hz=>exact Tryz.zeroValue79);clear S;intro bx wz S) | ((with_reducible apply wps_loada_el S 2 (hj:=Hx.out) (q:=0) (vs:=[.int .i64 x.op,.int .i64 x.a,.int .i64 x.b,.int .i64 x.c,.int .i64 x.d]) (m:=5));(case hx|hi=>rfl);(case hn=>omega);(case hm|hv=>rfl);(case hT=>decide +kernel)) | ((with_reducible apply wps_storea (T:=79) S 0 (vs:=[.int .i64 x.op,.int .i64 x.a,.int .i64 x.b,.int .i64 x.c,.int .i64 x.d]) (m:=5));(case hx|hy|hi|hm|h1=>rfl);(case hn=>exact nle rfl);(case hT=>decide +kernel);clear S;intro wz S;simp only [set_cons_zero,set_cons_succ,setAll,setIfInBounds_toArray] at S) | ((with_reducible apply wps_load S 0 (hu:=mach_at (m:=⟨cs,(k:Int),sent⟩) H8.out));(case hx|hi=>rfl);(case hT=>decide +kernel)) | ((with_reducible apply wps_load S 0 (hu:=mach_prog));(case hx|hi=>rfl);(case hT=>decide +kernel)) | ((with_reducible apply wps_load S 1 (hu:=mach_at (m:=⟨cs,(k:Int),sent⟩) H8.out));(case hx|hi=>rfl);(case hT=>decide +kernel)) | ((with_reducible apply wps_load S 1 (hu:=mach_prog));(case hx|hi=>rfl);(case hT=>decide +kernel)) | (go_at_call 124;refine Calls.mono (HM.out _ _ (S.get (i:=4) rfl).choose_spec) ?_;rintro e wz ⟨rfl,hE⟩;replace S:=S.ext (Keep.of_below hE);clear hE) | ((with_reducible apply wps_store S 1 (n:=16) (u:=.int .i64 ((k:Int)+1)));(case hx|hy|hi|h1=>rfl);(case hT=>decide +kernel);(case hn=>first | omega | (rw [mach_size H8.out];omega) | (rw [mach_size H8.out];decide) | (rw [rm_size H8.out];omega) | (rw [rm_size H8.out];decide) | (rw [rm_size (H8b _ _).out];decide));clear S;intro wz S;simp only [set_cons_succ,set_cons_zero] at S;rw [mach_setat (m:=⟨cs,(k:Int),sent⟩) H8.out] at S) | (go_at_call 126;obtain ⟨Fz,SF,hBk⟩:=S.lend [1,2] [] [0,3,4] rfl rfl rfl;simp only [List.append_nil,pick,nth] at SF;refine Calls.mono (do_calls Fz _ R e _ vs fan ⟨cs,(k:Int)+1,sent⟩ x p.length SF H8.out HX.out hs) ?_;rintro e wz ⟨vs',rfl,T⟩;replace S:=hBk _ _ T rfl;clear hBk SF T;simp only [cons_append,nil_append,pick,nth] at S) | ((with_reducible refine tot_done ?ht ?_);(case ht=>kernel_rfl)) | ((with_reducible apply wps_text S);(case hm=>kernel_rfl);(case hB=>decide +kernel);clear S;intro wz S) | ((with_reducible apply wps_load S 0);(case hx|hi|hu=>rfl);(case hT=>decide +kernel)) | ((with_reducible apply wps_loada (T:=79) (k:=5) S 0);(case hx|hi=>rfl);(case hk=>exact nle rfl);(case hT=>decide +kernel))
   go_ret
   exact ⟨_,by simp,S.pick [0,1] rfl⟩
end Go.Proofs.YtcnfionnnpnplaaGreatDoor
/- The walk of model.New. -/
namespace Go.Proofs.YtcnfionnnpnplaaGreatDoor
open Go Go.RowKit Reg Mem
open List (set_cons_succ set_cons_zero setIfInBounds_toArray cons_append nil_append)
def nilS : Value:=.slice none 0 0
def NewRel (bx R0 : Nat) (cs : Array Value) (aP : Option Addr) (cP : Nat) (vL vS : Value) (hs : List Value) (c : Cfg) (w : World) (i : Value) (wr : World) : Prop:=
 ∃ (j : Nat) (gs : List Value),j ≤ c.programs.length ∧ i = .int .i64 j ∧ gs.length = j ∧
  St (fun _=>False) w wr [Blk false bx cs 26,Own 80 vcell 1 (.slice (some ⟨R0,0,none⟩) c.programs.length c.programs.length) (gs ++ List.replicate (c.programs.length - j) nilS),Sls false Instr.cells 5 gs (c.programs.take j),Sls true Instr.cells 5 hs c.programs,Sl true vcell 1 (.slice aP c.programs.length cP) hs,Sl true Place.cells 5 vL c.lps,Sl true Start.cells 4 vS c.starts]
def NewPost (c : Cfg) (w : World) (e : Ending) (w' : World) : Prop:=
 (cfgE c ≠ 0 ∧ e = .returned (.tuple #[.pointer none,.int .i64 (cfgE c)]) ∧ Below w.heap.size w w') ∨
 (cfgE c = 0 ∧ ∃ R vs hs,e = .returned (.tuple #[.pointer (some ⟨R,0,none⟩),.int .i64 0]) ∧ St (fun _=>False) w w' [ModA false 128 R vs hs c])
theorem new_calls (vs hs : List Value) (c : Cfg) (w : World) (F F2 : Nat → Prop) (h : (CfgA true vs hs c).at_ w F) (ht : Tab.at_ w F2) (hm : Mid c) (hm2 : ∀ p ∈ c.programs,p.length ≤ 65536) :
 Calls Tryz.prog 27 #[.agg vs.toArray] w (NewPost c w):=by
 have S : St (fun _=>False) w w [CfgA true vs hs c,Tab]:=((St.init _ w).share rfl rfl ht).share rfl rfl h
 obtain ⟨aP,cP,aL,cL,aS,cS,rfl,hlen,S⟩:=S.cfg 0 rfl
 clear h ht
 have hp1:=hm.p
 have hp2:=hm.l
 have hp3:=hm.s
 have HC : Hid (∀ w F F2,(CfgA true [.slice aP c.programs.length cP,.slice aL c.lps.length cL,.slice aS c.starts.length cS,.int .i64 c.fin,.int .i64 c.fuel,.int .i64 c.fan] hs c).at_ w F → Tab.at_ w F2 →
  Calls Tryz.prog 52 #[.agg #[.slice aP c.programs.length cP,.slice aL c.lps.length cL,.slice aS c.starts.length cS,.int .i64 c.fin,.int .i64 c.fuel,.int .i64 c.fan]] w fun r w'=>r = .returned (.int .i64 (cfgE c)) ∧ Below w.heap.size w w'):=
  fun w F F2 h ht=>mcheck_calls _ hs c w F F2 h ht hm
 obtain ⟨e,he⟩ : ∃ e,cfgE c = e:=⟨_,rfl⟩
 unfold NewPost
 rw [he] at HC ⊢
 have He:=Lib.hid he
 clear he
 by_cases h0 : e = 0
 case neg=>
  have h1 : (e != 0) = true:=by simpa using h0
  have H0:=Lib.hid h0
  clear h0
  go_enter Tryz.func27,Tryz.ntmps27
  go_wp2_with first | ((with_reducible apply wps_boxa S);(case hx=>rfl);clear S;intro bx wz S) | (go_at_call 52;refine Calls.mono (HC.out _ _ _ (S.get (i:=5) rfl).choose_spec (S.get (i:=6) rfl).choose_spec) ?_;rintro e wz ⟨rfl,hE⟩;replace S:=S.ext (Keep.of_below hE);clear hE) | ((with_reducible apply wps_loada (T:=26) (k:=6) S 0);(case hx|hi=>rfl);(case hk=>exact nle rfl);(case hT=>decide +kernel))
  go_ret2
  exact .inl ⟨H0.out,by simp,S.below⟩
 case pos=>
  subst h0
  go_enter Tryz.func27,Tryz.ntmps27
  go_wp2_with first | ((with_reducible apply wps_boxa S);(case hx=>rfl);clear S;intro bx wz S) | (go_at_call 52;refine Calls.mono (HC.out _ _ _ (S.get (i:=5) rfl).choose_spec (S.get (i:=6) rfl).choose_spec) ?_;rintro e wz ⟨rfl,hE⟩;replace S:=S.ext (Keep.of_below hE);clear hE) | ((with_reducible apply wps_make vcells Tryz.underlying22 _ zero_Hdr S (n:=c.programs.length));(case hx|hy=>rfl);(case hn=>omega);clear S;intro bz wz S) | ((with_reducible apply wps_load S 0);(case hx|hi|hu=>rfl);(case hT=>decide +kernel)) | ((with_reducible apply wps_loada (T:=26) (k:=6) S 0);(case hx|hi=>rfl);(case hk=>exact nle rfl);(case hT=>decide +kernel)) | ((with_reducible apply wps_load S 1);(case hx|hi|hu=>rfl);(case hT=>decide +kernel))
  clear HC
  replace S:=(S.slsNil Instr.cells 5).pick [2,1,0,3,4,5,6] rfl
  simp only [pick,nth] at S
  go_loopw [20] (fun i wr=>NewRel bx bz #[.slice aP c.programs.length cP,.slice aL c.lps.length cL,.slice aS c.starts.length cS,.int .i64 c.fin,.int .i64 c.fuel,.int .i64 c.fan] aP cP (.slice aL c.lps.length cL) (.slice aS c.starts.length cS) hs c w i wr) (fun i _=>c.programs.length - (intOf i).toNat)
  case atStart=>exact ⟨0,[],Nat.zero_le _,rfl,rfl,S⟩
  case round=>
   clear S
   obtain ⟨j,gs,hj,rfl,hgs,S⟩:=hrel
   by_cases hlt : j < c.programs.length
   · obtain ⟨p,hp⟩ : ∃ p,c.programs[j]? = some p:=⟨_,List.getElem?_eq_getElem hlt⟩
     obtain ⟨v,hv⟩ : ∃ v,hs[j]? = some v:=⟨_,List.getElem?_eq_getElem (by omega)⟩
     obtain ⟨R,o,rfl⟩ : ∃ R o,aP = some ⟨R,o,none⟩:=(S.sl 4 rfl).elim fun F h=>h.head (by omega)
     have hlt2 : (j : Int) < c.programs.length:=by omega
     have hpn:=hm2 p (List.mem_of_getElem? hp)
     obtain ⟨av,cv,rfl,_⟩:=(S.sls 3 rfl).elim fun F h=>(h.2 j v p hv hp).form
     have hr : List.replicate (c.programs.length - j) nilS = nilS :: List.replicate (c.programs.length - (j + 1)) nilS:=by
      rw [← List.replicate_succ];congr 1;omega
     rw [hr] at S
     have hj0 : (gs ++ nilS :: List.replicate (c.programs.length - (j + 1)) nilS)[j]? = some nilS:=by rw [← hgs];simp
     clear hr
     have Hp:=Lib.hid hp
     have Hv:=Lib.hid hv
     have Hj0:=Lib.hid hj0
     clear hp hv hj0
     go_wp2_with first | ((with_reducible apply wps_load_el S 4 (hj:=Hv.out) (q:=0) (u:=(.slice av p.length cv)));(case hx|hi=>rfl);(case hn=>omega);(case hu=>rfl);(case hT=>decide +kernel))
     refine Calls.mono (clone_In _ _ ((S.slsEl 3 rfl Hv.out Hp.out).get (i:=0) rfl).choose_spec (by omega)) ?_
     rintro e wz ⟨ad2,c2,rfl,_,T⟩
     replace S:=S.join T rfl
     simp only [cons_append,nil_append] at S
     clear T
     go_wp2_with first | ((with_reducible apply wps_store_own vcells S 2 (hj:=Hj0.out) (e':=(.slice ad2 p.length c2)) (q:=0));(case hx=>rfl);(case hn=>omega);(case hi|hy|h1|he=>rfl);(case hq=>decide);(case hT=>decide +kernel);clear S;intro wz S;simp only [set_cons_succ,set_cons_zero] at S)
     rw [hset hgs.symm] at S
     replace S:=((S.freeze false 0 incells rfl).pick [0,3,1,2,4,5,6,7] rfl)
     simp only [set_cons_zero,pick,nth] at S
     replace S:=S.slsSnoc.pick [1,2,0,3,4,5,6] rfl
     simp only [pick,nth] at S
     go_roundw
     case rel=>
      refine ⟨j + 1,gs ++ [.slice ad2 p.length c2],by omega,by go_num,by simp [hgs],?_⟩
      have ht : c.programs.take (j + 1) = c.programs.take j ++ [p]:=by rw [List.take_add_one,Hp.out];rfl
      rw [ht]
      exact S
     case measure=>first | (simp [intOf];done) | (simp [intOf];omega)
   · obtain rfl : j = c.programs.length:=by omega
     rw [Nat.sub_self,List.replicate_zero,List.append_nil,List.take_length] at S
     replace S:=S.freeze false 1 vcells rfl
     simp only [set_cons_succ,set_cons_zero] at S
     obtain ⟨ps,ls,ss,fin,fuel,fan⟩:=c
     have hz:=He.out
     simp only at S hp1 hp2 hp3 hlen
     go_wp2_with first | ((with_reducible apply wps_store S 0);(case hx|hy|hi|h1=>rfl);(case hn=>exact nle rfl);(case hT=>decide +kernel);clear S;intro wz S;simp only [set_cons_zero,setIfInBounds_toArray] at S) | ((with_reducible apply wps_load S 0);(case hx|hi|hu=>rfl);(case hT=>decide +kernel))
     refine Calls.mono (clone_Pl _ _ (S.get (i:=5) rfl).choose_spec (by omega)) ?_
     rintro e wz ⟨ad2,c2,rfl,_,T⟩
     replace S:=((S.join T rfl).freeze false 0 plcells rfl).pick [1,0,2,3,7] rfl
     simp only [cons_append,nil_append,set_cons_zero,pick,nth] at S
     clear T
     go_wp2_with first | ((with_reducible apply wps_store S 0);(case hx|hy|hi|h1=>rfl);(case hn=>exact nle rfl);(case hT=>decide +kernel);clear S;intro wz S;simp only [set_cons_succ,set_cons_zero,setIfInBounds_toArray] at S) | ((with_reducible apply wps_load S 0);(case hx|hi|hu=>rfl);(case hT=>decide +kernel))
     refine Calls.mono (clone_Sta _ _ (S.get (i:=4) rfl).choose_spec (by omega)) ?_
     rintro e wz ⟨ad3,c3,rfl,_,T⟩
     replace S:=((S.join T rfl).freeze false 0 stcells rfl).pick [1,3,2,0,4] rfl
     simp only [cons_append,nil_append,set_cons_zero,pick,nth] at S
     clear T
     go_wp2_with first | ((with_reducible apply wps_store S 0);(case hx|hy|hi|h1=>rfl);(case hn=>exact nle rfl);(case hT=>decide +kernel);clear S;intro wz S;simp only [set_cons_succ,set_cons_zero,setIfInBounds_toArray] at S) | ((with_reducible apply wps_boxa S);(case hx=>rfl);clear S;intro b2 wz S) | ((with_reducible apply wps_loada (T:=26) (k:=6) S 0);(case hx|hi=>rfl);(case hk=>exact nle rfl);(case hT=>decide +kernel))
     go_ret2
     replace S:=S.pick [0,2,3,4,5] rfl
     simp only [pick,nth] at S
     refine .inr ⟨trivial,_,_,_,rfl,S.modNew⟩
end Go.Proofs.YtcnfionnnpnplaaGreatDoor
/- The walk of vm.New. -/
namespace Go.Proofs.YtcnfionnnpnplaaGreatDoor
open Go Go.RowKit Reg Mem
open List (set_cons_succ set_cons_zero setIfInBounds_toArray cons_append nil_append)
def VNewPost (s : State) (e : Event) (p : List Instr) (fan : Int) (w : World) (r : Ending) (w' : World) : Prop:=
 ∃ R vp,r = .returned (.pointer (some ⟨R,0,none⟩)) ∧ St (fun _=>False) w w' [Blk false R (machCells e vp (startE s) fan nilS) 205,Own 177 Emit.cells 4 nilS [],Own 79 Instr.cells 5 vp p]
theorem vnew_calls (ad : Option Addr) (cap : Nat) (p : List Instr) (s : State) (e : Event) (fan : Int) (w : World) (F : Nat → Prop) (h : (Sl true Instr.cells 5 (.slice ad p.length cap) p).at_ w F) (hp : p.length ≤ 64) :
 Calls Tryz.prog 117 #[.slice ad p.length cap,.agg #[.int .i64 s.n0,.int .i64 s.n1,.int .i64 s.n2,.int .i64 s.n3],.agg #[.int .i64 e.key.at_,.int .i64 e.key.src,.int .i64 e.key.sent,.int .i64 e.key.no,.int .i64 e.dst,.int .i64 e.kind,.int .i64 e.data],.int .i64 fan] w (VNewPost s e p fan w):=by
 have S : St (fun _=>False) w w [Sl true Instr.cells 5 (.slice ad p.length cap) p]:=(St.init _ w).share rfl rfl h
 clear h
 have hp2 : (p.length : Int) ≤ 64:=by omega
 go_enter Tryz.func117,Tryz.ntmps117
 go_wp2_with first | ((with_reducible apply wps_boxa (E:=50) S);(case hx=>rfl);clear S;intro bs wz S) | ((with_reducible apply wps_boxa (E:=56) S);(case hx=>rfl);clear S;intro be wz S)
 (refine wp_region_w (soft:=[0,1,2,3,4,7]) S ?hm ?hB ?_);(case hm=>kernel_rfl);(case hB=>decide +kernel);clear S
 iterate 6
  (with_reducible apply softs_cons)
  (case hw=>
    (with_reducible apply soft_of);(case hi=>rfl)
    intro T wz S
    simp only [cons_append,nil_append] at S
    go_wp2_with first | ((with_reducible refine tot_done ?ht ?_);(case ht=>kernel_rfl)) | ((with_reducible apply wps_loada (T:=56) (k:=7) S 0);(case hx|hi=>rfl);(case hk=>exact nle rfl);(case hT=>decide +kernel))
    exact ⟨rfl,S⟩)
  (case hs=>exact ⟨_,rfl,by kernel_rfl⟩)
 refine softs_nil ?_
 repeat'
  (first
    | ((with_reducible apply W_hard1 (i:=5));(case hn=>rfl);(case hr=>decide +kernel)) | ((with_reducible apply W_hard1 (i:=6));(case hn=>rfl);(case hr=>decide +kernel)) | ((with_reducible apply W_hard1 (i:=8));(case hn=>rfl);(case hr=>decide +kernel)) | ((with_reducible apply W_hard1 (i:=9));(case hn=>rfl);(case hr=>decide +kernel)) | ((with_reducible apply W_hard1 (i:=10));(case hn=>rfl);(case hr=>decide +kernel)) | ((with_reducible apply W_hard2 (i:=9) (i':=10));(case hn=>rfl);(case hr=>decide +kernel)))
  all_goals
   intro wz S
   (with_reducible apply hard_of);(case hi=>rfl)
   simp only [cons_append,nil_append] at S
   try simp only [pick,nth] at S
   go_wp2_with first | ((with_reducible apply wps_slice (E:=79) S 2 (l:=0) (u:=p.length));(case hx|hi=>rfl);(case hT=>exact Tryz.underlying80);(case hE=>intro w;kernel_rfl);(case hlo|hhi=>first | exact .inr rfl | exact .inl ⟨rfl,rfl⟩);(case h1|h2=>first | omega | (simp;omega));clear S;intro az nz cz hnz S) | (go_at_call 53;simp only [List.drop_zero,List.take_length] at S;obtain rfl : nz = p.length:=(by have:=hnz.out;simp at this;omega);have hc0:=clone_In _ _ (S.get (i:=3) rfl).choose_spec (by omega);refine Calls.mono hc0 ?_;clear hc0;rintro e wz ⟨ad2,c2,rfl,_,T⟩;replace S:=S.join T rfl;clear T;simp only [cons_append,nil_append] at S) | ((with_reducible apply wps_boxa (E:=205) S);(case hx=>rfl);clear S;intro bm wz S) | ((with_reducible refine tot_done ?ht ?_);(case ht=>kernel_rfl))
   first
    | refine ⟨_,S.pick [1,2,3,4,5,6,7,8,9,0] rfl,?_⟩
    | refine ⟨_,S.pick [1,2,3,4,5,6,7,8,0] rfl,?_⟩
    | refine ⟨_,S.pick [1,2,3,4,5,6,7,0] rfl,?_⟩
    | refine ⟨_,S.pick [1,2,3,4,5,6,0] rfl,?_⟩
    | refine ⟨_,S.pick [1,2,3,4,5,0] rfl,?_⟩
    | refine ⟨_,S.pick [1,2,3,4,0] rfl,?_⟩
    | refine ⟨_,S.pick [1,2,3,0] rfl,?_⟩
    | refine ⟨_,S,?_⟩
 (with_reducible apply W_done);(case hn=>rfl);(case hr=>decide +kernel)
 clear S
 intro wz S
 simp only [cons_append,nil_append] at S
 try simp only [pick,nth] at S
 go_wp2_with first | ((with_reducible refine tot_done ?ht ?_);(case ht=>kernel_rfl)) | ((with_reducible apply wps_text S);(case hm=>kernel_rfl);(case hB=>decide +kernel);clear S;intro wz S) | ((with_reducible apply wps_copyb (elem:=3) S 5 rfl 1 rfl (us:=[.int .i64 s.n0,.int .i64 s.n1,.int .i64 s.n2,.int .i64 s.n3]));(case hx|hy=>rfl);(case hu|hsz=>kernel_rfl);(case hn=>rfl);(case hsrc=>intro k v hk;rcases k with _ | _ | _ | _ | k <;> first | exact hk | simp at hk);(case hfit=>exact nle rfl);(case h1=>rfl);clear S;intro wz S)
 go_ret
 replace S:=((S.pick [5,4] rfl).nil 177 Emit.cells 4).pick [1,0,2] rfl
 exact ⟨_,_,rfl,S⟩
end Go.Proofs.YtcnfionnnpnplaaGreatDoor
/- Several results, of which some lie in cells. Over any program. -/
namespace Go.Proofs.YtcnfionnnpnplaaGreatDoor.Mem
open Go Go.RowKit Reg
open List (set_cons_succ set_cons_zero setIfInBounds_toArray cons_append nil_append)
def ResV (P : Program) (w : World) (tmps : Array Value) : ResultVar → Value → Prop
 | .tmp t,v=>tmps.getD t undef = v
 | .cell q t,v=>∃ b,tmps.getD q undef = .pointer (some ⟨b,0,none⟩) ∧ (loadVar t ⟨b,0,none⟩).run P w = .ok v w
section
variable {P : Program} {fn : Func} {tmps : Array Value} {G : Nat → Prop} {w0 w : World} {L : List Asn} {r1 r2 r3 : ResultVar} {v1 v2 v3 : Value}
theorem results2 (h : fn.results = #[r1,r2]) (h1 : ResV P w tmps r1 v1) (h2 : ResV P w tmps r2 v2) : (results fn tmps).run P w = .ok (.tuple #[v1,v2]) w:=by
 cases r1 <;> cases r2 <;> simp only [ResV,Array.getD_eq_getD_getElem?] at h1 h2
 · simp [results,h,h1,h2]
 · obtain ⟨b2,p2,l2⟩:=h2;simp [results,h,h1,p2,asAddr,l2]
 · obtain ⟨b1,p1,l1⟩:=h1;simp [results,h,h2,p1,asAddr,l1]
 · obtain ⟨b1,p1,l1⟩:=h1;obtain ⟨b2,p2,l2⟩:=h2;simp [results,h,p1,p2,asAddr,l1,l2]
theorem results3 (h : fn.results = #[r1,r2,r3]) (h1 : ResV P w tmps r1 v1) (h2 : ResV P w tmps r2 v2) (h3 : ResV P w tmps r3 v3) : (results fn tmps).run P w = .ok (.tuple #[v1,v2,v3]) w:=by
 cases r1 <;> cases r2 <;> cases r3 <;> simp only [ResV,Array.getD_eq_getD_getElem?] at h1 h2 h3
 · simp [results,h,h1,h2,h3]
 · obtain ⟨b3,p3,l3⟩:=h3;simp [results,h,h1,h2,p3,asAddr,l3]
 · obtain ⟨b2,p2,l2⟩:=h2;simp [results,h,h1,h3,p2,asAddr,l2]
 · obtain ⟨b2,p2,l2⟩:=h2;obtain ⟨b3,p3,l3⟩:=h3;simp [results,h,h1,p2,p3,asAddr,l2,l3]
 · obtain ⟨b1,p1,l1⟩:=h1;simp [results,h,h2,h3,p1,asAddr,l1]
 · obtain ⟨b1,p1,l1⟩:=h1;obtain ⟨b3,p3,l3⟩:=h3;simp [results,h,h2,p1,p3,asAddr,l1,l3]
 · obtain ⟨b1,p1,l1⟩:=h1;obtain ⟨b2,p2,l2⟩:=h2;simp [results,h,h3,p1,p2,asAddr,l1,l2]
 · obtain ⟨b1,p1,l1⟩:=h1;obtain ⟨b2,p2,l2⟩:=h2;obtain ⟨b3,p3,l3⟩:=h3;simp [results,h,p1,p2,p3,asAddr,l1,l2,l3]
theorem St.resA {sh : Bool} {b : Nat} {cs : Array Value} {t ty : TypeId} {q : Tmp} (S : St G w0 w L) (i : Nat) (hi : L[i]? = some (Blk sh b cs t)) (hp : tmps.getD q undef = .pointer (some ⟨b,0,none⟩)) (hA : aggB P ty cs.size = true) : ResV P w tmps (.cell q ty) (.agg cs):=by
 refine ⟨b,hp,?_⟩
 have hl:=run_loadVar_agg (P:=P) (t:=ty) (b:=b) (o:=0) (w:=w) (vs:=cs.toList) (by simpa using hA) (fun j u hj=>by rw [Nat.zero_add,cell_of (S.blk i hi)];simpa using hj)
 simpa using hl
theorem res_tmp {t : Tmp} {v : Value} (h : tmps.getD t undef = v) : ResV P w tmps (.tmp t) v:=h
end
end Go.Proofs.YtcnfionnnpnplaaGreatDoor.Mem
