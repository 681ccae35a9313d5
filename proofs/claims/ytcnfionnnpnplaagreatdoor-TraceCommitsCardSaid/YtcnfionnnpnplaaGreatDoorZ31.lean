import Derived.Test.YtcnfionnnpnplaaGreatDoorZ30
import Derived.WalkMore
import Derived.Test.YtcnfionnnpnplaaGreatDoorZ12
import Derived.Test.YtcnfionnnpnplaaGreatDoorZ21
import Derived.Test.YtcnfionnnpnplaaGreatDoorZ26
import Derived.Test.YtcnfionnnpnplaaGreatDoorZ06
import Derived.Test.YtcnfionnnpnplaaGreatDoorZ14
/- The walk of a trace's Differ, where it differs not. -/
set_option maxHeartbeats 16000000
set_option maxRecDepth 100000
namespace Go.Proofs.YtcnfionnnpnplaaGreatDoor
open Go Go.RowKit Reg Mem
open List (set_cons_succ set_cons_zero setIfInBounds_toArray cons_append nil_append)
def DiRel (L : List Asn) (n : Nat) (w : World) (i : Value) (wr : World) : Prop:=
 ∃ j : Nat,j ≤ n ∧ i = .int .i64 j ∧ St (fun _=>False) w wr L
theorem tdiffer_same (X R : Nat) (vs hs : List Value) (c : Cfg) (t : TrE) (u : Int) (n most : Nat) (bs : List BatE) (s' : SimE) (w : World) (F F2 F3 : Nat → Prop) (h : (traceA X R t).at_ w F) (h2 : (ModA true 128 R vs hs c).at_ w F2) (ht : Tab.at_ w F3) (hc : cfgE c = 0) (hsm : SmallT t)
 (hfl : (t.flatMap (·.1)).length ≤ 65536) (hr : Rise (t.flatMap (·.1))) (hn : n ≤ 65536) (hm : most ≤ 65536) (hu : untilE c u most (newE c) = some (bs,s')) (hft : fitsE c u n most (newE c) = true) (hb : aheadE u (sortB (t.flatMap (·.1))) = bs) (hbs : SmallB bs) :
 Calls Tryz.prog 23 #[.pointer (some ⟨X,0,none⟩),.int .i64 u,.int .i64 most] w fun e w'=>e = .returned (.tuple #[.int .i64 (bs.length : Nat),.int .i64 14]) ∧ Below w.heap.size w w':=by
 obtain ⟨v,F4,hX⟩ : ∃ v F',(Blk true X #[.pointer (some ⟨R,0,none⟩),v] 89).at_ w F':=by
  obtain ⟨v,ps,pool,_,_,S⟩:=traceR_st h
  obtain ⟨F',hF⟩:=S.get (i:=4) rfl
  exact ⟨v,F',hF⟩
 have S : St (fun _=>False) w w [rd (traceA X R t),Blk true X #[.pointer (some ⟨R,0,none⟩),v] 89,ModA true 128 R vs hs c,Tab]:=
  ((((St.init _ w).share rfl rfl ht).share rfl rfl h2).share (A:=Blk true X #[.pointer (some ⟨R,0,none⟩),v] 89) rfl rfl hX).share (A:=rd (traceA X R t)) rfl rfl h
 clear h h2 ht hX
 have HF:=Lib.hid (cfg_isfine hc)
 have HU:=Lib.hid fun (X : Nat) (w : World) (F : Nat → Prop) (S : St F w w [simA X R (newE c),ModA true 128 R vs hs c,Tab])=>until_calls X R vs hs c (newE c) s' u n most bs w F S hc (new_ok (cfg_isfine hc)) hn hm hu hft
 have hal : (sortB (t.flatMap (·.1))).length = (t.flatMap (·.1)).length:=(sortB_perm _).length_eq
 have HA:=Lib.hid fun (w : World) (F : Nat → Prop) (h : (rd (traceA X R t)).at_ w F)=>tall_calls X R t w F h hsm hfl hr
 obtain ⟨sb,hsb⟩ : ∃ l,sortB (t.flatMap (·.1)) = l:=⟨_,rfl⟩
 rw [hsb] at HA hal hb
 have hsb6 : sb.length ≤ 65536:=by omega
 have HB:=Lib.hid hb
 have HBS:=Lib.hid hbs
 have hmost : decide ((most : Int) < 0) = false:=decide_eq_false (by omega)
 clear hc hsm hfl hr hn hm hu hft hb hbs hal hsb
 go_enter Tryz.func23,Tryz.ntmps23
 go_wp2_with first | ((with_reducible apply wps_loada (T:=52) (k:=8) S 0);(case hx|hi=>rfl);(case hk=>exact nle rfl);(case hT=>decide +kernel))
 go_step3
 go_upto_region 11 with first | (go_at_call 47;refine Calls.mono (snew_calls R vs hs c _ _ (S.get (i:=2) rfl).choose_spec HF.out) ?_;rintro e wz ⟨X2,rfl,T⟩;replace S:=S.join T rfl;clear T;simp only [cons_append,nil_append] at S) | (go_at_call 48;obtain ⟨Fz,hF,hBk⟩:=S.lend [0] [3,4] [1,2,3,4] rfl rfl rfl;simp only [cons_append,nil_append,pick,nth] at hF hBk;refine Calls.mono (HU.out _ _ _ hF) ?_;rintro e wz ⟨a,cp,l,rfl,hlb,T⟩;(have hq1 : bs.length = l.length:=(by rw [← hlb,List.length_map]));rw [hq1] at T ⊢;clear hq1;have HLB:=Lib.hid hlb;clear hlb;replace S:=hBk _ _ T rfl;clear hBk hF T;simp only [cons_append,nil_append] at S) | ((with_reducible apply wps_load S 1);(case hx|hi|hu=>rfl);(case hT=>decide +kernel))
 go_upto_region 12 with first | (go_at_call 12;refine Calls.mono (HA.out _ _ (S.get (i:=4) rfl).choose_spec) ?_;rintro e wz ⟨a3,c3,d,rfl,hd,T⟩;(have hq1 : sb.length = d.length:=(by rw [← hd,List.length_map]));rw [hq1] at T ⊢;rw [hq1] at hsb6;clear hq1;have HD:=Lib.hid hd;clear hd;replace S:=S.join T rfl;clear T;simp only [cons_append,nil_append] at S) | (go_at_call 39;refine Calls.mono (tahead_calls a3 c3 d u _ _ (own_sl (sh:=true) bvcells (S.get (i:=0) rfl).choose_spec) (Nat.le_trans hsb6 (by decide))) ?_;rintro e wz ⟨rfl,hE⟩;replace S:=S.ext (Keep.of_below hE);clear hE)
 obtain ⟨q,hq⟩ : ∃ q,aheadV u d = q:=⟨_,rfl⟩
 have hqb : q.map (·.b) = bs:=by rw [← hq,aheadV_e,HD.out];exact HB.out
 have HQM : Hid (∀ x ∈ q,x ∈ d):=Lib.hid fun x hx=>aheadV_mem (by rw [hq];exact hx)
 replace S:=(S.freeze true 0 bvcells rfl)
 simp only [set_cons_zero] at S
 replace S:=(S.also (A':=Sl true BatV.cells 8 (.slice a3 q.length c3) q) 0 rfl rfl rfl (fun F h=>⟨F,fun _ hb=>hb,by rw [← hq];exact sl_cut h⟩)).freeze true 5 bvcells rfl
 simp only [set_cons_zero,set_cons_succ] at S
 rw [hq]
 have hql : q.length = l.length:=by have h1:=congrArg List.length hqb;have h2:=congrArg List.length HLB.out;rw [List.length_map] at h1 h2;omega
 have hbl : bs.length = l.length:=by rw [← HLB.out,List.length_map]
 rw [hql] at S ⊢
 have HBL2:=Lib.hid hbl
 have HQB:=Lib.hid hqb
 have HBL : Hid (l.length ≤ 65536):=Lib.hid (by have:=HBS.out.1;omega)
 have hl6 : (l.length : Int) ≤ 65536:=by have:=HBL.out;omega
 clear hq hqb hql hbl hsb6
 go_wp2_with first | ((with_reducible apply wps_loada (T:=52) (k:=8) S 0);(case hx|hi=>rfl);(case hk=>exact nle rfl);(case hT=>decide +kernel))
 go_step3
 go_wp2_with first | ((with_reducible apply wps_loada (T:=52) (k:=8) S 0);(case hx|hi=>rfl);(case hk=>exact nle rfl);(case hT=>decide +kernel))
 go_loopw [12] (fun i wr=>DiRel _ l.length w i wr) (fun i _=>l.length - (intOf i).toNat)
 case atStart=>exact ⟨0,Nat.zero_le _,rfl,S⟩
 case round=>
  clear S
  obtain ⟨j,hj,rfl,S⟩:=hrel
  by_cases hlt : j < l.length
  · obtain ⟨x,hx⟩ : ∃ x,l[j]? = some x:=⟨_,List.getElem?_eq_getElem hlt⟩
    obtain ⟨y,hy⟩ : ∃ y,q[j]? = some y:=by
     have h1:=congrArg List.length HQB.out;have h2:=congrArg List.length HLB.out
     rw [List.length_map] at h1 h2
     exact ⟨_,List.getElem?_eq_getElem (by omega)⟩
    have hb : x.b = y.b:=by
     have h1:=congrArg (fun m=>m[j]?) (HLB.out.trans HQB.out.symm)
     simp only [List.getElem?_map,hx,hy,Option.map_some,Option.some.injEq] at h1
     exact h1
    have hlt2 : (j : Int) < l.length:=by omega
    have hsz:=HBS.out.2 x.b (by rw [← HLB.out];exact List.mem_map.2 ⟨x,List.mem_of_getElem? hx,rfl⟩)
    have HXM:=Lib.hid (List.mem_of_getElem? hx)
    have HYM:=Lib.hid (HQM.out y (List.mem_of_getElem? hy))
    have hsame:=fun w F1 F2 F3 F4 h1 h2 h3 h4=>same_calls x y w F1 F2 F3 F4 h1 h2 h3 h4 hsz.1 hsz.2
    rw [← hb,sameB_self] at hsame
    have HSM:=Lib.hid hsame
    have HX:=Lib.hid hx
    have HY:=Lib.hid hy
    obtain ⟨R1,o1,rfl⟩ : ∃ R o,a = some ⟨R,o,none⟩:=(S.sl 5 rfl).elim fun F h=>h.head (by omega)
    obtain ⟨R2,o2,rfl⟩ : ∃ R o,a3 = some ⟨R,o,none⟩:=(S.sl 0 rfl).elim fun F h=>h.head (by have:=(List.getElem?_eq_some_iff.1 HY.out).1;omega)
    clear hsame hsz hx hy
    obtain ⟨⟨xat,xlp,xins,xthn,xsent⟩,xai,xci,xao,xco⟩:=x
    obtain ⟨yb,yai,yci,yao,yco⟩:=y
    simp only at hb
    subst hb
    simp only [BatV.vi,BatV.vo] at *
    have fA : decide ((j : Int) ≥ (l.length : Int)) = false:=decide_eq_false (by omega)
    have fB : decide ((l.length : Int) ≤ (j : Int)) = false:=decide_eq_false (by omega)
    have fC : decide (l.length ≤ j) = false:=decide_eq_false (by omega)
    go_upto_region 16 with first | ((with_reducible refine wpList_skip ?hw ?_);(case hw=>with_unfolding_all rfl);simp only [Act.put,setIfInBounds_toArray,set_cons_succ,set_cons_zero])
    (refine wp_region_w (soft:=[0,1,2,3,4,5,6,7,8,9,10]) S ?hm ?hB ?_);(case hm=>kernel_rfl);(case hB=>decide +kernel);clear S
    iterate 11
     (with_reducible apply softs_cons)
     (case hw=>
       (with_reducible apply soft_of);(case hi=>rfl)
       intro T wz S
       simp only [cons_append,nil_append] at S
       go_wp2_with first | ((with_reducible apply wps_loada_el S 5 (hj:=HX.out) (q:=0) (vs:=[.int .i64 (⟨⟨xat,xlp,xins,xthn,xsent⟩,xai,xci,xao,xco⟩:BatV).b.at_,.int .i64 (⟨⟨xat,xlp,xins,xthn,xsent⟩,xai,xci,xao,xco⟩:BatV).b.lp,(⟨⟨xat,xlp,xins,xthn,xsent⟩,xai,xci,xao,xco⟩:BatV).vi,.int .i64 (⟨⟨xat,xlp,xins,xthn,xsent⟩,xai,xci,xao,xco⟩:BatV).b.thn.n0,.int .i64 (⟨⟨xat,xlp,xins,xthn,xsent⟩,xai,xci,xao,xco⟩:BatV).b.thn.n1,.int .i64 (⟨⟨xat,xlp,xins,xthn,xsent⟩,xai,xci,xao,xco⟩:BatV).b.thn.n2,.int .i64 (⟨⟨xat,xlp,xins,xthn,xsent⟩,xai,xci,xao,xco⟩:BatV).b.thn.n3,(⟨⟨xat,xlp,xins,xthn,xsent⟩,xai,xci,xao,xco⟩:BatV).vo]) (m:=8));(case hx|hi=>rfl);(case hn=>omega);(case hm|hv=>rfl);(case hT=>decide +kernel)) | ((with_reducible apply wps_loada_el S 0 (hj:=HY.out) (q:=0) (vs:=[.int .i64 (⟨⟨xat,xlp,xins,xthn,xsent⟩,yai,yci,yao,yco⟩:BatV).b.at_,.int .i64 (⟨⟨xat,xlp,xins,xthn,xsent⟩,yai,yci,yao,yco⟩:BatV).b.lp,(⟨⟨xat,xlp,xins,xthn,xsent⟩,yai,yci,yao,yco⟩:BatV).vi,.int .i64 (⟨⟨xat,xlp,xins,xthn,xsent⟩,yai,yci,yao,yco⟩:BatV).b.thn.n0,.int .i64 (⟨⟨xat,xlp,xins,xthn,xsent⟩,yai,yci,yao,yco⟩:BatV).b.thn.n1,.int .i64 (⟨⟨xat,xlp,xins,xthn,xsent⟩,yai,yci,yao,yco⟩:BatV).b.thn.n2,.int .i64 (⟨⟨xat,xlp,xins,xthn,xsent⟩,yai,yci,yao,yco⟩:BatV).b.thn.n3,(⟨⟨xat,xlp,xins,xthn,xsent⟩,yai,yci,yao,yco⟩:BatV).vo]) (m:=8));(case hx|hi=>rfl);(case hn=>omega);(case hm|hv=>rfl);(case hT=>decide +kernel)) | (go_at_call 49;refine Calls.mono (HSM.out _ _ _ _ _ (ins_el (sh:=false) (S.get (i:=6) rfl).choose_spec HXM.out) (ins_el (S.get (i:=2) rfl).choose_spec HYM.out) (out_el (sh:=false) (S.get (i:=7) rfl).choose_spec HXM.out) (out_el (S.get (i:=3) rfl).choose_spec HYM.out)) ?_;rintro e wz ⟨rfl,hE⟩;replace S:=S.ext (Keep.of_below hE);clear hE) | ((with_reducible refine tot_done ?ht ?_);(case ht=>kernel_rfl))
       exact ⟨rfl,S⟩)
     (case hs=>exact ⟨_,rfl,by kernel_rfl⟩)
    refine softs_nil ?_
    (with_reducible apply W_done);(case hn=>rfl);(case hr=>decide +kernel)
    intro wz S
    simp only [List.append_nil] at S
    go_wp2_with first | ((with_reducible apply wps_loada (T:=52) (k:=8) S 0);(case hx|hi=>rfl);(case hk=>exact nle rfl);(case hT=>decide +kernel))
    go_roundw
    case rel=>exact ⟨j + 1,by omega,by go_num,S⟩
    case measure=>simp [intOf];omega
  · obtain rfl : j = l.length:=by omega
    clear hlt hj
    go_wp2_with first | ((with_reducible apply wps_loada (T:=52) (k:=8) S 0);(case hx|hi=>rfl);(case hk=>exact nle rfl);(case hT=>decide +kernel))
    try rw [Exit.noGoto_ret]
    (try simp only [Exit.inBlock,Exit.then]);refine bodyPost_ret (results2 rfl (res_tmp rfl) (res_tmp rfl)) rfl ?_
    rw [HBL2.out]
    exact ⟨rfl,S.below⟩
end Go.Proofs.YtcnfionnnpnplaaGreatDoor
/- A configuration out of its parts. -/
namespace Go.Proofs.YtcnfionnnpnplaaGreatDoor
open Go Go.RowKit Reg Mem
open List (set_cons_succ set_cons_zero setIfInBounds_toArray cons_append nil_append)
theorem cfg_any {vP vL vS : Value} {hs : List Value} {c : Cfg} {w : World} {F1 F2 F3 F4 : Nat → Prop} (h1 : (Sl true vcell 1 vP hs).at_ w F1) (h2 : (Sl true Place.cells 5 vL c.lps).at_ w F2) (h3 : (Sl true Start.cells 4 vS c.starts).at_ w F3) (h4 : (Sls true Instr.cells 5 hs c.programs).at_ w F4) :
 (CfgA true [vP,vL,vS,.int .i64 c.fin,.int .i64 c.fuel,.int .i64 c.fan] hs c).at_ w (fun b=>b < w.heap.size):=
 ⟨⟨⟨vP,vL,vS,rfl,h1.1.mono h1.2,h2.1.mono h2.2,h3.1.mono h3.2⟩,h4.1.mono h4.2⟩,fun _ h=>h⟩
theorem sls_one {α : Type} {enc : α → List Value} {k : Nat} {v : Value} {xs : List α} {w : World} {F : Nat → Prop} (h : (Sl true enc k v xs).at_ w F) : (Sls true enc k [v] [xs]).at_ w F:=
 ⟨⟨rfl,fun i u ys hu hy=>by
   cases i with
   | zero=>simp at hu hy;subst hu;subst hy;exact h.1
   | succ i=>simp at hu⟩,h.2⟩
end Go.Proofs.YtcnfionnnpnplaaGreatDoor
/- The walk of the law's awake (chapter 20). -/
namespace Go.Proofs.YtcnfionnnpnplaaGreatDoor
open Go Go.RowKit Reg Mem
open List (set_cons_succ set_cons_zero setIfInBounds_toArray cons_append nil_append)
def wk20 : Cfg:=⟨[[⟨1,0,4,0,0⟩]],[⟨0,⟨0,0,0,0⟩⟩],[⟨0,1,0,0⟩],7,9,1⟩
def bk20 : BatE:=⟨1,0,[⟨⟨1,-1,-1,0⟩,0,0,0⟩],⟨4,0,0,0⟩,[]⟩
def sk20 : SimE:=⟨[[]],[⟨4,0,0,0⟩],0,1⟩
def tk20 : TrE:=[([bk20],⟨0,0,0,0⟩)]
theorem wk20_ok : cfgE wk20 = 0:=by decide +kernel
theorem wk20_mid : Mid wk20:=⟨by decide,by decide,by decide⟩
theorem wk20_mid2 : ∀ p ∈ wk20.programs,p.length ≤ 65536:=by decide
theorem wk20_fits : fitsE wk20 8 16 9 (newE wk20) = true:=by decide +kernel
theorem wk20_run : untilE wk20 8 9 (newE wk20) = some ([bk20],sk20):=by kernel_rfl
theorem wk20_com : commitT (newT wk20) [bk20] = (0,tk20):=by kernel_rfl
theorem wk20_holds : holdsE wk20 8 tk20 = true:=by decide +kernel
theorem wk20_small : SmallB [bk20]:=⟨by decide,fun b hb=>by rw [List.mem_singleton] at hb;subst hb;exact ⟨by decide,by decide⟩⟩
theorem wk20_small0 : SmallT (newT wk20):=⟨by decide,fun p hp=>by
 have : p = ([],⟨0,0,0,0⟩):=by simpa [newT,wk20] using hp
 subst this;exact ⟨by decide,fun b hb=>by simp at hb⟩⟩
theorem wk20_smallT : SmallT tk20:=⟨by decide,fun p hp=>by
 have : p = ([bk20],⟨0,0,0,0⟩):=by simpa [tk20] using hp
 subst this;exact wk20_small⟩
theorem wk20_smallH : SmallH wk20 8 tk20:=⟨by decide +kernel,by decide +kernel,fun p hp b hb e he=>by
 have : p = ([bk20],⟨0,0,0,0⟩):=by simpa [tk20] using hp
 subst this
 have : b = bk20:=by simpa using hb
 subst this
 have : e = ⟨⟨1,-1,-1,0⟩,0,0,0⟩:=by simpa [bk20] using he
 subst this
 decide⟩
theorem wk20_rise : Rise (tk20.flatMap (·.1)):=by unfold Rise;simp [tk20]
theorem wk20_ahead : aheadE 8 (sortB (tk20.flatMap (·.1))) = [bk20]:=by kernel_rfl
theorem awake20_calls (w : World) (F : Nat → Prop) (ht : Tab.at_ w F) : Calls Tryz.prog 8 #[] w fun r w'=>r = .returned (.bool true) ∧ Below w.heap.size w w':=by
 have S : St (fun _=>False) w w [Tab]:=(St.init _ w).share rfl rfl ht
 clear ht
 have HA : Hid (∀ (R : Nat) (vs hs : List Value) (w : World) (F F3 : Nat → Prop) (h : (ModA true 128 R vs hs wk20).at_ w F) (ht : Tab.at_ w F3),Calls Tryz.prog 28 #[.pointer (some ⟨R,0,none⟩),.int .i64 9] w fun e w'=>∃ a cp x a2 c2,e = .returned (.tuple #[.slice a 1 cp,.slice a2 1 c2,.int .i64 0]) ∧ x.b = bk20 ∧
  St (fun _=>False) w w' [Mem.Own 50 State.cells 4 (.slice a2 1 c2) sk20.ss,Mem.Own 52 BatV.cells 8 (.slice a 1 cp) [x],insA false [x],outA false [x]]):=Lib.hid fun R vs hs w F F3 h ht=>
  (all_calls R vs hs wk20 16 9 [bk20] sk20 w F F3 h ht wk20_ok (by decide) (by decide) wk20_run wk20_fits (by decide)).mono fun e w' hp=>by
    obtain ⟨a,cp,l,a2,c2,he,hl,T⟩:=hp
    obtain ⟨x,rfl⟩ : ∃ x,l = [x]:=List.length_eq_one_iff.1 (by have:=congrArg List.length hl;simpa using this)
    exact ⟨a,cp,x,a2,c2,he,by simpa using hl,T⟩
 have HC : Hid (∀ (X R : Nat) (a : Option Addr) (cp : Nat) (x : BatV) (_ : x.b = bk20) (w : World) (F : Nat → Prop) (S0 : St F w w [traceA X R (newT wk20),Sl true BatV.cells 8 (.slice a 1 cp) [x],insA true [x],outA true [x]]),Calls Tryz.prog 10 #[.pointer (some ⟨X,0,none⟩),.slice a 1 cp] w fun e w'=>e = .returned (.int .i64 0) ∧ St F w w' [traceA X R tk20]):=Lib.hid fun X R a cp x hx w F S0=>
  (tcommit_calls X R (newT wk20) a cp [x] w F S0 (by rw [List.map_singleton,hx];exact wk20_small) wk20_small0).mono fun e w' hp=>by
    rw [List.map_singleton,hx,wk20_com] at hp;exact hp
 have HD:=Lib.hid fun (X R : Nat) (vs hs : List Value) (w : World) (F F2 F3 : Nat → Prop) (h : (traceA X R tk20).at_ w F) (h2 : (ModA true 128 R vs hs wk20).at_ w F2) (ht : Tab.at_ w F3)=>
  tdiffer_same X R vs hs wk20 tk20 8 16 9 [bk20] sk20 w F F2 F3 h h2 ht wk20_ok wk20_smallT (by decide) wk20_rise (by decide) (by decide) wk20_run wk20_fits wk20_ahead wk20_small
 have HH:=Lib.hid fun (X R : Nat) (vs hs : List Value) (w : World) (F F2 F3 : Nat → Prop) (h : (traceA X R tk20).at_ w F) (h2 : (ModA true 128 R vs hs wk20).at_ w F2) (ht : Tab.at_ w F3)=>tholds_calls X R vs hs wk20 tk20 8 w F F2 F3 h h2 ht wk20_ok wk20_smallT wk20_smallH
 rw [wk20_holds] at HH
 have HL:=Lib.hid fun (X R : Nat) (w : World) (F : Nat → Prop) (h : (traceA X R tk20).at_ w F)=>tlen_calls X R tk20 w F h wk20_smallT
 go_enter Tryz.func8,Tryz.ntmps8
 go_wp2_with first | ((with_reducible apply wps_buildSlice (T:=80) (E:=79) (cs:=#[.int .i64 1,.int .i64 0,.int .i64 4,.int .i64 0,.int .i64 0]) S);(case hr=>intro w;kernel_rfl);clear S;intro bi wz S) | ((with_reducible apply wps_buildSlice (T:=22) (E:=80) (cs:=#[.slice (some ⟨bi,0,none⟩) 1 1]) S);(case hr=>intro w;kernel_rfl);clear S;intro bh wz S) | ((with_reducible apply wps_buildSlice (T:=23) (E:=82) (cs:=#[.int .i64 0,.int .i64 0,.int .i64 0,.int .i64 0,.int .i64 0]) S);(case hr=>intro w;kernel_rfl);clear S;intro bp wz S) | ((with_reducible apply wps_buildSlice (T:=24) (E:=84) (cs:=#[.int .i64 0,.int .i64 1,.int .i64 0,.int .i64 0]) S);(case hr=>intro w;kernel_rfl);clear S;intro bt wz S)
 have hcfg : (CfgA true [.slice (some ⟨bh,0,none⟩) 1 1,.slice (some ⟨bp,0,none⟩) 1 1,.slice (some ⟨bt,0,none⟩) 1 1,.int .i64 7,.int .i64 9,.int .i64 1] [.slice (some ⟨bi,0,none⟩) 1 1] wk20).at_ wz (fun b=>b < wz.heap.size):=
  cfg_any (c:=wk20) (blk_sl (n:=1) [.slice (some ⟨bi,0,none⟩) 1 1] vcells (S.get (i:=2) rfl).choose_spec rfl rfl) (blk_sl (n:=1) wk20.lps plcells (S.get (i:=1) rfl).choose_spec rfl rfl) (blk_sl (n:=1) wk20.starts stcells (S.get (i:=0) rfl).choose_spec rfl rfl)
   (sls_one (blk_sl (n:=1) wk20.programs[0] incells (S.get (i:=3) rfl).choose_spec rfl rfl))
 refine Calls.mono (new_calls _ _ wk20 _ _ _ hcfg (S.get (i:=4) rfl).choose_spec wk20_mid wk20_mid2) ?_
 clear hcfg
 rintro e wz (⟨h,_⟩ | ⟨_,R,vs,hs,rfl,T⟩)
 · exact absurd wk20_ok h
 replace S:=((S.join T rfl).modShare 0 rfl).pick [0,5] rfl
 repeat (first | simp only at S | simp only [pick] at S | simp only [nth] at S | simp only [set_cons_succ] at S | simp only [set_cons_zero] at S | simp only [setIfInBounds_toArray] at S | simp only [setAll] at S | simp only [cons_append] at S | simp only [nil_append] at S | simp only [List.append_nil] at S)
 clear T
 go_upto_region 7 with first | (go_at_call 28;refine Calls.mono (HA.out R vs hs _ _ _ (S.get (i:=0) rfl).choose_spec (S.get (i:=1) rfl).choose_spec) ?_;rintro e wz ⟨a,cp,x,a2,c2,rfl,hx,T⟩;have HX:=Lib.hid hx;clear hx;replace S:=S.join T rfl;clear T;simp only [cons_append,nil_append] at S) | (go_at_call 15;refine Calls.mono (tnew_calls R vs hs wk20 _ _ (S.get (i:=4) rfl).choose_spec (by decide)) ?_;rintro e wz ⟨X,rfl,T⟩;replace S:=S.join T rfl;clear T;simp only [cons_append,nil_append] at S)
 replace S:=S.freeze true 2 bvcells rfl
 simp only [set_cons_zero,set_cons_succ] at S
 replace S:=S.weak (i:=3) (A':=insA true [x]) rfl (fun e=>by cases e) (fun F h=>⟨F,fun _ hb=>hb,h⟩)
 simp only [set_cons_zero,set_cons_succ] at S
 replace S:=S.weak (i:=4) (A':=outA true [x]) rfl (fun e=>by cases e) (fun F h=>⟨F,fun _ hb=>hb,h⟩)
 simp only [set_cons_zero,set_cons_succ] at S
 go_wp2_with first | (go_at_call 10;obtain ⟨Fz,hF,hBk⟩:=S.lend [0] [2,3,4] [5,6] rfl rfl rfl;simp only [cons_append,nil_append,pick,nth] at hF hBk;refine Calls.mono (HC.out X R a cp x HX.out _ _ hF) ?_;rintro e wz ⟨rfl,T⟩;replace S:=hBk _ _ T rfl;clear hBk hF T;simp only [cons_append,nil_append] at S) | (go_at_call 23;refine Calls.mono (HD.out _ _ _ _ _ _ _ _ (S.get (i:=0) rfl).choose_spec (S.get (i:=1) rfl).choose_spec (S.get (i:=2) rfl).choose_spec) ?_;rintro e wz ⟨rfl,hE⟩;replace S:=S.ext (Keep.of_below hE);clear hE) | (go_at_call 14;refine Calls.mono (HH.out _ _ _ _ _ _ _ _ (S.get (i:=0) rfl).choose_spec (S.get (i:=1) rfl).choose_spec (S.get (i:=2) rfl).choose_spec) ?_;rintro e wz ⟨rfl,hE⟩;replace S:=S.ext (Keep.of_below hE);clear hE) | (go_at_call 18;refine Calls.mono (HL.out _ _ _ _ (S.get (i:=0) rfl).choose_spec) ?_;rintro e wz ⟨rfl,hE⟩;replace S:=S.ext (Keep.of_below hE);clear hE)
 go_ret
 exact ⟨rfl,S.below⟩
end Go.Proofs.YtcnfionnnpnplaaGreatDoor
/- The walks of the law's Plain and same (chapter 20), and of the law's Plain (chapter 9). -/
namespace Go.Proofs.YtcnfionnnpnplaaGreatDoor
open Go Go.RowKit Reg Mem
open List (set_cons_succ set_cons_zero setIfInBounds_toArray cons_append nil_append)
theorem elem_RBat : Elem Tryz.prog 45 67 8 96:=⟨_,.agg #[.int .i64 0,.int .i64 0,.slice none 0 0,.int .i64 0,.int .i64 0,.int .i64 0,.int .i64 0,.slice none 0 0],Tryz.underlying45,rfl,by kernel_rfl,by kernel_rfl,by kernel_rfl,by kernel_rfl,by omega⟩
def PlRel20 (L : List Asn) (l : List BatV) (w : World) (v i : Value) (wr : World) : Prop:=
 ∃ j : Nat,j ≤ l.length ∧ i = .int .i64 j ∧ St (fun _=>False) w wr (L ++ [Mem.Own 67 BatV.cells 8 v (l.take j)])
theorem tplain_calls (ad : Option Addr) (c : Nat) (l : List BatV) (w : World) (F : Nat → Prop) (h : (Sl true BatV.cells 8 (.slice ad l.length c) l).at_ w F) (hn : l.length ≤ 65536) :
 Calls Tryz.prog 13 #[.slice ad l.length c] w fun e w'=>∃ a cp,e = .returned (.slice a l.length cp) ∧ St (fun _=>False) w w' [Mem.Own 67 BatV.cells 8 (.slice a l.length cp) l]:=by
 have S : St (fun _=>False) w w [Sl true BatV.cells 8 (.slice ad l.length c) l]:=(St.init _ w).share (A:=Sl true BatV.cells 8 (.slice ad l.length c) l) rfl rfl h
 clear h
 go_enter Tryz.func13,Tryz.ntmps13
 go_wp2_with first | ((with_reducible apply wps_loada (T:=50) (k:=4) S 0);(case hx|hi=>rfl);(case hk=>exact nle rfl);(case hT=>decide +kernel))
 go_loopw [3,4] (fun v i wr=>PlRel20 [Sl true BatV.cells 8 (.slice ad l.length c) l] l w v i wr) (fun _ i _=>l.length - (intOf i).toNat)
 case atStart=>exact ⟨0,Nat.zero_le _,rfl,(S.nil 67 BatV.cells 8).pick [1,0] rfl⟩
 case round=>
  clear S
  obtain ⟨j,hj,rfl,S⟩:=hrel
  simp only [cons_append,nil_append] at S
  obtain ⟨t,HT⟩ : ∃ t,Hid (l.take j = t):=⟨_,rfl⟩
  rw [HT.out] at S
  have htl : t.length = j:=by rw [← HT.out,List.length_take];omega
  have htl2 : t.length < 4294967296:=by omega
  obtain ⟨a1,c1,rfl,_⟩:=(S.ownsl bvcells 1 rfl).elim fun _ h=>h.form
  by_cases hlt : j < l.length
  · obtain ⟨x,hx⟩ : ∃ x,l[j]? = some x:=⟨_,List.getElem?_eq_getElem hlt⟩
    obtain ⟨R0,o0,rfl⟩ : ∃ R o,ad = some ⟨R,o,none⟩:=(S.sl 0 rfl).elim fun F h=>h.head (by omega)
    have hlt2 : (j : Int) < l.length:=by omega
    have HT2 : Hid (l.take (j + 1) = t ++ [x]):=Lib.hid (by rw [take_snoc hx,HT.out])
    have HX:=Lib.hid hx
    clear hx htl
    obtain ⟨⟨xat,xlp,xins,xthn,xsent⟩,xai,xci,xao,xco⟩:=x
    go_upto_region 5 with first | ((with_reducible apply wps_loada (T:=50) (k:=4) S 0);(case hx|hi=>rfl);(case hk=>exact nle rfl);(case hT=>decide +kernel))
    (refine wp_region_wt (soft:=[0,1,2,3,4,5,6,7,8,9,10,11,12,13,14,15,16,17,18,19,20,21,22,23,24,25,26]) (L:=[_]) (T:=[_]) S ?hm ?hB ?_);(case hm=>kernel_rfl);(case hB=>decide +kernel);clear S
    iterate 27
     (with_reducible apply softs_cons)
     (case hw=>
       (with_reducible apply soft_of);(case hi=>rfl)
       intro T wz S
       simp only [cons_append,nil_append] at S
       go_wp2_with first | ((with_reducible apply wps_load_el S 0 (hj:=HX.out) (q:=0) (u:=.int .i64 xat));(case hx|hi=>rfl);(case hn=>omega);(case hu=>rfl);(case hT=>decide +kernel)) | ((with_reducible apply wps_load_el S 0 (hj:=HX.out) (q:=1) (u:=.int .i64 xlp));(case hx|hi=>rfl);(case hn=>omega);(case hu=>rfl);(case hT=>decide +kernel)) | ((with_reducible apply wps_load_el S 0 (hj:=HX.out) (q:=2) (u:=.slice xai xins.length xci));(case hx|hi=>rfl);(case hn=>omega);(case hu=>rfl);(case hT=>decide +kernel)) | ((with_reducible apply wps_loada_el S 0 (hj:=HX.out) (q:=3) (vs:=[.int .i64 xthn.n0,.int .i64 xthn.n1,.int .i64 xthn.n2,.int .i64 xthn.n3]) (m:=4));(case hx|hi=>rfl);(case hn=>omega);(case hm|hv=>rfl);(case hT=>decide +kernel)) | ((with_reducible apply wps_load_el S 0 (hj:=HX.out) (q:=7) (u:=.slice xao xsent.length xco));(case hx|hi=>rfl);(case hn=>omega);(case hu=>rfl);(case hT=>decide +kernel)) | ((with_reducible refine tot_done ?ht ?_);(case ht=>kernel_rfl))
       exact ⟨rfl,S⟩)
     (case hs=>exact ⟨_,rfl,by kernel_rfl⟩)
    refine softs_nil ?_
    (with_reducible apply W_hard1 (i:=27));(case hn=>rfl);(case hr=>decide +kernel)
    intro wz S
    (with_reducible apply hard_of);(case hi=>rfl)
    simp only [cons_append,nil_append] at S
    go_wp2_with first | ((with_reducible apply wps_build1a (T:=45) (E:=67) S);(case hx=>rfl);(case hr=>intro w;kernel_rfl);clear S;intro bz wz S) | ((with_reducible refine tot_done ?ht ?_);(case ht=>kernel_rfl))
    refine ⟨_,S.pick [1,2,0] rfl,?_⟩
    clear S
    (with_reducible apply W_hard1 (i:=28));(case hn=>rfl);(case hr=>decide +kernel)
    intro wz S
    (with_reducible apply hard_of);(case hi=>rfl)
    simp only [cons_append,nil_append] at S
    go_wp2_with first | ((with_reducible apply wps_append1 elem_RBat bvcells bvone (by decide) S 1 (j:=2) (e:=(⟨⟨xat,xlp,xins,xthn,xsent⟩,xai,xci,xao,xco⟩:BatV)));(case hx|hy|hi|hj|he=>rfl);(case hl=>omega);clear S;intro az nz cz wz hnz S;simp only [set_cons_succ] at S) | ((with_reducible refine tot_done ?ht ?_);(case ht=>kernel_rfl))
    refine ⟨_,S,?_⟩
    clear S
    (refine W_mid (f:=0) (soft:=[29]) rfl ?hB ?_);(case hB=>decide +kernel)
    iterate 1
     (with_reducible apply softs_cons)
     (case hw=>
       (with_reducible apply soft_of);(case hi=>rfl)
       intro T wz S
       simp only [cons_append,nil_append] at S
       go_wp2_with first | ((with_reducible refine tot_done ?ht ?_);(case ht=>kernel_rfl))
       exact ⟨rfl,S⟩)
     (case hs=>exact ⟨_,rfl,by kernel_rfl⟩)
    refine softs_nil ?_
    (with_reducible apply W_done);(case hn=>rfl);(case hr=>decide +kernel)
    intro wz S
    repeat (first | simp only at S | simp only [pick] at S | simp only [nth] at S | simp only [set_cons_succ] at S | simp only [set_cons_zero] at S | simp only [setIfInBounds_toArray] at S | simp only [setAll] at S | simp only [cons_append] at S | simp only [nil_append] at S | simp only [List.append_nil] at S)
    all_goals
     go_wp2_with first | ((with_reducible apply wps_loada (T:=50) (k:=4) S 0);(case hx|hi=>rfl);(case hk=>exact nle rfl);(case hT=>decide +kernel))
     go_roundw
     case rel=>
      refine ⟨j + 1,by omega,by go_num,?_⟩
      rw [HT2.out]
      exact S.pick [0,1] rfl
     case measure=>simp [intOf];omega
  · obtain rfl : j = l.length:=by omega
    rw [List.take_length] at HT
    clear hlt hj
    rw [htl] at S ⊢
    go_wp2_with first | ((with_reducible apply wps_loada (T:=50) (k:=4) S 0);(case hx|hi=>rfl);(case hk=>exact nle rfl);(case hT=>decide +kernel))
    go_ret
    refine ⟨a1,c1,rfl,?_⟩
    have S2:=S.pick [1] rfl
    simp only [pick,nth] at S2
    rw [← HT.out] at S2
    exact S2
theorem plain9_calls (x y : BatV) (w : World) (F1 F2 F3 F4 : Nat → Prop) (h1 : (Sl true Event.cells 7 x.vi x.b.ins).at_ w F1) (h2 : (Sl true Event.cells 7 y.vi y.b.ins).at_ w F2) (h3 : (Sl true Event.cells 7 x.vo x.b.sent).at_ w F3) (h4 : (Sl true Event.cells 7 y.vo y.b.sent).at_ w F4)
 (hx1 : x.b.ins.length ≤ 65536) (hx2 : x.b.sent.length ≤ 65536) (he : x.b = y.b) :
 Calls Tryz.prog 33 #[.agg #[.int .i64 x.b.at_,.int .i64 x.b.lp,.slice x.ai x.b.ins.length x.ci,.int .i64 x.b.thn.n0,.int .i64 x.b.thn.n1,.int .i64 x.b.thn.n2,.int .i64 x.b.thn.n3,.slice x.ao x.b.sent.length x.co],.agg #[.int .i64 y.b.at_,.int .i64 y.b.lp,.slice y.ai y.b.ins.length y.ci,.int .i64 y.b.thn.n0,.int .i64 y.b.thn.n1,.int .i64 y.b.thn.n2,.int .i64 y.b.thn.n3,.slice y.ao y.b.sent.length y.co]] w fun r w'=>r = .returned (.bool true) ∧ Below w.heap.size w w':=by
 have S : St (fun _=>False) w w [Sl true Event.cells 7 x.vi x.b.ins,Sl true Event.cells 7 y.vi y.b.ins,Sl true Event.cells 7 x.vo x.b.sent,Sl true Event.cells 7 y.vo y.b.sent]:=
  ((((St.init _ w).share rfl rfl h4).share (A:=Sl true Event.cells 7 x.vo x.b.sent) rfl rfl h3).share (A:=Sl true Event.cells 7 y.vi y.b.ins) rfl rfl h2).share rfl rfl h1
 clear h1 h2 h3 h4
 obtain ⟨⟨xa,xl,xi,xt,xs⟩,ai,ci,ao,co⟩:=x
 obtain ⟨yb,bi,di,bo,d_o⟩:=y
 simp only at he
 subst he
 simp only [BatV.vi,BatV.vo] at *
 have HC1 : Hid (∀ (w : World) (F F2 : Nat → Prop) (h : (Sl true Event.cells 7 (.slice ai xi.length ci) xi).at_ w F) (h2 : (Sl true Event.cells 7 (.slice bi xi.length di) xi).at_ w F2),Calls Tryz.prog 59 #[.slice ai xi.length ci,.slice bi xi.length di] w fun r w'=>r = .returned (.bool true) ∧ Below w.heap.size w w'):=Lib.hid fun w F F2 h h2=>
  (evseq_calls (.slice ai xi.length ci) (.slice bi xi.length di) xi xi w F F2 h h2 hx1 hx1).mono fun r w' ⟨h,hb2⟩=>⟨by rw [h];simp,hb2⟩
 have HC2 : Hid (∀ (w : World) (F F2 : Nat → Prop) (h : (Sl true Event.cells 7 (.slice ao xs.length co) xs).at_ w F) (h2 : (Sl true Event.cells 7 (.slice bo xs.length d_o) xs).at_ w F2),Calls Tryz.prog 59 #[.slice ao xs.length co,.slice bo xs.length d_o] w fun r w'=>r = .returned (.bool true) ∧ Below w.heap.size w w'):=Lib.hid fun w F F2 h h2=>
  (evseq_calls (.slice ao xs.length co) (.slice bo xs.length d_o) xs xs w F F2 h h2 hx2 hx2).mono fun r w' ⟨h,hb2⟩=>⟨by rw [h];simp,hb2⟩
 have HT : Hid (ceqs xt.cells xt.cells = true):=Lib.hid (by rw [sa_ceqs];simp)
 clear hx1 hx2
 go_enter Tryz.func33,Tryz.ntmps33
 go_wp2_with first | ((with_reducible apply wps_boxa (E:=52) S);(case hx=>rfl);clear S;intro b2 wz S) | ((with_reducible apply wps_boxa (E:=67) S);(case hx=>rfl);clear S;intro b3 wz S) | ((with_reducible apply wps_load S 0);(case hx|hi|hu=>rfl);(case hT=>decide +kernel)) | ((with_reducible apply wps_load S 1);(case hx|hi|hu=>rfl);(case hT=>decide +kernel)) | ((with_reducible apply wps_loada (T:=50) (k:=4) S 0);(case hx|hi=>rfl);(case hk=>exact nle rfl);(case hT=>decide +kernel)) | ((with_reducible apply wps_loada (T:=50) (k:=4) S 1);(case hx|hi=>rfl);(case hk=>exact nle rfl);(case hT=>decide +kernel)) | ((with_reducible apply wpList_eql_agg (t:=50) (ks:=[.int .i64,.int .i64,.int .i64,.int .i64]) (b:=_));(case hx|hy=>rfl);(case hl|ha|hg=>kernel_rfl);(case hfx|hfy=>rfl);(case hb=>exact HT.out)) | (go_at_call 59;have hcz:=(HC1.out _ _ _ (S.get (i:=2) rfl).choose_spec (S.get (i:=3) rfl).choose_spec);(with_reducible refine Calls.mono hcz ?_);clear hcz;rintro e wz ⟨rfl,hE⟩;replace S:=S.ext (Keep.of_below hE);clear hE) | (go_at_call 59;have hcz:=(HC2.out _ _ _ (S.get (i:=4) rfl).choose_spec (S.get (i:=5) rfl).choose_spec);(with_reducible refine Calls.mono hcz ?_);clear hcz;rintro e wz ⟨rfl,hE⟩;replace S:=S.ext (Keep.of_below hE);clear hE)
 go_ret
 exact ⟨rfl,S.below⟩
def SamRel20 (L : List Asn) (n : Nat) (w : World) (i : Value) (wr : World) : Prop:=
 ∃ j : Nat,j ≤ n ∧ i = .int .i64 j ∧ St (fun _=>False) w wr L
theorem tsame_calls (ad : Option Addr) (c : Nat) (l : List BatV) (ad2 : Option Addr) (c2 : Nat) (m : List BatV) (w : World) (F1 F2 F3 F4 F5 F6 : Nat → Prop) (h1 : (Sl true BatV.cells 8 (.slice ad l.length c) l).at_ w F1) (h2 : (insA true l).at_ w F2) (h3 : (outA true l).at_ w F3)
 (h4 : (Sl true BatV.cells 8 (.slice ad2 l.length c2) m).at_ w F4) (h5 : (insA true m).at_ w F5) (h6 : (outA true m).at_ w F6) (he : l.map (·.b) = m.map (·.b)) (hs : SmallB (l.map (·.b))) :
 Calls Tryz.prog 11 #[.slice ad l.length c,.slice ad2 l.length c2] w fun r w'=>r = .returned (.bool true) ∧ Below w.heap.size w w':=by
 have S : St (fun _=>False) w w [Sl true BatV.cells 8 (.slice ad l.length c) l,insA true l,outA true l,Sl true BatV.cells 8 (.slice ad2 l.length c2) m,insA true m,outA true m]:=
  ((((((St.init _ w).share (A:=outA true m) rfl rfl h6).share (A:=insA true m) rfl rfl h5).share (A:=Sl true BatV.cells 8 (.slice ad2 l.length c2) m) rfl rfl h4).share (A:=outA true l) rfl rfl h3).share (A:=insA true l) rfl rfl h2).share (A:=Sl true BatV.cells 8 (.slice ad l.length c) l) rfl rfl h1
 clear h1 h2 h3 h4 h5 h6
 have hn : l.length ≤ 65536:=by have:=hs.1;rwa [List.length_map] at this
 have HS:=Lib.hid hs
 have HE:=Lib.hid he
 clear hs he
 go_enter Tryz.func11,Tryz.ntmps11
 go_wp2_with first | ((with_reducible apply wps_loada (T:=67) (k:=8) S 0);(case hx|hi=>rfl);(case hk=>exact nle rfl);(case hT=>decide +kernel))
 go_loopw [5] (fun i wr=>SamRel20 _ l.length w i wr) (fun i _=>l.length - (intOf i).toNat)
 case atStart=>exact ⟨0,Nat.zero_le _,rfl,S⟩
 case round=>
  clear S
  obtain ⟨j,hj,rfl,S⟩:=hrel
  by_cases hlt : j < l.length
  · obtain ⟨x,hx⟩ : ∃ x,l[j]? = some x:=⟨_,List.getElem?_eq_getElem hlt⟩
    obtain ⟨y,hy⟩ : ∃ y,m[j]? = some y:=⟨_,List.getElem?_eq_getElem (by have:=congrArg List.length HE.out;rw [List.length_map,List.length_map] at this;omega)⟩
    have hb : x.b = y.b:=by
     have h1:=congrArg (fun q=>q[j]?) HE.out
     simp only [List.getElem?_map,hx,hy,Option.map_some,Option.some.injEq] at h1
     exact h1
    have hlt2 : (j : Int) < l.length:=by omega
    have hsz:=HS.out.2 x.b (List.mem_map.2 ⟨x,List.mem_of_getElem? hx,rfl⟩)
    have HXM:=Lib.hid (List.mem_of_getElem? hx)
    have HYM:=Lib.hid (List.mem_of_getElem? hy)
    have HPL:=Lib.hid fun w F1 F2 F3 F4 h1 h2 h3 h4=>plain9_calls x y w F1 F2 F3 F4 h1 h2 h3 h4 hsz.1 hsz.2 hb
    have HX:=Lib.hid hx
    have HY:=Lib.hid hy
    obtain ⟨R1,o1,rfl⟩ : ∃ R o,ad = some ⟨R,o,none⟩:=(S.sl 0 rfl).elim fun F h=>h.head (by omega)
    obtain ⟨R2,o2,rfl⟩ : ∃ R o,ad2 = some ⟨R,o,none⟩:=(S.sl 3 rfl).elim fun F h=>h.head (by have:=(List.getElem?_eq_some_iff.1 hy).1;omega)
    clear hsz hx hy
    obtain ⟨⟨xat,xlp,xins,xthn,xsent⟩,xai,xci,xao,xco⟩:=x
    obtain ⟨yb,yai,yci,yao,yco⟩:=y
    simp only at hb
    subst hb
    simp only [BatV.vi,BatV.vo] at *
    go_upto_region 6 with first | ((with_reducible apply wps_loada (T:=67) (k:=8) S 0);(case hx|hi=>rfl);(case hk=>exact nle rfl);(case hT=>decide +kernel))
    (refine wp_region_w (soft:=[0,1,2,3,4,5,6,7,8,9]) S ?hm ?hB ?_);(case hm=>kernel_rfl);(case hB=>decide +kernel);clear S
    iterate 10
     (with_reducible apply softs_cons)
     (case hw=>
       (with_reducible apply soft_of);(case hi=>rfl)
       intro T wz S
       simp only [cons_append,nil_append] at S
       go_wp2_with first | ((with_reducible apply wps_loada_el S 0 (hj:=HX.out) (q:=0) (vs:=[.int .i64 (⟨⟨xat,xlp,xins,xthn,xsent⟩,xai,xci,xao,xco⟩:BatV).b.at_,.int .i64 (⟨⟨xat,xlp,xins,xthn,xsent⟩,xai,xci,xao,xco⟩:BatV).b.lp,(⟨⟨xat,xlp,xins,xthn,xsent⟩,xai,xci,xao,xco⟩:BatV).vi,.int .i64 (⟨⟨xat,xlp,xins,xthn,xsent⟩,xai,xci,xao,xco⟩:BatV).b.thn.n0,.int .i64 (⟨⟨xat,xlp,xins,xthn,xsent⟩,xai,xci,xao,xco⟩:BatV).b.thn.n1,.int .i64 (⟨⟨xat,xlp,xins,xthn,xsent⟩,xai,xci,xao,xco⟩:BatV).b.thn.n2,.int .i64 (⟨⟨xat,xlp,xins,xthn,xsent⟩,xai,xci,xao,xco⟩:BatV).b.thn.n3,(⟨⟨xat,xlp,xins,xthn,xsent⟩,xai,xci,xao,xco⟩:BatV).vo]) (m:=8));(case hx|hi=>rfl);(case hn=>omega);(case hm|hv=>rfl);(case hT=>decide +kernel)) | ((with_reducible apply wps_loada_el S 3 (hj:=HY.out) (q:=0) (vs:=[.int .i64 (⟨⟨xat,xlp,xins,xthn,xsent⟩,yai,yci,yao,yco⟩:BatV).b.at_,.int .i64 (⟨⟨xat,xlp,xins,xthn,xsent⟩,yai,yci,yao,yco⟩:BatV).b.lp,(⟨⟨xat,xlp,xins,xthn,xsent⟩,yai,yci,yao,yco⟩:BatV).vi,.int .i64 (⟨⟨xat,xlp,xins,xthn,xsent⟩,yai,yci,yao,yco⟩:BatV).b.thn.n0,.int .i64 (⟨⟨xat,xlp,xins,xthn,xsent⟩,yai,yci,yao,yco⟩:BatV).b.thn.n1,.int .i64 (⟨⟨xat,xlp,xins,xthn,xsent⟩,yai,yci,yao,yco⟩:BatV).b.thn.n2,.int .i64 (⟨⟨xat,xlp,xins,xthn,xsent⟩,yai,yci,yao,yco⟩:BatV).b.thn.n3,(⟨⟨xat,xlp,xins,xthn,xsent⟩,yai,yci,yao,yco⟩:BatV).vo]) (m:=8));(case hx|hi=>rfl);(case hn=>omega);(case hm|hv=>rfl);(case hT=>decide +kernel)) | (go_at_call 33;refine Calls.mono (HPL.out _ _ _ _ _ (ins_el (S.get (i:=1) rfl).choose_spec HXM.out) (ins_el (S.get (i:=4) rfl).choose_spec HYM.out) (out_el (S.get (i:=2) rfl).choose_spec HXM.out) (out_el (S.get (i:=5) rfl).choose_spec HYM.out)) ?_;rintro e wz ⟨rfl,hE⟩;replace S:=S.ext (Keep.of_below hE);clear hE) | ((with_reducible refine tot_done ?ht ?_);(case ht=>kernel_rfl))
       exact ⟨rfl,S⟩)
     (case hs=>exact ⟨_,rfl,by kernel_rfl⟩)
    refine softs_nil ?_
    (with_reducible apply W_done);(case hn=>rfl);(case hr=>decide +kernel)
    intro wz S
    simp only [List.append_nil] at S
    go_wp2_with first | ((with_reducible apply wps_loada (T:=67) (k:=8) S 0);(case hx|hi=>rfl);(case hk=>exact nle rfl);(case hT=>decide +kernel))
    go_roundw
    case rel=>exact ⟨j + 1,by omega,by go_num,S⟩
    case measure=>simp [intOf];omega
  · obtain rfl : j = l.length:=by omega
    clear hlt hj
    go_wp2_with first | ((with_reducible apply wps_loada (T:=67) (k:=8) S 0);(case hx|hi=>rfl);(case hk=>exact nle rfl);(case hT=>decide +kernel))
    go_ret
    exact ⟨rfl,S.below⟩
end Go.Proofs.YtcnfionnnpnplaaGreatDoor
/- The walks of the law's Few and ModelEvents. -/
namespace Go.Proofs.YtcnfionnnpnplaaGreatDoor
open Go Go.RowKit Reg Mem
open List (set_cons_succ set_cons_zero setIfInBounds_toArray cons_append nil_append)
def fewB (c : Cfg) : Bool:=c.programs.all (fun p=>decide (p.length ≤ 80)) && (decide (c.programs.length ≤ 40) && (decide (c.lps.length ≤ 40) && decide (c.starts.length ≤ 300)))
theorem few_iff {c : Cfg} : fewB c = true ↔ (∀ p ∈ c.programs,p.length ≤ 80) ∧ c.programs.length ≤ 40 ∧ c.lps.length ≤ 40 ∧ c.starts.length ≤ 300:=by
 simp [fewB]
def FewRel (bx : Nat) (cs : Array Value) (vP : Value) (hs : List Value) (ps : List (List Instr)) (w : World) (i : Value) (wr : World) : Prop:=
 ∃ j : Nat,j ≤ ps.length ∧ i = .int .i64 j ∧ Hid (∀ (q : Nat) y,q < j → ps[q]? = some y → y.length ≤ 80) ∧ St (fun _=>False) w wr [Blk false bx cs 26,Sls true Instr.cells 5 hs ps,Sl true vcell 1 vP hs]
theorem few_calls (vs hs : List Value) (c : Cfg) (w : World) (F : Nat → Prop) (h : (CfgA true vs hs c).at_ w F) (hw : Wide c) : Calls Tryz.prog 25 #[.agg vs.toArray] w fun r w'=>r = .returned (.bool (fewB c)) ∧ Below w.heap.size w w':=by
 have S : St (fun _=>False) w w [CfgA true vs hs c]:=(St.init _ w).share rfl rfl h
 obtain ⟨aP,cP,aL,cL,aS,cS,rfl,hlen,S⟩:=S.cfg 0 rfl
 replace S:=S.pick [0,1] rfl
 simp only [pick,nth] at S
 clear h
 have hp1 : c.programs.length ≤ 9223372036854775807:=Nat.le_trans hw.p (by decide)
 obtain ⟨ps,ls,ss,fin,fuel,fan⟩:=c
 clear hw
 simp only at *
 go_enter Tryz.func25,Tryz.ntmps25
 go_wp2_with first | go_skip | ((with_reducible refine wpList_skip ?hw ?_);(case hw=>with_unfolding_all rfl);simp only [Act.put,setIfInBounds_toArray,set_cons_succ,set_cons_zero]) | ((with_reducible apply wps_boxa S);(case hx=>rfl);clear S;intro bx wz S) | ((with_reducible refine tot_done ?ht ?_);(case ht=>kernel_rfl)) | ((with_reducible apply wps_boxa S);(case hx=>rfl);clear S;intro bz wz S) | ((with_reducible apply wps_box1 (v:=.int _ _) S);(case hx|h1=>rfl);clear S;intro bz wz S) | ((with_reducible apply wps_box1 (v:=.bool _) S);(case hx|h1=>rfl);clear S;intro bz wz S) | ((with_reducible apply wps_box1 (v:=.slice _ _ _) S);(case hx|h1=>rfl);clear S;intro bz wz S) | ((with_reducible apply wps_box1 (v:=.pointer _) S);(case hx|h1=>rfl);clear S;intro bz wz S) | ((with_reducible apply wps_box1 (v:=.map _) S);(case hx|h1=>rfl);clear S;intro bz wz S) | ((with_reducible apply wps_box1 (v:=.string _) S);(case hx|h1=>rfl);clear S;intro bz wz S) | ((with_reducible apply wps_box1 (v:=.func _ _ _) S);(case hx|h1=>rfl);clear S;intro bz wz S) | ((with_reducible apply wps_load S 0);(case hx|hi|hu=>rfl);(case hT=>decide +kernel))
 go_loopw [3] (fun i wr=>FewRel bx #[.slice aP ps.length cP,.slice aL ls.length cL,.slice aS ss.length cS,.int .i64 fin,.int .i64 fuel,.int .i64 fan] (.slice aP ps.length cP) hs ps w i wr) (fun i _=>ps.length - (intOf i).toNat)
 case atStart=>exact ⟨0,Nat.zero_le _,rfl,fun q y h=>by omega,S⟩
 case round=>
  clear S
  obtain ⟨j,hj,rfl,Hz,S⟩:=hrel
  by_cases hlt : j < ps.length
  · obtain ⟨p,hp⟩ : ∃ p,ps[j]? = some p:=⟨_,List.getElem?_eq_getElem hlt⟩
    obtain ⟨v,hv⟩ : ∃ v,hs[j]? = some v:=⟨_,List.getElem?_eq_getElem (by omega)⟩
    obtain ⟨R,o,rfl⟩ : ∃ R o,aP = some ⟨R,o,none⟩:=(S.sl 2 rfl).elim fun F h=>h.head (by omega)
    have hlt2 : (j : Int) < ps.length:=by omega
    obtain ⟨av,cv,rfl,_⟩:=(S.sls 1 rfl).elim fun F h=>(h.2 j v p hv hp).form
    have Hp:=Lib.hid hp
    have Hv:=Lib.hid hv
    clear hp hv
    by_cases h8 : (80 : Int) < p.length
    · go_wp2_with first | go_skip | ((with_reducible refine wpList_skip ?hw ?_);(case hw=>with_unfolding_all rfl);simp only [Act.put,setIfInBounds_toArray,set_cons_succ,set_cons_zero]) | ((with_reducible apply wps_load_el S 2 (hj:=Hv.out) (q:=0) (u:=(.slice av p.length cv)));(case hx|hi=>rfl);(case hn=>omega);(case hu=>rfl);(case hT=>decide +kernel)) | ((with_reducible refine tot_done ?ht ?_);(case ht=>kernel_rfl)) | ((with_reducible apply wps_load S 0);(case hx|hi|hu=>rfl);(case hT=>decide +kernel))
      go_ret
      refine ⟨ret_bool ?_,S.below⟩
      symm
      rw [Bool.eq_false_iff]
      intro h
      have:=(few_iff.1 h).1 p (List.mem_of_getElem? Hp.out)
      omega
    · go_wp2_with first | go_skip | ((with_reducible refine wpList_skip ?hw ?_);(case hw=>with_unfolding_all rfl);simp only [Act.put,setIfInBounds_toArray,set_cons_succ,set_cons_zero]) | ((with_reducible apply wps_load_el S 2 (hj:=Hv.out) (q:=0) (u:=(.slice av p.length cv)));(case hx|hi=>rfl);(case hn=>omega);(case hu=>rfl);(case hT=>decide +kernel)) | ((with_reducible refine tot_done ?ht ?_);(case ht=>kernel_rfl)) | ((with_reducible apply wps_load S 0);(case hx|hi|hu=>rfl);(case hT=>decide +kernel))
      go_roundw
      case rel=>exact ⟨j + 1,by omega,by go_num,snoc_all Hz.out Hp.out (by omega),S⟩
      case measure=>first | (simp [intOf];done) | (simp [intOf];omega)
  · obtain rfl : j = ps.length:=by omega
    have HA : Hid ((ps.all fun p=>decide (p.length ≤ 80)) = true):=by
     show _ = _
     rw [List.all_eq_true];intro p hp;simpa using all_of Hz.out p hp
    by_cases k1 : (ps.length : Int) ≤ 40
    · by_cases k2 : (ls.length : Int) ≤ 40
      · go_wp2_with first | go_skip | ((with_reducible refine wpList_skip ?hw ?_);(case hw=>with_unfolding_all rfl);simp only [Act.put,setIfInBounds_toArray,set_cons_succ,set_cons_zero]) | ((with_reducible refine tot_done ?ht ?_);(case ht=>kernel_rfl)) | ((with_reducible apply wps_load S 0);(case hx|hi|hu=>rfl);(case hT=>decide +kernel))
        go_ret
        exact ⟨ret_bool (by simp only [fewB];rw [HA.out,decide_eq_true (by omega : ps.length ≤ 40),decide_eq_true (by omega : ls.length ≤ 40)];simp;try omega),S.below⟩
      · go_wp2_with first | go_skip | ((with_reducible refine wpList_skip ?hw ?_);(case hw=>with_unfolding_all rfl);simp only [Act.put,setIfInBounds_toArray,set_cons_succ,set_cons_zero]) | ((with_reducible refine tot_done ?ht ?_);(case ht=>kernel_rfl)) | ((with_reducible apply wps_load S 0);(case hx|hi|hu=>rfl);(case hT=>decide +kernel))
        go_ret
        exact ⟨ret_bool (by simp only [fewB];rw [HA.out,decide_eq_false (by omega : ¬ ls.length ≤ 40)];simp),S.below⟩
    · go_wp2_with first | go_skip | ((with_reducible refine wpList_skip ?hw ?_);(case hw=>with_unfolding_all rfl);simp only [Act.put,setIfInBounds_toArray,set_cons_succ,set_cons_zero]) | ((with_reducible refine tot_done ?ht ?_);(case ht=>kernel_rfl)) | ((with_reducible apply wps_load S 0);(case hx|hi|hu=>rfl);(case hT=>decide +kernel))
      go_ret
      exact ⟨ret_bool (by simp only [fewB];rw [decide_eq_false (by omega : ¬ ps.length ≤ 40)];simp),S.below⟩
end Go.Proofs.YtcnfionnnpnplaaGreatDoor
