import Derived.Test.YtcnfionnnpnplaaGreatDoorZ28
import Derived.Test.YtcnfionnnpnplaaGreatDoorZ29
/- The walk of a trace's Holds. -/
set_option maxHeartbeats 16000000
set_option maxRecDepth 100000
namespace Go.Proofs.YtcnfionnnpnplaaGreatDoor
open Go Go.RowKit Reg Mem
open List (set_cons_succ set_cons_zero setIfInBounds_toArray cons_append nil_append)
def stB (l : List BatE) (s : State) : State:=l.foldl (fun _ b=>b.thn) s
theorem goodL_append (c : Cfg) : ∀ (a b : List BatE) (s : State),goodL c (a ++ b) s = (goodL c a s && goodL c b (stB a s))
 | [],_,_=>by simp [goodL,stB]
 | x :: a,b,s=>by
   simp only [cons_append,goodL,goodL_append c a b,stB,List.foldl_cons,Bool.and_assoc]
theorem goodL_bad {c : Cfg} {l : List BatE} {s : State} {j : Nat} {b : BatE} (h : l[j]? = some b) (hb : rightE c b (stB (l.take j) s) = false) : goodL c l s = false:=by
 obtain ⟨hj,rfl⟩:=List.getElem?_eq_some_iff.1 h
 conv=>lhs;rw [← List.take_append_drop j l]
 rw [goodL_append,List.drop_eq_getElem_cons hj]
 simp only [goodL,hb,Bool.false_and,Bool.and_false]
theorem goodL_step {c : Cfg} {l : List BatE} {s : State} {j : Nat} {b : BatE} (h : l[j]? = some b) (hg : goodL c (l.take j) s = true) (hb : rightE c b (stB (l.take j) s) = true) : goodL c (l.take (j + 1)) s = true ∧ stB (l.take (j + 1)) s = b.thn:=by
 rw [take_snoc h,goodL_append,hg]
 refine ⟨?_,by unfold stB;rw [List.foldl_append];rfl⟩
 simp only [goodL,hb,Bool.and_self]
def SmallH (c : Cfg) (u : Int) (t : TrE) : Prop:=c.starts.length + ((aheadT u t).flatMap fun p=>p.1.flatMap (·.sent)).length ≤ 65536 ∧ ((aheadT u t).flatMap fun p=>p.1.flatMap (·.ins)).length ≤ 65536 ∧ ∀ p ∈ t,∀ b ∈ p.1,∀ e ∈ b.ins,-9223372036854775808 ≤ e.key.at_
def sentsQ (q : TrE) : List Event:=q.flatMap fun p=>p.1.flatMap (·.sent)
def insQ (q : TrE) : List Event:=q.flatMap fun p=>p.1.flatMap (·.ins)
def HoRel (L : List Asn) (b3 : Nat) (u : Int) (c : Cfg) (t : TrE) (w : World) (sv tv i : Value) (wr : World) : Prop:=
 ∃ (j : Nat) (sl tl : List Event),j ≤ t.length ∧ i = .int .i64 j ∧ Hid (((aheadT u t).take j).all (fun p=>goodL c p.1 p.2) = true) ∧ Hid (sl = evsOf c ++ sentsQ ((aheadT u t).take j)) ∧ Hid (tl = insQ ((aheadT u t).take j)) ∧
  St (fun _=>False) w wr (Mem.Own 56 Event.cells 7 sv sl :: Mem.Own 56 Event.cells 7 tv tl :: Blk true b3 #[.int .i64 u] 3 :: L)
def HoRel2 (L : List Asn) (b3 b9 : Nat) (u : Int) (c : Cfg) (q : List BatV) (st : State) (sl tl : List Event) (w : World) (sv tv i : Value) (wr : World) : Prop:=
 ∃ (j : Nat) (s2 : State) (sl2 tl2 : List Event),j ≤ q.length ∧ i = .int .i64 j ∧ Hid (goodL c ((q.map (·.b)).take j) st = true) ∧ Hid (s2 = stB ((q.map (·.b)).take j) st) ∧ Hid (sl2 = sl ++ ((q.map (·.b)).take j).flatMap (·.sent)) ∧ Hid (tl2 = tl ++ ((q.map (·.b)).take j).flatMap (·.ins)) ∧
  St (fun _=>False) w wr (Mem.Own 56 Event.cells 7 sv sl2 :: Mem.Own 56 Event.cells 7 tv tl2 :: Blk false b9 #[.int .i64 s2.n0,.int .i64 s2.n1,.int .i64 s2.n2,.int .i64 s2.n3] 50 :: Blk true b3 #[.int .i64 u] 3 :: L)
theorem sub_flat {α β : Type} {f : α → List β} {l : List α} {j : Nat} {x : α} (h : l[j]? = some x) : ((l.take j).flatMap f ++ f x).length ≤ (l.flatMap f).length:=by
 obtain ⟨hj,rfl⟩:=List.getElem?_eq_some_iff.1 h
 conv=>rhs;rw [← List.take_append_drop j l,List.flatMap_append,List.drop_eq_getElem_cons hj,List.flatMap_cons]
 simp only [List.length_append];omega
theorem tholds_calls (X R : Nat) (vs hs : List Value) (c : Cfg) (t : TrE) (u : Int) (w : World) (F F2 F3 : Nat → Prop) (h : (traceA X R t).at_ w F) (h2 : (ModA true 128 R vs hs c).at_ w F2) (ht : Tab.at_ w F3) (hc : cfgE c = 0) (hsm : SmallT t) (hh : SmallH c u t) :
 Calls Tryz.prog 14 #[.pointer (some ⟨X,0,none⟩),.int .i64 u] w fun e w'=>e = .returned (.bool (holdsE c u t)) ∧ Below w.heap.size w w':=by
 obtain ⟨v,ps,pool,hpt,hpl,S⟩:=traceR_st h
 clear h
 replace S:=(S.share (A:=Tab) rfl rfl ht).share (A:=ModA true 128 R vs hs c) rfl rfl h2
 clear h2 ht
 obtain ⟨ap,cp,rfl,_⟩:=(S.sl 5 rfl).elim fun _ h=>h.form
 have hnl : t.length = ps.length:=by rw [← hpt,List.length_map]
 have hn6 : t.length ≤ 65536:=hsm.1
 have hst : c.starts.length ≤ 65536:=by have:=(cfg_isfine hc).starts;omega
 have HSM:=Lib.hid hsm
 have HSH:=Lib.hid hh
 have HC:=Lib.hid hc
 have HPT:=Lib.hid hpt
 have HPL:=Lib.hid hpl
 have HAL : Hid ((aheadT u t).length = t.length):=Lib.hid (by unfold aheadT;rw [List.length_map])
 clear hpt hpl hsm hh hc
 go_enter Tryz.func14,Tryz.ntmps14
 go_wp2_with first | ((with_reducible apply wps_box1 (v:=(.int _ _)) S);(case hx|h1=>rfl);clear S;intro b3 wz S) | ((with_reducible apply wps_load S 7);(case hx|hi|hu=>rfl);(case hT=>decide +kernel)) | ((with_reducible apply wps_load S 8);(case hx|hi|hu=>rfl);(case hT=>decide +kernel)) | (go_at_call 38;refine Calls.mono (events_calls _ _ _ _ _ _ (S.get (i:=1) rfl).choose_spec hst) ?_;rintro e wz ⟨ae,ce,rfl,T⟩;replace S:=S.join T rfl;clear T;simp only [cons_append,nil_append] at S)
 replace S:=S.weak (i:=1) (A':=Blk true b3 #[.int .i64 u] 3) rfl (fun e=>by cases e) (fun F h=>⟨F,fun _ hb=>hb,h⟩)
 simp only [set_cons_zero,set_cons_succ] at S
 replace S:=(S.nil 56 Event.cells 7).pick [1,0,2,3,4,5,6,7,8,9] rfl
 simp only [pick,nth] at S
 go_loopw [5,6,24] (fun sv tv i wr=>HoRel _ b3 u c t w sv tv i wr) (fun _ _ i _=>t.length - (intOf i).toNat)
 case atStart=>exact ⟨0,evsOf c,[],Nat.zero_le _,rfl,Lib.hid rfl,Lib.hid (by simp [sentsQ]),Lib.hid rfl,S⟩
 case round=>
  clear S
  obtain ⟨j,sl,tl,hj,rfl,HG,HSL,HTL,S⟩:=hrel
  obtain ⟨as1,cs1,rfl,_⟩:=(S.ownsl ecells 0 rfl).elim fun _ h=>h.form
  obtain ⟨at1,ct1,rfl,_⟩:=(S.ownsl ecells 1 rfl).elim fun _ h=>h.form
  by_cases hlt : j < t.length
  · obtain ⟨p,hp⟩ : ∃ p,ps[j]? = some p:=⟨_,List.getElem?_eq_getElem (by omega)⟩
    have hte : t[j]? = some p.e:=by rw [← HPT.out,List.getElem?_map,hp];rfl
    have hta : (aheadT u t)[j]? = some (aheadE u (p.l.map (·.b)),p.st):=by unfold aheadT;rw [List.getElem?_map,hte];rfl
    have hlt2 : (j : Int) < ps.length:=by omega
    have hsb : SmallB (p.l.map (·.b)):=HSM.out.2 p.e (List.mem_of_getElem? hte)
    have HAT : Hid (∀ b ∈ p.l.map (·.b),∀ e ∈ b.ins,-9223372036854775808 ≤ e.key.at_):=Lib.hid (HSH.out.2.2 p.e (List.mem_of_getElem? hte))
    have HPV : Hid ((ps.map ProcV.v)[j]? = some p.v):=Lib.hid (by rw [List.getElem?_map,hp];rfl)
    have HPW : Hid ((ps.map (·.l))[j]? = some p.l):=Lib.hid (by rw [List.getElem?_map,hp];rfl)
    have HPX : Hid (∀ x ∈ p.l,x ∈ pool):=Lib.hid (HPL.out p (List.mem_of_getElem? hp))
    obtain ⟨pa,pc,pl,pst⟩:=p
    simp only at hta hsb HAT HPW HPX
    have hpl6 : pl.length ≤ 4294967296:=by have:=hsb.1;rw [List.length_map] at this;omega
    obtain ⟨R1,o1,rfl⟩ : ∃ R o,ap = some ⟨R,o,none⟩:=(S.sl 8 rfl).elim fun F h=>h.head (by omega)
    obtain ⟨q,hq⟩ : ∃ q,aheadV u pl = q:=⟨_,rfl⟩
    have hqe : q.map (·.b) = aheadE u (pl.map (·.b)):=by rw [← hq];exact aheadV_e u pl
    rw [← hqe] at hta
    have HQM : Hid (∀ x ∈ q,x ∈ pl):=Lib.hid fun x hx=>aheadV_mem (by rw [hq];exact hx)
    have hq6 : q.length ≤ 65536:=by
     have h1:=aheadV_le u pl
     rw [hq] at h1
     have h2:=hsb.1
     rw [List.length_map] at h2
     omega
    have HTA:=Lib.hid fun w F h=>tahead_calls pa pc pl u w F h hpl6
    rw [hq] at HTA
    have HSB:=Lib.hid hsb
    have HTE:=Lib.hid hta
    have HP:=Lib.hid hp
    have hs1 : c.starts.length + (sentsQ ((aheadT u t).take j)).length + ((q.map (·.b)).flatMap (·.sent)).length ≤ 65536:=by
     have h1:=HSH.out.1
     have h2:=sub_flat (f:=fun p : List BatE × State=>p.1.flatMap (·.sent)) hta
     rw [List.length_append] at h2
     unfold sentsQ
     simp only at h2
     omega
    have hs2 : (insQ ((aheadT u t).take j)).length + ((q.map (·.b)).flatMap (·.ins)).length ≤ 65536:=by
     have h1:=HSH.out.2.1
     have h2:=sub_flat (f:=fun p : List BatE × State=>p.1.flatMap (·.ins)) hta
     rw [List.length_append] at h2
     unfold insQ
     simp only at h2
     omega
    have HS1 : Hid (sl.length + ((q.map (·.b)).flatMap (·.sent)).length ≤ 65536):=Lib.hid (by rw [HSL.out,List.length_append,evsOf_len];omega)
    have HS2 : Hid (tl.length + ((q.map (·.b)).flatMap (·.ins)).length ≤ 65536):=Lib.hid (by rw [HTL.out];omega)
    clear hp hte hta hsb hs1 hs2
    go_upto_region 10 with first | ((with_reducible apply wps_loada_el S 8 (hj:=HP.out) (q:=0) (vs:=[(⟨pa,pc,pl,pst⟩:ProcV).v,.int .i64 (⟨pa,pc,pl,pst⟩:ProcV).st.n0,.int .i64 (⟨pa,pc,pl,pst⟩:ProcV).st.n1,.int .i64 (⟨pa,pc,pl,pst⟩:ProcV).st.n2,.int .i64 (⟨pa,pc,pl,pst⟩:ProcV).st.n3]) (m:=5));(case hx|hi=>rfl);(case hn=>omega);(case hm|hv=>rfl);(case hT=>decide +kernel)) | ((with_reducible apply wps_alloca (E:=94) S);(case hz=>exact Tryz.zeroValue94);clear S;intro b8 wz S) | ((with_reducible apply wps_storea (T:=94) S 0 (vs:=[.slice pa pl.length pc,.int .i64 pst.n0,.int .i64 pst.n1,.int .i64 pst.n2,.int .i64 pst.n3]) (m:=5));(case hx|hy|hi|hm|h1=>rfl);(case hn=>exact nle rfl);(case hT=>decide +kernel);clear S;intro wz S;simp only [set_cons_zero,set_cons_succ,setAll,setIfInBounds_toArray] at S) | ((with_reducible apply wps_loada (T:=50) (k:=4) S 0);(case hx|hi=>rfl);(case hk=>exact nle rfl);(case hT=>decide +kernel)) | ((with_reducible apply wps_alloca (E:=50) S);(case hz=>exact Tryz.zeroValue50);clear S;intro b9 wz S) | ((with_reducible apply wps_storea (T:=50) S 0 (vs:=[.int .i64 pst.n0,.int .i64 pst.n1,.int .i64 pst.n2,.int .i64 pst.n3]) (m:=4));(case hx|hy|hi|hm|h1=>rfl);(case hn=>exact nle rfl);(case hT=>decide +kernel);clear S;intro wz S;simp only [set_cons_zero,set_cons_succ,setAll,setIfInBounds_toArray] at S) | ((with_reducible apply wps_loada (T:=92) (k:=1) S 1);(case hx|hi=>rfl);(case hk=>exact nle rfl);(case hT=>decide +kernel)) | ((with_reducible apply wps_load S 4);(case hx|hi|hu=>rfl);(case hT=>decide +kernel)) | (go_at_call 39;refine Calls.mono (HTA.out _ _ (sls_elT (S.get (i:=9) rfl).choose_spec HPV.out HPW.out)) ?_;rintro e wz ⟨rfl,hE⟩;replace S:=S.ext (Keep.of_below hE);clear hE)
    replace S:=S.also (A':=Sl true BatV.cells 8 (.slice pa q.length pc) q) 9 rfl rfl rfl (fun F h=>⟨F,fun _ hb=>hb,by rw [← hq];exact sl_cut (sls_elT h HPV.out HPW.out)⟩)
    clear hq
    replace S:=S.pick [3,4,1,5,0,6,7,8,9,10,11,12] rfl
    simp only [pick,nth] at S
    go_loopw [5,6,35] (fun sv tv i wr=>HoRel2 _ b3 b9 u c q pst sl tl w sv tv i wr) (fun _ _ i _=>q.length - (intOf i).toNat)
    case atStart=>exact ⟨0,pst,sl,tl,Nat.zero_le _,rfl,Lib.hid rfl,Lib.hid rfl,Lib.hid (by simp),Lib.hid (by simp),S⟩
    case round=>
     clear S
     obtain ⟨i,s2,sl2,tl2,hi,rfl,HG2,HSS,HSL2,HTL2,S⟩:=hrel
     obtain ⟨as2,cs2,rfl,_⟩:=(S.ownsl ecells 0 rfl).elim fun _ h=>h.form
     obtain ⟨at2,ct2,rfl,_⟩:=(S.ownsl ecells 1 rfl).elim fun _ h=>h.form
     by_cases hil : i < q.length
     · obtain ⟨x,hx⟩ : ∃ x,q[i]? = some x:=⟨_,List.getElem?_eq_getElem hil⟩
       have hxb : (q.map (·.b))[i]? = some x.b:=by rw [List.getElem?_map,hx];rfl
       have hil2 : (i : Int) < q.length:=by omega
       have hi6 : (i : Int) ≤ 65536:=by omega
       have hxp:=HQM.out x (List.mem_of_getElem? hx)
       have hsz:=HSB.out.2 x.b (List.mem_map.2 ⟨x,hxp,rfl⟩)
       have HXP : Hid (x ∈ pool):=Lib.hid (HPX.out x hxp)
       have hR:=right_calls X R (.slice (some ⟨R1,o1,none⟩) ps.length cp) vs hs c x s2
       have hat:=HAT.out x.b (List.mem_map.2 ⟨x,hxp,rfl⟩)
       have HR:=Lib.hid fun w F1 F2 F3 F4 F5 h1 h2 h3 h4 h5=>hR w F1 F2 F3 F4 F5 h1 h2 h3 h4 h5 HC.out hsz.1 hat
       have hl1 : sl2.length + x.b.sent.length ≤ 65536:=by
        have h1:=sub_flat (f:=fun b : BatE=>b.sent) hxb
        rw [List.length_append] at h1
        have h2:=HS1.out
        rw [HSL2.out,List.length_append]
        omega
       have hl2 : tl2.length + x.b.ins.length ≤ 65536:=by
        have h1:=sub_flat (f:=fun b : BatE=>b.ins) hxb
        rw [List.length_append] at h1
        have h2:=HS2.out
        rw [HTL2.out,List.length_append]
        omega
       have HXB:=Lib.hid hxb
       have HX:=Lib.hid hx
       obtain ⟨Rq,oq,rfl⟩ : ∃ R o,pa = some ⟨R,o,none⟩:=(S.sl 4 rfl).elim fun F h=>h.head (by omega)
       replace S:=S.also (A':=Sl true Event.cells 7 x.vi x.b.ins) 7 rfl rfl rfl (fun F h=>⟨F,fun _ hb=>hb,ins_el h HXP.out⟩)
       replace S:=S.also (A':=Sl true Event.cells 7 x.vo x.b.sent) 9 rfl rfl rfl (fun F h=>⟨F,fun _ hb=>hb,out_el h HXP.out⟩)
       clear hR hat hsz hxp hxb hx
       obtain ⟨⟨xat,xlp,xins,xthn,xsent⟩,xai,xci,xao,xco⟩:=x
       simp only [BatV.vi,BatV.vo] at *
       obtain ⟨rr,hrr⟩ : ∃ r,rightE c ⟨xat,xlp,xins,xthn,xsent⟩ s2 = r:=⟨_,rfl⟩
       rw [hrr] at HR
       replace S:=S.pick [2,3,4,5,6,7,8,9,10,11,12,13,0,1] rfl
       simp only [pick,nth] at S
       cases rr with
       | false=>
         have HRES : Hid (holdsE c u t = false):=Lib.hid (by
          have h1 : goodL c (q.map (·.b)) pst = false:=goodL_bad HXB.out (by rw [← HSS.out];exact hrr)
          unfold holdsE holdsQ
          have h2 : ((aheadT u t).all fun p=>goodL c p.1 p.2) = false:=by
           rw [← Bool.not_eq_true,List.all_eq_true]
           intro g
           have h3:=g _ (List.mem_of_getElem? HTE.out)
           simp only at h3
           rw [h1] at h3;cases h3
          rw [h2,Bool.false_and])
         clear hrr hl1 hl2
         go_wp2_with first | ((with_reducible apply wps_loada_el S 4 (hj:=HX.out) (q:=0) (vs:=[.int .i64 (⟨⟨xat,xlp,xins,xthn,xsent⟩,xai,xci,xao,xco⟩:BatV).b.at_,.int .i64 (⟨⟨xat,xlp,xins,xthn,xsent⟩,xai,xci,xao,xco⟩:BatV).b.lp,(⟨⟨xat,xlp,xins,xthn,xsent⟩,xai,xci,xao,xco⟩:BatV).vi,.int .i64 (⟨⟨xat,xlp,xins,xthn,xsent⟩,xai,xci,xao,xco⟩:BatV).b.thn.n0,.int .i64 (⟨⟨xat,xlp,xins,xthn,xsent⟩,xai,xci,xao,xco⟩:BatV).b.thn.n1,.int .i64 (⟨⟨xat,xlp,xins,xthn,xsent⟩,xai,xci,xao,xco⟩:BatV).b.thn.n2,.int .i64 (⟨⟨xat,xlp,xins,xthn,xsent⟩,xai,xci,xao,xco⟩:BatV).b.thn.n3,(⟨⟨xat,xlp,xins,xthn,xsent⟩,xai,xci,xao,xco⟩:BatV).vo]) (m:=8));(case hx|hi=>rfl);(case hn=>omega);(case hm|hv=>rfl);(case hT=>decide +kernel)) | ((with_reducible apply wps_alloca (E:=52) S);(case hz=>exact Tryz.zeroValue52);clear S;intro b11 wz S) | ((with_reducible apply wps_storea (T:=52) S 0 (vs:=[.int .i64 xat,.int .i64 xlp,.slice xai xins.length xci,.int .i64 xthn.n0,.int .i64 xthn.n1,.int .i64 xthn.n2,.int .i64 xthn.n3,.slice xao xsent.length xco]) (m:=8));(case hx|hy|hi|hm|h1=>rfl);(case hn=>exact nle rfl);(case hT=>decide +kernel);clear S;intro wz S;simp only [set_cons_zero,set_cons_succ,setAll,setIfInBounds_toArray] at S) | ((with_reducible apply wps_loada (T:=52) (k:=8) S 0);(case hx|hi=>rfl);(case hk=>exact nle rfl);(case hT=>decide +kernel)) | ((with_reducible apply wps_loada (T:=50) (k:=4) S 3);(case hx|hi=>rfl);(case hk=>exact nle rfl);(case hT=>decide +kernel)) | (go_at_call 40;refine Calls.mono (HR.out _ _ _ _ _ _ (S.get (i:=12) rfl).choose_spec (S.get (i:=6) rfl).choose_spec (S.get (i:=14) rfl).choose_spec (S.get (i:=13) rfl).choose_spec (S.get (i:=7) rfl).choose_spec) ?_;rintro e wz ⟨rfl,hE⟩;replace S:=S.ext (Keep.of_below hE);clear hE)
         go_ret
         exact ⟨ret_bool HRES.out.symm,S.below⟩
       | true=>
         have hst:=goodL_step HXB.out HG2.out (by rw [← HSS.out];exact hrr)
         have HG3:=Lib.hid hst.1
         have HSS3 : Hid (xthn = stB ((q.map (·.b)).take (i + 1)) pst):=Lib.hid hst.2.symm
         have HSL3 : Hid (sl2 ++ xsent = sl ++ ((q.map (·.b)).take (i + 1)).flatMap (·.sent)):=Lib.hid (by rw [HSL2.out,take_snoc HXB.out,List.flatMap_append,List.append_assoc];simp)
         have HTL3 : Hid (tl2 ++ xins = tl ++ ((q.map (·.b)).take (i + 1)).flatMap (·.ins)):=Lib.hid (by rw [HTL2.out,take_snoc HXB.out,List.flatMap_append,List.append_assoc];simp)
         clear hrr hst
         go_wp2_with first | ((with_reducible apply wps_loada_el S 4 (hj:=HX.out) (q:=0) (vs:=[.int .i64 (⟨⟨xat,xlp,xins,xthn,xsent⟩,xai,xci,xao,xco⟩:BatV).b.at_,.int .i64 (⟨⟨xat,xlp,xins,xthn,xsent⟩,xai,xci,xao,xco⟩:BatV).b.lp,(⟨⟨xat,xlp,xins,xthn,xsent⟩,xai,xci,xao,xco⟩:BatV).vi,.int .i64 (⟨⟨xat,xlp,xins,xthn,xsent⟩,xai,xci,xao,xco⟩:BatV).b.thn.n0,.int .i64 (⟨⟨xat,xlp,xins,xthn,xsent⟩,xai,xci,xao,xco⟩:BatV).b.thn.n1,.int .i64 (⟨⟨xat,xlp,xins,xthn,xsent⟩,xai,xci,xao,xco⟩:BatV).b.thn.n2,.int .i64 (⟨⟨xat,xlp,xins,xthn,xsent⟩,xai,xci,xao,xco⟩:BatV).b.thn.n3,(⟨⟨xat,xlp,xins,xthn,xsent⟩,xai,xci,xao,xco⟩:BatV).vo]) (m:=8));(case hx|hi=>rfl);(case hn=>omega);(case hm|hv=>rfl);(case hT=>decide +kernel)) | ((with_reducible apply wps_alloca (E:=52) S);(case hz=>exact Tryz.zeroValue52);clear S;intro b11 wz S) | ((with_reducible apply wps_storea (T:=52) S 0 (vs:=[.int .i64 xat,.int .i64 xlp,.slice xai xins.length xci,.int .i64 xthn.n0,.int .i64 xthn.n1,.int .i64 xthn.n2,.int .i64 xthn.n3,.slice xao xsent.length xco]) (m:=8));(case hx|hy|hi|hm|h1=>rfl);(case hn=>exact nle rfl);(case hT=>decide +kernel);clear S;intro wz S;simp only [set_cons_zero,set_cons_succ,setAll,setIfInBounds_toArray] at S) | ((with_reducible apply wps_loada (T:=52) (k:=8) S 0);(case hx|hi=>rfl);(case hk=>exact nle rfl);(case hT=>decide +kernel)) | ((with_reducible apply wps_loada (T:=50) (k:=4) S 3);(case hx|hi=>rfl);(case hk=>exact nle rfl);(case hT=>decide +kernel)) | (go_at_call 40;refine Calls.mono (HR.out _ _ _ _ _ _ (S.get (i:=12) rfl).choose_spec (S.get (i:=6) rfl).choose_spec (S.get (i:=14) rfl).choose_spec (S.get (i:=13) rfl).choose_spec (S.get (i:=7) rfl).choose_spec) ?_;rintro e wz ⟨rfl,hE⟩;replace S:=S.ext (Keep.of_below hE);clear hE) | ((with_reducible apply wps_loada (T:=50) (k:=4) S 0);(case hx|hi=>rfl);(case hk=>exact nle rfl);(case hT=>decide +kernel)) | ((with_reducible apply wps_storea (T:=50) S 3 (vs:=[.int .i64 xthn.n0,.int .i64 xthn.n1,.int .i64 xthn.n2,.int .i64 xthn.n3]) (m:=4));(case hx|hy|hi|hm|h1=>rfl);(case hn=>exact nle rfl);(case hT=>decide +kernel);clear S;intro wz S;simp only [set_cons_zero,set_cons_succ,setAll,setIfInBounds_toArray] at S) | ((with_reducible apply wps_appends elem_Ev ecells eone (by decide) S 1 (j:=13));(case hx|hy|hi|hj=>rfl);(case hl=>omega);clear S;intro az nz cz wz hnz S;simp only [set_cons_succ,set_cons_zero] at S) | ((with_reducible apply wps_appends elem_Ev ecells eone (by decide) S 2 (j:=14));(case hx|hy|hi|hj=>rfl);(case hl=>omega);clear S;intro az2 nz2 cz2 wz hnz2 S;simp only [set_cons_succ,set_cons_zero] at S) | ((with_reducible apply wps_load S 0);(case hx|hi|hu=>rfl);(case hT=>decide +kernel))
         go_roundw
         case rel=>exact ⟨i + 1,xthn,sl2 ++ xsent,tl2 ++ xins,by omega,by go_num,HG3,HSS3,HSL3,HTL3,S.pick [1,2,3,4,5,6,7,8,9,10,11,12] rfl⟩
         case measure=>simp [intOf];omega
     · obtain rfl : i = q.length:=by omega
       have hql : (q.map (·.b)).take q.length = q.map (·.b):=List.take_of_length_le (by rw [List.length_map];exact Nat.le_refl _)
       rw [hql] at HG2 HSL2 HTL2
       have HG3 : Hid (((aheadT u t).take (j + 1)).all (fun p=>goodL c p.1 p.2) = true):=Lib.hid (by
        rw [take_snoc HTE.out,List.all_append,HG.out]
        simp only [List.all_cons,List.all_nil,HG2.out,Bool.and_self])
       have HSL3 : Hid (sl2 = evsOf c ++ sentsQ ((aheadT u t).take (j + 1))):=Lib.hid (by
        rw [take_snoc HTE.out,HSL2.out,HSL.out]
        unfold sentsQ
        rw [List.flatMap_append,List.append_assoc];simp)
       have HTL3 : Hid (tl2 = insQ ((aheadT u t).take (j + 1))):=Lib.hid (by
        rw [take_snoc HTE.out,HTL2.out,HTL.out]
        unfold insQ
        rw [List.flatMap_append];simp)
       clear hil hi
       go_wp2_with first | ((with_reducible apply wps_loada (T:=94) (k:=5) S 0);(case hx|hi=>rfl);(case hk=>exact nle rfl);(case hT=>decide +kernel))
       go_roundw
       case rel=>exact ⟨j + 1,sl2,tl2,by omega,by go_num,HG3,HSL3,HTL3,S.pick [0,1,3,5,6,7,8,9,10,11] rfl⟩
       case measure=>simp [intOf];omega
  · obtain rfl : j = t.length:=by omega
    have hta : (aheadT u t).take t.length = aheadT u t:=List.take_of_length_le (by rw [HAL.out];exact Nat.le_refl _)
    rw [hta] at HG HSL HTL
    have hsl6 : sl.length ≤ 65536:=by rw [HSL.out,List.length_append,evsOf_len];exact HSH.out.1
    have htl6 : tl.length ≤ 65536:=by rw [HTL.out];exact HSH.out.2.1
    have hdl6 : (due u sl).length ≤ 65536:=Nat.le_trans (List.length_filter_le _ _) hsl6
    have HRES : Hid (holdsE c u t = decide (sortE (due u sl) = sortE tl)):=Lib.hid (by
     unfold holdsE holdsQ
     rw [HG.out,Bool.true_and,HSL.out,HTL.out];rfl)
    obtain ⟨dl,hdl⟩ : ∃ d,due u sl = d:=⟨_,rfl⟩
    have HD:=Lib.hid fun w F S0=>delf_calls b3 u (.slice as1 sl.length cs1) sl w F S0 (by omega)
    rw [hdl] at HD HRES hdl6
    have hse : (sortE dl).length ≤ 4294967296:=by rw [sortE_len];omega
    have HEQ:=Lib.hid fun (v1 v2 : Value) (w : World) (F1 F2 : Nat → Prop) h1 h2=>equal_calls v1 v2 (sortE dl) (sortE tl) w F1 F2 h1 h2 hse
    clear hdl hta hlt hj hse
    go_wp2_with first | (go_at_call 41;obtain ⟨Fz,hF,hBk⟩:=S.lendR (B':=Blk true b3 #[.int .i64 u] 3) 0 2 rfl rfl (by decide) rfl rfl (fun _ h=>h);refine Calls.mono (HD.out _ _ hF) ?_;rintro e wz ⟨ad2,cd2,rfl,T⟩;replace S:=hBk _ _ rfl T;clear hBk hF T;simp only [set_cons_zero] at S) | (go_at_call 44;have hcz:=fun w F h=>sort_calls (.slice ad2 dl.length cd2) dl w F h hdl6;(with_reducible refine Calls.mono (hcz _ _ (own_sl (sh:=true) ecells (S.get (i:=0) rfl).choose_spec)) ?_);clear hcz;rintro e wz ⟨ad3,cd3,rfl,T⟩;replace S:=S.join T rfl;clear T;simp only [cons_append,nil_append] at S) | (go_at_call 44;have hcz:=fun w F h=>sort_calls (.slice at1 tl.length ct1) tl w F h htl6;(with_reducible refine Calls.mono (hcz _ _ (own_sl (sh:=true) ecells (S.get (i:=2) rfl).choose_spec)) ?_);clear hcz;rintro e wz ⟨ad4,cd4,rfl,T⟩;replace S:=S.join T rfl;clear T;simp only [cons_append,nil_append] at S) | (go_at_call 43;refine Calls.mono (HEQ.out _ _ _ _ _ (own_sl (sh:=true) ecells (S.get (i:=1) rfl).choose_spec) (own_sl (sh:=true) ecells (S.get (i:=0) rfl).choose_spec)) ?_;rintro e wz ⟨rfl,hE⟩;replace S:=S.ext (Keep.of_below hE);clear hE)
    go_ret
    exact ⟨ret_bool HRES.out.symm,S.below⟩
end Go.Proofs.YtcnfionnnpnplaaGreatDoor
