import Derived.Test.YtcnfionnnpnplaaGreatDoorZ31
import Derived.Test.YtcnfionnnpnplaaGreatDoorZ32
import Derived.Test.YtcnfionnnpnplaaGreatDoorZ33
import Derived.Test.YtcnfionnnpnplaaGreatDoorZ35
/- The walk of the law's TraceCommits. -/
set_option maxHeartbeats 16000000
set_option maxRecDepth 100000
namespace Go.Proofs.YtcnfionnnpnplaaGreatDoor
open Go Go.RowKit Reg Mem
open List (set_cons_succ set_cons_zero setIfInBounds_toArray cons_append nil_append)
theorem ins_pool {G : Nat → Prop} {w0 w : World} {L : List Asn} {la lb : List BatV} (S : St G w0 w (insA true la :: insA true lb :: L)) : St G w0 w (insA true (la ++ lb) :: L):=by
 unfold insA at *
 rw [List.map_append,List.map_append]
 exact S.slsAppendT
theorem out_pool {G : Nat → Prop} {w0 w : World} {L : List Asn} {la lb : List BatV} (S : St G w0 w (outA true la :: outA true lb :: L)) : St G w0 w (outA true (la ++ lb) :: L):=by
 unfold outA at *
 rw [List.map_append,List.map_append]
 exact S.slsAppendT
structure There (c : Cfg) (pool th : List BatV) (tr : TrE) (k : Nat) : Prop where
 is : IsT c (th.map (·.b)) tr
 rise : Rise (th.map (·.b))
 range : inRange c.lps.length (th.map (·.b))
 few : FewB (th.map (·.b)) (40 * k)
 mem : ∀ x ∈ th,x ∈ pool
theorem There.len {c : Cfg} {pool th : List BatV} {tr : TrE} {k : Nat} (h : There c pool th tr k) : th.length ≤ 40 * k:=by
 have:=h.few.len;rwa [List.length_map] at this
theorem There.next {c : Cfg} {pool th part : List BatV} {tr tr2 : TrE} {k : Nat} {W : Int} (h : There c pool th tr k) (hp : FewB (part.map (·.b)) 40) (hm : ∀ x ∈ part,x ∈ pool) (hc : commitT tr (part.map (·.b)) = (W,tr2)) :
 (W = 0 → There c pool (th ++ part) tr2 (k + 1)) ∧ (W ≠ 0 → There c pool th tr2 (k + 1)):=by
 have hci:=commitT_is (l:=part.map (·.b)) h.is h.rise
 rw [hc] at hci
 simp only at hci
 refine ⟨fun e=>?_,fun e=>?_⟩
 · have hw : wrongT c.lps.length (th.map (·.b)) (part.map (·.b)) = 0:=by rw [← hci.1];exact e
   have h2:=hci.2.1 hw
   rw [← List.map_append] at h2
   refine ⟨h2.1,h2.2,fun b hb=>?_,?_,fun x hx=>(List.mem_append.1 hx).elim (h.mem x) (hm x)⟩
   · rw [List.map_append] at hb
     exact (List.mem_append.1 hb).elim (h.range b) (wrong_in hw b)
   · rw [List.map_append,Nat.mul_add]
     exact h.few.app hp
 · have h2:=hci.2.2 (by rw [← hci.1];exact e)
   rw [h2]
   exact ⟨h.is,h.rise,h.range,⟨by have:=h.few.len;omega,h.few.each⟩,h.mem⟩
def PartRel20 (L : List Asn) (pool : List BatV) (w : World) (v : Value) (wr : World) : Prop:=
 ∃ ad cp part,v = .slice ad part.length cp ∧ Hid (∀ x ∈ part,x ∈ pool) ∧ Hid (FewB (part.map (·.b)) 40) ∧ St (fun _=>False) w wr (Sl true BatV.cells 8 (.slice ad part.length cp) part :: insA true part :: outA true part :: L)
def ComRel20 (X R : Nat) (c : Cfg) (pool : List BatV) (L : List Asn) (w : World) (v i : Value) (wr : World) : Prop:=
 ∃ (k : Nat) (tr : TrE) (th : List BatV),k ≤ 2 ∧ i = .int .i64 k ∧ Hid (There c pool th tr k) ∧ St (fun _=>False) w wr (traceA X R tr :: Mem.Own 67 BatV.cells 8 v th :: L)
def CutRel20 (X R : Nat) (c : Cfg) (pool : List BatV) (tr2 : TrE) (k : Nat) (L : List Asn) (w : World) (v : Value) (wr : World) : Prop:=
 ∃ th2,Hid (There c pool th2 tr2 (k + 1)) ∧ St (fun _=>False) w wr (traceA X R tr2 :: Mem.Own 67 BatV.cells 8 v th2 :: L)
def OfRel20 (L : List Asn) (n : Nat) (w : World) (i : Value) (wr : World) : Prop:=
 ∃ (j : Nat) (z : Int),j ≤ n + 2 ∧ z = (j : Int) - 1 ∧ i = .int .i64 z ∧ St (fun _=>False) w wr L
def OwnRel20 (L : List Asn) (th : List BatV) (z : Int) (w : World) (v i : Value) (wr : World) : Prop:=
 ∃ j : Nat,j ≤ th.length ∧ i = .int .i64 j ∧ St (fun _=>False) w wr (Mem.Own 67 BatV.cells 8 v (ofV z (th.take j)) :: L)
def AllPost20 (n : Nat) (m : List BatE) (w : World) (e : Ending) (w' : World) : Prop:=
 ∃ a cp d,e = .returned (.slice a n cp) ∧ d.map (·.b) = m ∧ d.length = n ∧ St (fun _=>False) w w' [Mem.Own 52 BatV.cells 8 (.slice a n cp) d,insA false d,outA false d]
def SrtPost20 (n : Nat) (m : List BatE) (l : List BatV) (w : World) (e : Ending) (w' : World) : Prop:=
 ∃ a cp d,e = .returned (.slice a n cp) ∧ d.map (·.b) = m ∧ d.length = n ∧ (∀ x ∈ d,x ∈ l) ∧ St (fun _=>False) w w' [Mem.Own 67 BatV.cells 8 (.slice a n cp) d]
theorem bats_all {bs : List BatE} {w w' : World} {e : Ending} (h : BatsPost bs w e w') : AllPost20 bs.length bs w e w':=by
 obtain ⟨a,cp,d,h1,h2,S⟩:=h
 exact ⟨a,cp,d,h1,h2,by rw [← h2,List.length_map],S⟩
theorem srt_all {l : List BatV} {w w' : World} {e : Ending} (h : RsPost l w e w') : SrtPost20 l.length (sortB (l.map (·.b))) l w e w':=by
 obtain ⟨a,cp,d,h1,h2,h3,S⟩:=h
 exact ⟨a,cp,d,h1,h2,h3.length_eq,fun x hx=>h3.mem_iff.1 hx,S⟩
theorem traceCommits_calls (vs hs : List Value) (c : Cfg) (ad : Option Addr) (cp : Nat) (la : List BatV) (ad2 : Option Addr) (cp2 : Nat) (lb : List BatV) (w : World) (F F2 F3 F4 F5 F6 F7 F8 : Nat → Prop) (h : (CfgA true vs hs c).at_ w F) (hw : Wide c) (hwb : WideB c)
 (h2 : (Sl true BatV.cells 8 (.slice ad la.length cp) la).at_ w F2) (h3 : (insA true la).at_ w F3) (h4 : (outA true la).at_ w F4) (h6 : (Sl true BatV.cells 8 (.slice ad2 lb.length cp2) lb).at_ w F6) (h7 : (insA true lb).at_ w F7) (h8 : (outA true lb).at_ w F8)
 (hna : la.length ≤ 9223372036854775807) (hna2 : ∀ x ∈ la,x.b.ins.length ≤ 9223372036854775807) (hnb : lb.length ≤ 9223372036854775807) (hnb2 : ∀ x ∈ lb,x.b.ins.length ≤ 9223372036854775807) (ht : Tab.at_ w F5) :
 Calls Tryz.prog 4 #[.agg vs.toArray,.slice ad la.length cp,.slice ad2 lb.length cp2] w fun r w'=>r = .returned (.bool true) ∧ Below w.heap.size w w':=by
 have S : St (fun _=>False) w w [CfgA true vs hs c,Sl true BatV.cells 8 (.slice ad la.length cp) la,insA true la,outA true la,Sl true BatV.cells 8 (.slice ad2 lb.length cp2) lb,insA true lb,outA true lb,Tab]:=
  ((((((((St.init _ w).share rfl rfl ht).share (A:=outA true lb) rfl rfl h8).share (A:=insA true lb) rfl rfl h7).share (A:=Sl true BatV.cells 8 (.slice ad2 lb.length cp2) lb) rfl rfl h6).share (A:=outA true la) rfl rfl h4).share (A:=insA true la) rfl rfl h3).share (A:=Sl true BatV.cells 8 (.slice ad la.length cp) la) rfl rfl h2).share rfl rfl h
 clear h h2 h3 h4 h6 h7 h8 ht
 obtain ⟨aP,cP,aL,cL,aS,cS,rfl,_,_⟩:=S.cfg 0 rfl
 have HMd:=Lib.hid fun w F F2 h ht=>made_calls [.slice aP c.programs.length cP,.slice aL c.lps.length cL,.slice aS c.starts.length cS,.int .i64 c.fin,.int .i64 c.fuel,.int .i64 c.fan] hs c w F F2 h hw hwb ht
 have HFA:=Lib.hid fun w F F2 F3 h h2 h3=>few20_calls ad cp la w F F2 F3 h h2 h3 hna hna2
 have HFB:=Lib.hid fun w F F2 F3 h h2 h3=>few20_calls ad2 cp2 lb w F F2 F3 h h2 h3 hnb hnb2
 clear hw hwb hna hna2 hnb hnb2
 go_enter Tryz.func4,Tryz.ntmps4
 go_wp2_with first | ((with_reducible apply wps_boxa (E:=26) S);(case hx=>rfl);clear S;intro bx wz S) | ((with_reducible apply wps_loada (T:=26) (k:=6) S 0);(case hx|hi=>rfl);(case hk=>exact nle rfl);(case hT=>decide +kernel))
 refine Calls.mono (HMd.out _ _ _ (S.get (i:=1) rfl).choose_spec (S.get (i:=8) rfl).choose_spec) ?_
 clear HMd
 rintro r wz ⟨pv,vs2,hs2,rfl,(⟨hm,rfl,T⟩ | ⟨hm,R,vs3,hs3,rfl,T⟩)⟩
 · replace S:=((S.join T rfl).cfgShare 0 rfl).pick [0,9] rfl
   repeat (first | simp only at S | simp only [pick] at S | simp only [nth] at S | simp only [set_cons_succ] at S | simp only [set_cons_zero] at S | simp only [setIfInBounds_toArray] at S | simp only [setAll] at S | simp only [cons_append] at S | simp only [nil_append] at S | simp only [List.append_nil] at S)
   clear T hm
   obtain ⟨aP2,cP2,aL2,cL2,aS2,cS2,rfl,_,_⟩:=S.cfg 0 rfl
   go_wp2_with first | ((with_reducible apply wps_alloca (E:=34) S);(case hz=>exact Tryz.zeroValue34);clear S;intro b8 wz S) | ((with_reducible apply wps_storea (T:=34) S 0 (vs:=[.slice aP2 c.programs.length cP2,.slice aL2 c.lps.length cL2,.slice aS2 c.starts.length cS2,.int .i64 c.fin,.int .i64 c.fuel,.int .i64 c.fan]) (m:=6));(case hx|hy|hi|hm|h1=>rfl);(case hn=>exact nle rfl);(case hT=>decide +kernel);clear S;intro wz S;simp only [set_cons_zero,set_cons_succ,setAll,setIfInBounds_toArray] at S) | (go_at_call 8;refine Calls.mono (awake20_calls _ _ (S.get (i:=2) rfl).choose_spec) ?_;rintro e wz ⟨rfl,hE⟩;replace S:=S.ext (Keep.of_below hE);clear hE)
   go_ret
   exact ⟨rfl,S.below⟩
 replace S:=(((S.join T rfl).modShare 0 rfl).cfgShare 1 rfl).pick [0,4,5,6,7,8,9,10,1] rfl
 repeat (first | simp only at S | simp only [pick] at S | simp only [nth] at S | simp only [set_cons_succ] at S | simp only [set_cons_zero] at S | simp only [setIfInBounds_toArray] at S | simp only [setAll] at S | simp only [cons_append] at S | simp only [nil_append] at S | simp only [List.append_nil] at S)
 clear T
 obtain ⟨aP2,cP2,aL2,cL2,aS2,cS2,rfl,_,SC⟩:=S.cfg 8 rfl
 replace S:=SC.pick [4,5,6,7,8,9,10,11,2] rfl
 simp only [pick,nth] at S
 clear SC
 have hfw : fewB c = true ∧ cfgE c = 0:=by unfold madeB at hm;rw [Bool.and_eq_true,decide_eq_true_eq] at hm;exact hm
 have hcn : c.lps.length ≤ 32:=by have:=(cfg_isfine hfw.2).sizes;unfold sizesOk at this;omega
 have hst : c.starts.length ≤ 256:=(cfg_isfine hfw.2).starts
 clear hm hfw
 obtain ⟨fq,hfq⟩ : ∃ q,fewT (la.map (·.b)) = q:=⟨_,rfl⟩
 rw [hfq] at HFA
 cases fq with
 | false=>
   clear hfq
   go_wp2_with first | ((with_reducible apply wps_alloca (E:=34) S);(case hz=>exact Tryz.zeroValue34);clear S;intro b8 wz S) | ((with_reducible apply wps_storea (T:=34) S 0 (vs:=[.slice aP2 c.programs.length cP2,.slice aL2 c.lps.length cL2,.slice aS2 c.starts.length cS2,.int .i64 c.fin,.int .i64 c.fuel,.int .i64 c.fan]) (m:=6));(case hx|hy|hi|hm|h1=>rfl);(case hn=>exact nle rfl);(case hT=>decide +kernel);clear S;intro wz S;simp only [set_cons_zero,set_cons_succ,setAll,setIfInBounds_toArray] at S) | (go_at_call 7;have hcz:=HFA.out _ _ _ _ (S.get (i:=2) rfl).choose_spec (S.get (i:=3) rfl).choose_spec (S.get (i:=4) rfl).choose_spec;(with_reducible refine Calls.mono hcz ?_);clear hcz;rintro e wz ⟨rfl,hE⟩;replace S:=S.ext (Keep.of_below hE);clear hE) | (go_at_call 8;refine Calls.mono (awake20_calls _ _ (S.get (i:=8) rfl).choose_spec) ?_;rintro e wz ⟨rfl,hE⟩;replace S:=S.ext (Keep.of_below hE);clear hE)
   go_ret
   exact ⟨rfl,S.below⟩
 | true=>
 obtain ⟨gq,hgq⟩ : ∃ q,fewT (lb.map (·.b)) = q:=⟨_,rfl⟩
 rw [hgq] at HFB
 cases gq with
 | false=>
   clear hfq hgq
   go_wp2_with first | ((with_reducible apply wps_alloca (E:=34) S);(case hz=>exact Tryz.zeroValue34);clear S;intro b8 wz S) | ((with_reducible apply wps_storea (T:=34) S 0 (vs:=[.slice aP2 c.programs.length cP2,.slice aL2 c.lps.length cL2,.slice aS2 c.starts.length cS2,.int .i64 c.fin,.int .i64 c.fuel,.int .i64 c.fan]) (m:=6));(case hx|hy|hi|hm|h1=>rfl);(case hn=>exact nle rfl);(case hT=>decide +kernel);clear S;intro wz S;simp only [set_cons_zero,set_cons_succ,setAll,setIfInBounds_toArray] at S) | (go_at_call 7;have hcz:=HFA.out _ _ _ _ (S.get (i:=2) rfl).choose_spec (S.get (i:=3) rfl).choose_spec (S.get (i:=4) rfl).choose_spec;(with_reducible refine Calls.mono hcz ?_);clear hcz;rintro e wz ⟨rfl,hE⟩;replace S:=S.ext (Keep.of_below hE);clear hE) | (go_at_call 7;have hcz:=HFB.out _ _ _ _ (S.get (i:=5) rfl).choose_spec (S.get (i:=6) rfl).choose_spec (S.get (i:=7) rfl).choose_spec;(with_reducible refine Calls.mono hcz ?_);clear hcz;rintro e wz ⟨rfl,hE⟩;replace S:=S.ext (Keep.of_below hE);clear hE) | (go_at_call 8;refine Calls.mono (awake20_calls _ _ (S.get (i:=8) rfl).choose_spec) ?_;rintro e wz ⟨rfl,hE⟩;replace S:=S.ext (Keep.of_below hE);clear hE)
   go_ret
   exact ⟨rfl,S.below⟩
 | true=>
 have HWA:=Lib.hid (few_of hfq)
 have HWB:=Lib.hid (few_of hgq)
 clear hfq hgq
 go_wp2_with first | ((with_reducible apply wps_alloca (E:=34) S);(case hz=>exact Tryz.zeroValue34);clear S;intro b8 wz S) | ((with_reducible apply wps_storea (T:=34) S 0 (vs:=[.slice aP2 c.programs.length cP2,.slice aL2 c.lps.length cL2,.slice aS2 c.starts.length cS2,.int .i64 c.fin,.int .i64 c.fuel,.int .i64 c.fan]) (m:=6));(case hx|hy|hi|hm|h1=>rfl);(case hn=>exact nle rfl);(case hT=>decide +kernel);clear S;intro wz S;simp only [set_cons_zero,set_cons_succ,setAll,setIfInBounds_toArray] at S) | (go_at_call 7;have hcz:=HFA.out _ _ _ _ (S.get (i:=2) rfl).choose_spec (S.get (i:=3) rfl).choose_spec (S.get (i:=4) rfl).choose_spec;(with_reducible refine Calls.mono hcz ?_);clear hcz;rintro e wz ⟨rfl,hE⟩;replace S:=S.ext (Keep.of_below hE);clear hE) | (go_at_call 7;have hcz:=HFB.out _ _ _ _ (S.get (i:=5) rfl).choose_spec (S.get (i:=6) rfl).choose_spec (S.get (i:=7) rfl).choose_spec;(with_reducible refine Calls.mono hcz ?_);clear hcz;rintro e wz ⟨rfl,hE⟩;replace S:=S.ext (Keep.of_below hE);clear hE) | (go_at_call 15;refine Calls.mono (tnew_calls R vs3 hs3 c _ _ (S.get (i:=1) rfl).choose_spec hcn) ?_;rintro e wz ⟨X,rfl,T⟩;replace S:=S.join T rfl;clear T;simp only [cons_append,nil_append] at S)
 replace S:=ins_pool ((S.nil 67 BatV.cells 8).pick [5,8,1,0,6,9,4,7,3,2,11,10] rfl)
 simp only [pick,nth] at S
 replace S:=out_pool (S.pick [3,4,1,2,0,5,6,7,8,9,10] rfl)
 simp only [pick,nth] at S
 replace S:=S.pick [1,2,3,0,4,5,6,7,8,9] rfl
 simp only [pick,nth] at S
 have hT0 : Hid (There c (la ++ lb) [] (newT c) 0):=Lib.hid ⟨isT_new c,rise_nil,fun b hb=>absurd hb (by simp),⟨by simp,fun b hb=>absurd hb (by simp)⟩,fun x hx=>absurd hx (by simp)⟩
 go_loopw [11,12] (fun v i wr=>ComRel20 X R c (la ++ lb) _ w v i wr) (fun _ i _=>2 - (intOf i).toNat)
 case atStart=>exact ⟨0,_,[],Nat.zero_le _,rfl,hT0,S⟩
 case round=>
  clear S hT0
  obtain ⟨k,tr,th,hk,rfl,HT,S⟩:=hrel
  obtain ⟨ath,cth,rfl,_⟩:=(S.ownsl bvcells 1 rfl).elim fun _ h=>h.form
  by_cases hlt : k < 2
  · have hlt2 : (k : Int) < 2:=by omega
    go_upto_if 54 with fail
    go_cut [13] from 53 to 55 (fun v wx=>PartRel20 [traceA X R tr,Mem.Own 67 BatV.cells 8 (.slice ath th.length cth) th,insA true (la ++ lb),outA true (la ++ lb),Sl true BatV.cells 8 (.slice ad la.length cp) la,Sl true BatV.cells 8 (.slice ad2 lb.length cp2) lb,ModA true 128 R vs3 hs3 c,Blk false b8 #[.slice aP2 c.programs.length cP2,.slice aL2 c.lps.length cL2,.slice aS2 c.starts.length cS2,.int .i64 c.fin,.int .i64 c.fuel,.int .i64 c.fan] 34,Sl true Place.cells 5 (.slice aL2 c.lps.length cL2) c.lps,Tab] (la ++ lb) w v wx)
    case first=>
     by_cases hk0 : k = 0
     · have f1 : ((k : Int) == 1) = false:=by simp;omega
       have f2 : decide ((k : Int) = 1) = false:=by simp;omega
       go_wp2_with first | ((with_reducible apply wps_loada (T:=67) (k:=8) S 0);(case hx|hi=>rfl);(case hk=>exact nle rfl);(case hT=>decide +kernel))
       go_meet
       case rel=>
        replace S:=S.also (A':=outA true la) 3 rfl rfl rfl (fun F h=>⟨F,fun _ hb=>hb,sls_sub true h (fun x hx=>List.mem_append_left _ hx)⟩)
        replace S:=S.also (A':=insA true la) 3 rfl rfl rfl (fun F h=>⟨F,fun _ hb=>hb,sls_sub true h (fun x hx=>List.mem_append_left _ hx)⟩)
        exact ⟨ad,cp,la,rfl,Lib.hid (fun x hx=>List.mem_append_left _ hx),HWA,S.also (A':=Sl true BatV.cells 8 (.slice ad la.length cp) la) 6 rfl rfl rfl (fun F h=>⟨F,fun _ hb=>hb,h⟩)⟩
     · have f1 : ((k : Int) == 1) = true:=by simp;omega
       have f2 : decide ((k : Int) = 1) = true:=by simp;omega
       go_wp2_with first | ((with_reducible apply wps_loada (T:=67) (k:=8) S 0);(case hx|hi=>rfl);(case hk=>exact nle rfl);(case hT=>decide +kernel))
       go_meet
       case rel=>
        replace S:=S.also (A':=outA true lb) 3 rfl rfl rfl (fun F h=>⟨F,fun _ hb=>hb,sls_sub true h (fun x hx=>List.mem_append_right _ hx)⟩)
        replace S:=S.also (A':=insA true lb) 3 rfl rfl rfl (fun F h=>⟨F,fun _ hb=>hb,sls_sub true h (fun x hx=>List.mem_append_right _ hx)⟩)
        exact ⟨ad2,cp2,lb,rfl,Lib.hid (fun x hx=>List.mem_append_right _ hx),HWB,S.also (A':=Sl true BatV.cells 8 (.slice ad2 lb.length cp2) lb) 7 rfl rfl rfl (fun F h=>⟨F,fun _ hb=>hb,h⟩)⟩
    case rest=>
    clear S
    obtain ⟨pa,pc,part,rfl,HPM,HPF,S⟩:=hcut
    obtain ⟨W,hW⟩ : ∃ W,wrongT c.lps.length (th.map (·.b)) (part.map (·.b)) = W:=⟨_,rfl⟩
    obtain ⟨tr2,hc⟩ : ∃ T,commitT tr (part.map (·.b)) = (W,T):=⟨(commitT tr (part.map (·.b))).2,by rw [← hW,← (commitT_is HT.out.is HT.out.rise).1]⟩
    have hpl : part.length ≤ 40:=by have:=HPF.out.len;rwa [List.length_map] at this
    have hthl : th.length ≤ 80:=by have:=HT.out.len;omega
    have HNX:=Lib.hid (HT.out.next HPF.out HPM.out hc)
    have hsT:=isT_small (u:=0) HT.out.is HT.out.range HT.out.few (by omega) hcn hst
    have HRW : Hid (∀ (a2 : Option Addr) (c2 : Nat) (w : World) (F1 F2 : Nat → Prop) (h1 : (Sl true BatV.cells 8 (.slice ath th.length cth) th).at_ w F1) (h2 : (Sl true BatV.cells 8 (.slice a2 part.length c2) part).at_ w F2),Calls Tryz.prog 16 #[.agg #[.slice aP2 c.programs.length cP2,.slice aL2 c.lps.length cL2,.slice aS2 c.starts.length cS2,.int .i64 c.fin,.int .i64 c.fuel,.int .i64 c.fan],.slice ath th.length cth,.slice a2 part.length c2] w fun r w'=>r = .returned (.int .i64 W) ∧ Below w.heap.size w w'):=Lib.hid fun a2 c2 w F1 F2 h1 h2=>by
     have:=rwrong20_calls (.slice aP2 c.programs.length cP2) (.slice aS2 c.starts.length cS2) (.int .i64 c.fin) (.int .i64 c.fuel) (.int .i64 c.fan) aL2 c.lps.length cL2 ath cth th a2 c2 part w F1 F2 h1 h2 (by omega) (by omega)
     rwa [hW] at this
    have HCM : Hid (∀ (w : World) (F : Nat → Prop) (S0 : St F w w [traceA X R tr,Sl true BatV.cells 8 (.slice pa part.length pc) part,insA true part,outA true part]),Calls Tryz.prog 10 #[.pointer (some ⟨X,0,none⟩),.slice pa part.length pc] w fun e w'=>e = .returned (.int .i64 W) ∧ St F w w' [traceA X R tr2]):=Lib.hid fun w F S0=>by
     have:=tcommit_calls X R tr pa pc part w F S0 (HPF.out.small (by decide)) hsT.1
     rwa [hc] at this
    have HPL:=Lib.hid fun w F h=>tplain_calls pa pc part w F h (by omega)
    have f9 : (W != W) = false:=by simp
    clear hW hc hsT HT
    go_upto_region 14 with fail
    (refine wp_region_w (soft:=[0,1,2]) S ?hm ?hB ?_);(case hm=>kernel_rfl);(case hB=>decide +kernel);clear S
    iterate 3
     (with_reducible apply softs_cons)
     (case hw=>
       (with_reducible apply soft_of);(case hi=>rfl)
       intro T wz S
       simp only [cons_append,nil_append] at S
       go_wp2_with first | ((with_reducible apply wps_loada (T:=34) (k:=6) S 10);(case hx|hi=>rfl);(case hk=>exact nle rfl);(case hT=>decide +kernel)) | ((with_reducible refine tot_done ?ht ?_);(case ht=>kernel_rfl))
       exact ⟨rfl,S⟩)
     (case hs=>exact ⟨_,rfl,by kernel_rfl⟩)
    refine softs_nil ?_
    (with_reducible apply W_hard1 (i:=3));(case hn=>rfl);(case hr=>decide +kernel)
    intro wz S
    (with_reducible apply hard_of);(case hi=>rfl)
    simp only [cons_append,nil_append] at S
    go_wp2_with first | (go_at_call 13;refine Calls.mono (HPL.out _ _ (S.get (i:=0) rfl).choose_spec) ?_;rintro e wz ⟨a5,c5,rfl,T2⟩;replace S:=S.join T2 rfl;clear T2;simp only [cons_append,nil_append] at S) | ((with_reducible refine tot_done ?ht ?_);(case ht=>kernel_rfl))
    refine ⟨_,S.pick [1,2,3,4,5,6,7,8,9,10,11,12,13,0] rfl,?_⟩
    clear S
    (with_reducible apply W_hard1 (i:=4));(case hn=>rfl);(case hr=>decide +kernel)
    intro wz S
    (with_reducible apply hard_of);(case hi=>rfl)
    simp only [cons_append,nil_append] at S
    go_wp2_with first | (go_at_call 16;refine Calls.mono (HRW.out _ _ _ _ _ (own_sl (sh:=true) bvcells (S.get (i:=4) rfl).choose_spec) (own_sl (sh:=true) bvcells (S.get (i:=13) rfl).choose_spec)) ?_;rintro e wz ⟨rfl,hE⟩;replace S:=S.ext (Keep.of_below hE);clear hE) | ((with_reducible refine tot_done ?ht ?_);(case ht=>kernel_rfl))
    refine ⟨_,S,?_⟩
    clear S
    (refine W_mid (f:=0) (soft:=[5]) rfl ?hB ?_);(case hB=>decide +kernel)
    iterate 1
     (with_reducible apply softs_cons)
     (case hw=>
       (with_reducible apply soft_of);(case hi=>rfl)
       intro T wz S
       simp only [cons_append,nil_append] at S
       go_wp2_with first | ((with_reducible refine tot_done ?ht ?_);(case ht=>kernel_rfl))
       exact ⟨rfl,S⟩)
     (case hs=>exact ⟨_,rfl,by kernel_rfl⟩)
    refine softs_nil ?_
    (with_reducible apply W_done);(case hn=>rfl);(case hr=>decide +kernel)
    intro wz S
    repeat (first | simp only at S | simp only [pick] at S | simp only [nth] at S | simp only [set_cons_succ] at S | simp only [set_cons_zero] at S | simp only [setIfInBounds_toArray] at S | simp only [setAll] at S | simp only [cons_append] at S | simp only [nil_append] at S | simp only [List.append_nil] at S)
    go_upto_region 17 with first | (go_at_call 10;obtain ⟨Fz,hF,hBk⟩:=S.lend [3] [0,1,2] [0,1,2,4,5,6,7,8,9,10,11,12] rfl rfl rfl;simp only [cons_append,nil_append,pick,nth] at hF hBk;refine Calls.mono (HCM.out _ _ hF) ?_;rintro e wz ⟨rfl,T2⟩;replace S:=hBk _ _ T2 rfl;clear hBk hF T2;simp only [cons_append,nil_append] at S;replace S:=S.pick [1,2,3,0,4,5,6,7,8,9,10,11,12] rfl;simp only [pick,nth] at S)
    clear HCM HRW f9
    go_upto_if 67 with fail
    go_cut [11] from 56 to 71 (fun v wx=>CutRel20 X R c (la ++ lb) tr2 k [insA true (la ++ lb),outA true (la ++ lb),Sl true BatV.cells 8 (.slice ad la.length cp) la,Sl true BatV.cells 8 (.slice ad2 lb.length cp2) lb,ModA true 128 R vs3 hs3 c,Blk false b8 #[.slice aP2 c.programs.length cP2,.slice aL2 c.lps.length cL2,.slice aS2 c.starts.length cS2,.int .i64 c.fin,.int .i64 c.fuel,.int .i64 c.fan] 34,Sl true Place.cells 5 (.slice aL2 c.lps.length cL2) c.lps,Tab] w v wx)
    case first=>
     by_cases hW : W = 0
     · have f1 : (W == 0) = true:=by simp;omega
       have HN2:=Lib.hid (HNX.out.1 hW)
       clear hW HNX
       go_wp2_with first | (go_at_call 13;refine Calls.mono (HPL.out _ _ (S.get (i:=0) rfl).choose_spec) ?_;rintro e wz ⟨a5,c5,rfl,T2⟩;replace S:=S.join T2 rfl;clear T2;simp only [cons_append,nil_append] at S;replace S:=S.freeze true 0 bvcells rfl;simp only [set_cons_zero] at S) | ((with_reducible apply wps_appends elem_RBat bvcells bvone (by decide) S 5 (j:=0));(case hx|hy|hi|hj=>rfl);(case hl=>first | omega | (simp;omega));clear S;intro az nz cz wz hnz S;simp only [set_cons_succ,set_cons_zero] at S)
       go_meet
       case rel=>exact ⟨th ++ part,HN2,S.pick [4,5,6,7,8,9,10,11,12,13] rfl⟩
     · have f1 : (W == 0) = false:=by simp;omega
       have HN2:=Lib.hid (HNX.out.2 hW)
       clear hW HNX
       go_wp2_with first | ((with_reducible apply wps_loada (T:=67) (k:=8) S 0);(case hx|hi=>rfl);(case hk=>exact nle rfl);(case hT=>decide +kernel))
       go_meet
       case rel=>exact ⟨th,HN2,S.pick [3,4,5,6,7,8,9,10,11,12] rfl⟩
    case rest=>
    clear S HNX HPL HPM HPF hpl hthl
    obtain ⟨th2,HT,S⟩:=hcut
    obtain ⟨at2,ct2,rfl,_⟩:=(S.ownsl bvcells 1 rfl).elim fun _ h=>h.form
    have hthl : th2.length ≤ 80:=by have:=HT.out.len;omega
    have hsT:=isT_small (u:=0) HT.out.is HT.out.range HT.out.few (by omega) hcn hst
    have hss:=states_is HT.out.is HT.out.rise HT.out.range
    obtain ⟨sb,hsb⟩ : ∃ s,sortB (th2.map (·.b)) = s:=⟨_,rfl⟩
    have hsbl : sb.length = th2.length:=by rw [← hsb,(sortB_perm _).length_eq,List.length_map]
    have hsbm : ∀ b ∈ sb,b ∈ th2.map (·.b):=fun b hb=>(sortB_perm _).mem_iff.1 (by rw [hsb];exact hb)
    have hsm : SmallB sb:=⟨by omega,fun b hb=>(HT.out.few.small (by omega)).2 b (hsbm b hb)⟩
    rw [hsb] at hss
    obtain ⟨ss,hssq⟩ : ∃ s,sb.foldl setst (c.lps.map (·.first)) = s:=⟨_,rfl⟩
    have hssl : ss.length ≤ 65536:=by rw [← hssq,setst_lenJ,List.length_map];omega
    rw [hssq] at hss
    have HTH : Hid (∀ x ∈ th2,x ∈ la ++ lb):=Lib.hid HT.out.mem
    have HSO : Hid (∀ (w : World) (F : Nat → Prop) (h : (Sl true BatV.cells 8 (.slice at2 th2.length ct2) th2).at_ w F),Calls Tryz.prog 17 #[.slice at2 th2.length ct2] w (SrtPost20 th2.length sb th2 w)):=Lib.hid fun w F h=>(rsorted_calls at2 ct2 th2 w F h (by omega)).mono fun e w' g=>by
     have:=srt_all g;rwa [hsb] at this
    have HAL : Hid (∀ (w : World) (F : Nat → Prop) (h : (traceA X R tr2).at_ w F),Calls Tryz.prog 12 #[.pointer (some ⟨X,0,none⟩)] w (AllPost20 th2.length sb w)):=Lib.hid fun w F h=>(tall_callsM X R tr2 _ w F h hsT.1 hsT.2.2 (isT_perm HT.out.is HT.out.range) HT.out.rise).mono fun e w' g=>by
     have:=bats_all g;rwa [hsb,hsbl] at this
    have HSA : Hid (∀ (a1 : Option Addr) (c1 : Nat) (d1 : List BatV) (a2 : Option Addr) (c2 : Nat) (d2 : List BatV) (g1 : d1.map (·.b) = sb) (g2 : d2.map (·.b) = sb) (w : World) (F1 F2 F3 F4 F5 F6 : Nat → Prop) (h1 : (Sl true BatV.cells 8 (.slice a1 th2.length c1) d1).at_ w F1) (h2 : (insA true d1).at_ w F2) (h3 : (outA true d1).at_ w F3)
     (h4 : (Sl true BatV.cells 8 (.slice a2 th2.length c2) d2).at_ w F4) (h5 : (insA true d2).at_ w F5) (h6 : (outA true d2).at_ w F6),Calls Tryz.prog 11 #[.slice a1 th2.length c1,.slice a2 th2.length c2] w fun r w'=>r = .returned (.bool true) ∧ Below w.heap.size w w'):=Lib.hid fun a1 c1 d1 a2 c2 d2 g1 g2 w F1 F2 F3 F4 F5 F6 h1 h2 h3 h4 h5 h6=>by
     have e1 : d1.length = th2.length:=by have:=congrArg List.length g1;rw [List.length_map] at this;omega
     have:=tsame_calls a1 c1 d1 a2 c2 d2 w F1 F2 F3 F4 F5 F6 (by rw [e1];exact h1) h2 h3 (by rw [e1];exact h4) h5 h6 (by rw [g1,g2]) (by rw [g1];exact hsm)
     rwa [e1] at this
    have HLN : Hid (∀ (w : World) (F : Nat → Prop) (h : (traceA X R tr2).at_ w F),Calls Tryz.prog 18 #[.pointer (some ⟨X,0,none⟩)] w fun e w'=>e = .returned (.int .i64 (th2.length : Nat)) ∧ Below w.heap.size w w'):=Lib.hid fun w F h=>by
     have:=tlen_calls X R tr2 w F h hsT.1
     rwa [lenQ_is HT.out.is HT.out.range,List.length_map] at this
    have HST : Hid (∀ (w : World) (F : Nat → Prop) (h : (traceA X R tr2).at_ w F),Calls Tryz.prog 20 #[.pointer (some ⟨X,0,none⟩)] w fun e w'=>∃ a c,e = .returned (.slice a ss.length c) ∧ St (fun _=>False) w w' [Mem.Own 50 State.cells 4 (.slice a ss.length c) ss]):=Lib.hid fun w F h=>by
     have:=tstates_calls X R tr2 w F h hsT.1
     rwa [hss] at this
    have HRS : Hid (∀ (a2 : Option Addr) (c2 : Nat) (d2 : List BatV) (g2 : d2.map (·.b) = sb) (w : World) (F1 F2 : Nat → Prop) (h1 : (Sl true Place.cells 5 (.slice aL2 c.lps.length cL2) c.lps).at_ w F1) (h2 : (Sl true BatV.cells 8 (.slice a2 th2.length c2) d2).at_ w F2),Calls Tryz.prog 21 #[.agg #[.slice aP2 c.programs.length cP2,.slice aL2 c.lps.length cL2,.slice aS2 c.starts.length cS2,.int .i64 c.fin,.int .i64 c.fuel,.int .i64 c.fan],.slice a2 th2.length c2] w (RstPost ss w)):=Lib.hid fun a2 c2 d2 g2 w F1 F2 h1 h2=>by
     have e1 : d2.length = th2.length:=by have:=congrArg List.length g2;rw [List.length_map] at this;omega
     have:=rstates20_calls (.slice aP2 c.programs.length cP2) (.slice aS2 c.starts.length cS2) (.int .i64 c.fin) (.int .i64 c.fuel) (.int .i64 c.fan) aL2 cL2 c.lps a2 c2 d2 w F1 F2 h1 (by rw [e1];exact h2) (by omega) (by omega) (fun b hb=>HT.out.range b (hsbm b (by rw [← g2];exact hb)))
     rwa [e1,g2,hssq] at this
    have HSE:=Lib.hid fun v1 v2 w F1 F2 h1 h2=>stseq9_calls v1 v2 ss w F1 F2 h1 h2 hssl
    have HOF : Hid (∀ (z : Int) (w : World) (F : Nat → Prop) (h : (traceA X R tr2).at_ w F),Calls Tryz.prog 22 #[.pointer (some ⟨X,0,none⟩),.int .i64 z] w (AllPost20 (ofV z th2).length (ofT (th2.map (·.b)) z) w)):=Lib.hid fun z w F h=>(tof_calls X R tr2 z w F h hsT.1).mono fun e w' g=>by
     have:=bats_all g
     rw [ofQ_is HT.out.is HT.out.range] at this
     rwa [show (ofV z th2).length = (ofT (th2.map (·.b)) z).length by rw [← ofV_b,List.length_map]]
    have HSM : Hid (∀ z,SmallB (ofT (th2.map (·.b)) z)):=Lib.hid fun z=>(HT.out.few.sub List.filter_sublist).small (by omega)
    clear hsT hss hsb hsbl hsbm hsm hssq hssl
    go_upto_region 20 with first | (go_at_call 17;refine Calls.mono (HSO.out _ _ (own_sl (sh:=true) bvcells (S.get (i:=1) rfl).choose_spec)) ?_;rintro e wz ⟨a6,c6,d6,rfl,hd6,hl6,hm6,T2⟩;have HD6:=Lib.hid hd6;have HM6:=Lib.hid fun x hx=>HTH.out x (hm6 x hx);clear hd6 hm6;replace S:=S.join T2 rfl;clear T2;simp only [cons_append,nil_append] at S)
    replace S:=S.pick [1,2,3,4,5,6,7,8,9,10,0] rfl
    simp only [pick,nth] at S
    have hl6b : d6.length = th2.length:=hl6
    clear hl6
    (refine wp_region_w (soft:=[0,2]) S ?hm ?hB ?_);(case hm=>kernel_rfl);(case hB=>decide +kernel);clear S
    iterate 2
     (with_reducible apply softs_cons)
     (case hw=>
       (with_reducible apply soft_of);(case hi=>rfl)
       intro T wz S
       simp only [cons_append,nil_append] at S
       go_wp2_with first | ((with_reducible refine tot_done ?ht ?_);(case ht=>kernel_rfl))
       exact ⟨rfl,S⟩)
     (case hs=>exact ⟨_,rfl,by kernel_rfl⟩)
    refine softs_nil ?_
    (with_reducible apply W_hard1 (i:=1));(case hn=>rfl);(case hr=>decide +kernel)
    intro wz S
    (with_reducible apply hard_of);(case hi=>rfl)
    simp only [cons_append,nil_append] at S
    go_wp2_with first | (go_at_call 12;refine Calls.mono (HAL.out _ _ (S.get (i:=0) rfl).choose_spec) ?_;rintro e wz ⟨a7,c7,d7,rfl,hd7,hl7,T2⟩;have HD7:=Lib.hid hd7;clear hd7 hl7;replace S:=S.join T2 rfl;clear T2;simp only [cons_append,nil_append] at S) | ((with_reducible refine tot_done ?ht ?_);(case ht=>kernel_rfl))
    refine ⟨_,S.pick [3,4,5,6,7,8,9,10,11,12,13,2,1,0] rfl,?_⟩
    clear S
    (with_reducible apply W_hard1 (i:=3));(case hn=>rfl);(case hr=>decide +kernel)
    intro wz S
    (with_reducible apply hard_of);(case hi=>rfl)
    simp only [cons_append,nil_append] at S
    go_wp2_with first | (go_at_call 11;refine Calls.mono (HSA.out a7 c7 d7 a6 c6 d6 HD7.out HD6.out _ _ _ _ _ _ _ (own_sl (sh:=true) bvcells (S.get (i:=13) rfl).choose_spec) (sls_sub true (S.get (i:=12) rfl).choose_spec (fun x hx=>hx)) (sls_sub true (S.get (i:=11) rfl).choose_spec (fun x hx=>hx)) (own_sl (sh:=true) bvcells (S.get (i:=10) rfl).choose_spec) (sls_sub true (S.get (i:=2) rfl).choose_spec HM6.out) (sls_sub true (S.get (i:=3) rfl).choose_spec HM6.out)) ?_;rintro e wz ⟨rfl,hE⟩;replace S:=S.ext (Keep.of_below hE);clear hE) | ((with_reducible refine tot_done ?ht ?_);(case ht=>kernel_rfl))
    refine ⟨_,S,?_⟩
    clear S
    (refine W_mid (f:=12) (soft:=[4,5,6,8,9]) rfl ?hB ?_);(case hB=>decide +kernel)
    iterate 5
     (with_reducible apply softs_cons)
     (case hw=>
       (with_reducible apply soft_of);(case hi=>rfl)
       intro T wz S
       simp only [cons_append,nil_append] at S
       go_wp2_with first | ((with_reducible refine tot_done ?ht ?_);(case ht=>kernel_rfl))
       exact ⟨rfl,S⟩)
     (case hs=>exact ⟨_,rfl,by kernel_rfl⟩)
    refine softs_nil ?_
    (with_reducible apply W_hard1 (i:=7));(case hn=>rfl);(case hr=>decide +kernel)
    intro wz S
    (with_reducible apply hard_of);(case hi=>rfl)
    simp only [cons_append,nil_append] at S
    go_wp2_with first | (go_at_call 18;refine Calls.mono (HLN.out _ _ (S.get (i:=0) rfl).choose_spec) ?_;rintro e wz ⟨rfl,hE⟩;replace S:=S.ext (Keep.of_below hE);clear hE) | ((with_reducible refine tot_done ?ht ?_);(case ht=>kernel_rfl))
    refine ⟨_,S,?_⟩
    clear S
    (refine W_mid (f:=5) (soft:=[10,11,12,13,15,16]) rfl ?hB ?_);(case hB=>decide +kernel)
    iterate 6
     (with_reducible apply softs_cons)
     (case hw=>
       (with_reducible apply soft_of);(case hi=>rfl)
       intro T wz S
       simp only [cons_append,nil_append] at S
       go_wp2_with first | ((with_reducible apply wps_loada (T:=34) (k:=6) S 7);(case hx|hi=>rfl);(case hk=>exact nle rfl);(case hT=>decide +kernel)) | ((with_reducible refine tot_done ?ht ?_);(case ht=>kernel_rfl))
       exact ⟨rfl,S⟩)
     (case hs=>exact ⟨_,rfl,by kernel_rfl⟩)
    refine softs_nil ?_
    (with_reducible apply W_hard1 (i:=14));(case hn=>rfl);(case hr=>decide +kernel)
    intro wz S
    (with_reducible apply hard_of);(case hi=>rfl)
    simp only [cons_append,nil_append] at S
    go_wp2_with first | (go_at_call 20;refine Calls.mono (HST.out _ _ (S.get (i:=0) rfl).choose_spec) ?_;rintro e wz ⟨a8,c8,rfl,T2⟩;replace S:=S.join T2 rfl;clear T2;simp only [cons_append,nil_append] at S) | ((with_reducible refine tot_done ?ht ?_);(case ht=>kernel_rfl))
    refine ⟨_,S.pick [1,2,3,4,5,6,7,8,9,10,11,12,13,14,0] rfl,?_⟩
    clear S
    (with_reducible apply W_hard1 (i:=17));(case hn=>rfl);(case hr=>decide +kernel)
    intro wz S
    (with_reducible apply hard_of);(case hi=>rfl)
    simp only [cons_append,nil_append] at S
    go_wp2_with first | (go_at_call 21;refine Calls.mono (HRS.out a6 c6 d6 HD6.out _ _ _ (S.get (i:=8) rfl).choose_spec (own_sl (sh:=true) bvcells (S.get (i:=10) rfl).choose_spec)) ?_;rintro e wz ⟨a9,c9,rfl,T2⟩;replace S:=S.join T2 rfl;clear T2;simp only [cons_append,nil_append] at S) | ((with_reducible refine tot_done ?ht ?_);(case ht=>kernel_rfl))
    refine ⟨_,S.pick [1,2,3,4,5,6,7,8,9,10,11,12,13,14,15,0] rfl,?_⟩
    clear S
    (with_reducible apply W_hard1 (i:=18));(case hn=>rfl);(case hr=>decide +kernel)
    intro wz S
    (with_reducible apply hard_of);(case hi=>rfl)
    simp only [cons_append,nil_append] at S
    go_wp2_with first | (go_at_call 19;refine Calls.mono (HSE.out _ _ _ _ _ (own_sl (sh:=true) sacells (S.get (i:=14) rfl).choose_spec) (own_sl (sh:=true) sacells (S.get (i:=15) rfl).choose_spec)) ?_;rintro e wz ⟨rfl,hE⟩;replace S:=S.ext (Keep.of_below hE);clear hE) | ((with_reducible refine tot_done ?ht ?_);(case ht=>kernel_rfl))
    refine ⟨_,S,?_⟩
    clear S
    (refine W_mid (f:=0) (soft:=[19,20]) rfl ?hB ?_);(case hB=>decide +kernel)
    iterate 2
     (with_reducible apply softs_cons)
     (case hw=>
       (with_reducible apply soft_of);(case hi=>rfl)
       intro T wz S
       simp only [cons_append,nil_append] at S
       go_wp2_with first | ((with_reducible refine tot_done ?ht ?_);(case ht=>kernel_rfl))
       exact ⟨rfl,S⟩)
     (case hs=>exact ⟨_,rfl,by kernel_rfl⟩)
    refine softs_nil ?_
    (with_reducible apply W_done);(case hn=>rfl);(case hr=>decide +kernel)
    intro wz S
    repeat (first | simp only at S | simp only [pick] at S | simp only [nth] at S | simp only [set_cons_succ] at S | simp only [set_cons_zero] at S | simp only [setIfInBounds_toArray] at S | simp only [setAll] at S | simp only [cons_append] at S | simp only [nil_append] at S | simp only [List.append_nil] at S)
    replace S:=S.pick [0,1,2,3,4,5,6,7,8,9] rfl
    simp only [pick,nth] at S
    clear HSO HAL HLN HST HRS HSE HD6 HM6
    have f1 : ((th2.length : Int) != (th2.length : Int)) = false:=by simp
    go_wp2_with first | ((with_reducible apply wps_loada (T:=67) (k:=8) S 0);(case hx|hi=>rfl);(case hk=>exact nle rfl);(case hT=>decide +kernel))
    have HS2 : Hid (∀ (z : Int) (a1 : Option Addr) (c1 : Nat) (d1 : List BatV) (a2 : Option Addr) (c2 : Nat) (g1 : d1.map (·.b) = ofT (th2.map (·.b)) z) (w : World) (F1 F2 F3 F4 F5 F6 : Nat → Prop) (h1 : (Sl true BatV.cells 8 (.slice a1 (ofV z th2).length c1) d1).at_ w F1) (h2 : (insA true d1).at_ w F2) (h3 : (outA true d1).at_ w F3)
     (h4 : (Sl true BatV.cells 8 (.slice a2 (ofV z th2).length c2) (ofV z th2)).at_ w F4) (h5 : (insA true (ofV z th2)).at_ w F5) (h6 : (outA true (ofV z th2)).at_ w F6),Calls Tryz.prog 11 #[.slice a1 (ofV z th2).length c1,.slice a2 (ofV z th2).length c2] w fun r w'=>r = .returned (.bool true) ∧ Below w.heap.size w w'):=Lib.hid fun z a1 c1 d1 a2 c2 g1 w F1 F2 F3 F4 F5 F6 h1 h2 h3 h4 h5 h6=>by
     have e1 : d1.length = (ofV z th2).length:=by have:=congrArg List.length g1;rw [List.length_map,← ofV_b,List.length_map] at this;exact this
     have:=tsame_calls a1 c1 d1 a2 c2 (ofV z th2) w F1 F2 F3 F4 F5 F6 (by rw [e1];exact h1) h2 h3 (by rw [e1];exact h4) h5 h6 (by rw [g1,ofV_b]) (by rw [g1];exact HSM.out z)
     rwa [e1] at this
    clear HSA HSM f1
    go_loopw [16] (fun i wr=>OfRel20 _ c.lps.length w i wr) (fun i _=>((c.lps.length : Int) + 1 - intOf i).toNat)
    case atStart=>exact ⟨0,-1,Nat.zero_le _,rfl,rfl,S⟩
    case round=>
     clear S
     obtain ⟨j,z,hj,hz,rfl,S⟩:=hrel
     by_cases hzt : z ≤ c.lps.length
     · have hjt : j + 1 ≤ c.lps.length + 2:=by omega
       have hz0 : -1 ≤ z:=by omega
       have HZ : Hid (z + 1 = ((j + 1 : Nat) : Int) - 1):=Lib.hid (by omega)
       clear hj hz
       go_wp2_with first | ((with_reducible apply wps_load S 7);(case hx|hi|hu=>rfl);(case hT=>decide +kernel))
       replace S:=S.nil 67 BatV.cells 8
       go_loopw [17,18] (fun v i wr=>OwnRel20 _ th2 z w v i wr) (fun _ i _=>th2.length - (intOf i).toNat)
       case atStart=>exact ⟨0,Nat.zero_le _,rfl,S⟩
       case round=>
        clear S
        obtain ⟨q,hq,rfl,S⟩:=hrel
        obtain ⟨ev,HEV⟩ : ∃ e,Hid (ofV z (th2.take q) = e):=⟨_,rfl⟩
        rw [HEV.out] at S
        have hevl : ev.length < 4294967296:=by
         have : (ofV z (th2.take q)).length ≤ (th2.take q).length:=List.length_filter_le _ _
         rw [HEV.out,List.length_take] at this;omega
        obtain ⟨ae,ce,rfl,_⟩:=(S.ownsl bvcells 0 rfl).elim fun _ h=>h.form
        by_cases hqt : q < th2.length
        · obtain ⟨x,hx⟩ : ∃ x,th2[q]? = some x:=⟨_,List.getElem?_eq_getElem hqt⟩
          have hqt2 : (q : Int) < th2.length:=by omega
          obtain ⟨Rr,crr,e⟩:=own_hd 2 S rfl (by omega)
          simp only [Value.slice.injEq] at e
          obtain ⟨rfl,_,rfl⟩:=e
          have HES:=Lib.hid (ofV_snoc (z:=z) hx)
          have HX:=Lib.hid hx
          clear hx
          obtain ⟨⟨xat,xlp,xins,xthn,xsent⟩,xai,xci,xao,xco⟩:=x
          by_cases hxz : xlp = z
          · have f4 : (xlp == z) = true:=by simpa using hxz
            have HE2 : Hid (ofV z (th2.take (q + 1)) = ev ++ [(⟨⟨xat,xlp,xins,xthn,xsent⟩,xai,xci,xao,xco⟩ : BatV)]):=Lib.hid (by rw [HES.out,HEV.out,if_pos hxz])
            clear hxz
            go_wp2_with first | ((with_reducible apply wps_load_own bvcells S 2 (hj:=HX.out) (q:=1) (u:=.int .i64 xlp));(case hx|hi=>rfl);(case hn=>omega);(case hu=>rfl);(case hT=>decide +kernel)) | ((with_reducible apply wps_loada_own bvcells S 2 (hj:=HX.out) (q:=0) (vs:=[.int .i64 (⟨⟨xat,xlp,xins,xthn,xsent⟩,xai,xci,xao,xco⟩:BatV).b.at_,.int .i64 (⟨⟨xat,xlp,xins,xthn,xsent⟩,xai,xci,xao,xco⟩:BatV).b.lp,(⟨⟨xat,xlp,xins,xthn,xsent⟩,xai,xci,xao,xco⟩:BatV).vi,.int .i64 (⟨⟨xat,xlp,xins,xthn,xsent⟩,xai,xci,xao,xco⟩:BatV).b.thn.n0,.int .i64 (⟨⟨xat,xlp,xins,xthn,xsent⟩,xai,xci,xao,xco⟩:BatV).b.thn.n1,.int .i64 (⟨⟨xat,xlp,xins,xthn,xsent⟩,xai,xci,xao,xco⟩:BatV).b.thn.n2,.int .i64 (⟨⟨xat,xlp,xins,xthn,xsent⟩,xai,xci,xao,xco⟩:BatV).b.thn.n3,(⟨⟨xat,xlp,xins,xthn,xsent⟩,xai,xci,xao,xco⟩:BatV).vo]) (m:=8));(case hx|hi=>rfl);(case hn=>omega);(case hm|hv=>rfl);(case hT=>decide +kernel)) | ((with_reducible apply wps_build1a (T:=45) (E:=67) S);(case hx=>rfl);(case hr=>intro w;kernel_rfl);clear S;intro bz wz S) | ((with_reducible apply wps_append1 elem_RBat bvcells bvone (by decide) S 1 (j:=0) (e:=(⟨⟨xat,xlp,xins,xthn,xsent⟩,xai,xci,xao,xco⟩ : BatV)));(case hx|hy|hi|hj|he=>rfl);(case hl=>omega);clear S;intro az nz cz wz hnz S;simp only [set_cons_succ,set_cons_zero] at S)
            go_roundw
            case rel=>
             refine ⟨q + 1,by omega,by go_num,?_⟩
             rw [HE2.out]
             exact S.pick [1,2,3,4,5,6,7,8,9,10,11] rfl
            case measure=>simp [intOf];omega
          · have f4 : (xlp == z) = false:=by simpa using hxz
            have HE2 : Hid (ofV z (th2.take (q + 1)) = ev):=Lib.hid (by rw [HES.out,HEV.out,if_neg hxz,List.append_nil])
            clear hxz
            go_wp2_with first | ((with_reducible apply wps_load_own bvcells S 2 (hj:=HX.out) (q:=1) (u:=.int .i64 xlp));(case hx|hi=>rfl);(case hn=>omega);(case hu=>rfl);(case hT=>decide +kernel))
            go_roundw
            case rel=>
             refine ⟨q + 1,by omega,by go_num,?_⟩
             rw [HE2.out]
             exact S
            case measure=>simp [intOf];omega
        · obtain rfl : q = th2.length:=by omega
          have hev:=HEV.out
          rw [List.take_length] at hev
          subst hev
          have HEM : Hid (∀ x ∈ ofV z th2,x ∈ la ++ lb):=Lib.hid fun x hx=>HTH.out x (List.mem_filter.1 hx).1
          clear hqt hq HEV
          go_wp2_with first | (go_at_call 22;refine Calls.mono (HOF.out z _ _ (S.get (i:=1) rfl).choose_spec) ?_;rintro e wz ⟨a7,c7,d7,rfl,hd7,hl7,T2⟩;have HD7:=Lib.hid hd7;clear hd7 hl7;replace S:=S.join T2 rfl;clear T2;simp only [cons_append,nil_append] at S) | (go_at_call 11;refine Calls.mono (HS2.out z a7 c7 d7 ae ce HD7.out _ _ _ _ _ _ _ (own_sl (sh:=true) bvcells (S.get (i:=0) rfl).choose_spec) (sls_sub true (S.get (i:=1) rfl).choose_spec (fun x hx=>hx)) (sls_sub true (S.get (i:=2) rfl).choose_spec (fun x hx=>hx)) (own_sl (sh:=true) bvcells (S.get (i:=3) rfl).choose_spec) (sls_sub true (S.get (i:=6) rfl).choose_spec HEM.out) (sls_sub true (S.get (i:=7) rfl).choose_spec HEM.out)) ?_;rintro e wz ⟨rfl,hE⟩;replace S:=S.ext (Keep.of_below hE);clear hE)
          go_roundw
          case rel=>exact ⟨j + 1,z + 1,hjt,HZ.out,by go_num,S.pick [4,5,6,7,8,9,10,11,12,13] rfl⟩
          case measure=>simp [intOf];omega
     · have hzt2 : decide (z ≤ (c.lps.length : Int)) = false:=decide_eq_false hzt
       clear hj hz
       go_wp2_with first | ((with_reducible apply wps_load S 7);(case hx|hi|hu=>rfl);(case hT=>decide +kernel))
       go_roundw
       case rel=>exact ⟨k + 1,tr2,th2,by omega,by go_num,HT,S⟩
       case measure=>simp [intOf];omega
  · obtain rfl : k = 2:=by omega
    clear hlt hk HT
    go_wp2_with first | (go_at_call 8;refine Calls.mono (awake20_calls _ _ (S.get (i:=9) rfl).choose_spec) ?_;rintro e wz ⟨rfl,hE⟩;replace S:=S.ext (Keep.of_below hE);clear hE)
    go_ret
    exact ⟨rfl,S.below⟩
end Go.Proofs.YtcnfionnnpnplaaGreatDoor
