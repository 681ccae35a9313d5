import Derived.Test.YtcnfionnnpnplaaGreatDoorZ25
import Derived.Deep.Cut
import Derived.Test.YtcnfionnnpnplaaGreatDoorZ27
import Derived.Test.YtcnfionnnpnplaaGreatDoorZ17
import Derived.Test.YtcnfionnnpnplaaGreatDoorZ14
/- The walk of a simulation's Step. -/
set_option maxHeartbeats 16000000
set_option maxRecDepth 100000
namespace Go.Proofs.YtcnfionnnpnplaaGreatDoor
open Go Go.RowKit Reg Mem
open List (set_cons_succ set_cons_zero setIfInBounds_toArray cons_append nil_append)
theorem tE_cells : tE = Event.cells:=rfl
def batchVal (b : BatE) (vi vs : Value) : Value:=.agg #[.int .i64 b.at_,.int .i64 b.lp,vi,.int .i64 b.thn.n0,.int .i64 b.thn.n1,.int .i64 b.thn.n2,.int .i64 b.thn.n3,vs]
def zeroBatch : Value:=.agg #[.int .i64 0,.int .i64 0,.slice none 0 0,.int .i64 0,.int .i64 0,.int .i64 0,.int .i64 0,.slice none 0 0]
def SStepPost (F : Nat → Prop) (X R : Nat) (c : Cfg) (s : SimE) (w : World) (e : Ending) (w' : World) : Prop:=
 (simStep c s = none ∧ e = .returned (.tuple #[zeroBatch,.bool false]) ∧ St F w w' [simA X R s]) ∨
 (∃ b s' vi vs,simStep c s = some (b,s') ∧ e = .returned (.tuple #[batchVal b vi vs,.bool true]) ∧ St F w w' [simA X R s',Own 56 Event.cells 7 vi b.ins,Own 56 Event.cells 7 vs b.sent])
theorem step_some (X R : Nat) (vs hs : List Value) (c : Cfg) (s : SimE) (n : Nat) (a : Int) (lp : Nat) (w : World) (F : Nat → Prop) (S0 : St F w w [simA X R s,ModA true 128 R vs hs c,Tab]) (hc : cfgE c = 0) (hok : SimOk c s) (hB : SimB s.ws s.many n) (hn : n ≤ 65536)
 (hx : nextE s.ws = some (a,lp)) : Calls Tryz.prog 73 #[.pointer (some ⟨X,0,none⟩)] w (SStepPost F X R c s w):=by
 have hf:=cfg_isfine hc
 have S:=S0
 clear S0
 have hn1 : s.ws.length ≤ 65536:=by have:=hf.sizes;unfold sizesOk at this;have:=hok.len;omega
 have hn0 : 0 < s.ws.length:=by have:=hf.sizes;unfold sizesOk at this;have:=hok.len;omega
 have HN : Hid (∀ w F,(simA X R s).at_ w F → Calls Tryz.prog 72 #[.pointer (some ⟨X,0,none⟩)] w fun e w'=>e = .returned (.tuple #[.int .i64 a,.int .i64 lp,.bool true]) ∧ Below w.heap.size w w'):=Lib.hid fun w F h=>by
  have:=next_calls X R s w F h hn1 hn0
  rw [hx] at this
  exact this
 obtain ⟨hwr,hat,ha0,ha1,hlp⟩:=ins_fine hok hx
 obtain ⟨r,t,hw,hra⟩:=next_is hx
 subst hra
 have hhA : hAt s lp = r :: t:=by unfold hAt;rw [hw];rfl
 have hsr : HSorted (r :: t):=(hok.each lp _ hw).1
 have hlen1 : (r :: t).length ≤ n:=hB.each _ (List.mem_of_getElem? hw)
 have hlenT : (toldE s r.key.at_ lp).length ≤ n:=by
  unfold toldE;rw [List.length_map,hhA];exact Nat.le_trans (List.takeWhile_sublist _).length_le hlen1
 have HST : Hid (s.ss[lp]? = some (stOf s lp)):=Lib.hid (by
  have : lp < s.ss.length:=by rw [hok.lens];exact hlp
  unfold stOf;rw [List.getElem?_eq_getElem this];rfl)
 have hbl:=batch_len c lp (stOf s lp) (toldE s r.key.at_ lp) (by have:=hf.sizes;unfold sizesOk at this;omega)
 have hse:=batch_sent c lp (stOf s lp) (toldE s r.key.at_ lp)
 have hat2 : 0 ≤ atE (toldE s r.key.at_ lp) ∧ atE (toldE s r.key.at_ lp) ≤ 1073741824:=by rw [hat];have:=hf.sizes;unfold sizesOk at this;omega
 have HEQ : Hid (simStep c s = some (⟨r.key.at_,lp,toldE s r.key.at_ lp,(batchC c lp (stOf s lp) (toldE s r.key.at_ lp)).1,(batchC c lp (stOf s lp) (toldE s r.key.at_ lp)).2⟩,
  putE ⟨s.ws.set lp ((hAt s lp).dropWhile (same_at r.key.at_)),s.ss.set lp (batchC c lp (stOf s lp) (toldE s r.key.at_ lp)).1,s.many - (toldE s r.key.at_ lp).length,s.peak⟩ (batchC c lp (stOf s lp) (toldE s r.key.at_ lp)).2)):=Lib.hid (by unfold simStep;rw [hx])
 have HR : Hid (∀ (v : Value) (w : World) (F F2 F3 : Nat → Prop),(ModA true 128 R vs hs c).at_ w F → (Sl true Event.cells 7 v (toldE s r.key.at_ lp)).at_ w F2 → Tab.at_ w F3 → Calls Tryz.prog 65 #[.pointer (some ⟨R,0,none⟩),.int .i64 lp,.agg #[.int .i64 (stOf s lp).n0,.int .i64 (stOf s lp).n1,.int .i64 (stOf s lp).n2,.int .i64 (stOf s lp).n3],v] w fun e w'=>
  ∃ v',e = .returned (.tuple #[.agg #[.int .i64 ((batchC c lp (stOf s lp) (toldE s r.key.at_ lp)).1).n0,.int .i64 ((batchC c lp (stOf s lp) (toldE s r.key.at_ lp)).1).n1,.int .i64 ((batchC c lp (stOf s lp) (toldE s r.key.at_ lp)).1).n2,.int .i64 ((batchC c lp (stOf s lp) (toldE s r.key.at_ lp)).1).n3],v',.int .i64 0]) ∧ St (fun _=>False) w w' [Own 56 Event.cells 7 v' (batchC c lp (stOf s lp) (toldE s r.key.at_ lp)).2]):=Lib.hid fun v w F F2 F3 h h2 h3=>by
  refine (brun_calls R vs hs c lp (stOf s lp) v (toldE s r.key.at_ lp) w F F2 F3 h h2 h3 (by omega) hc fun _=>hat2).mono fun e w' hp=>?_
  rcases hp with ⟨h,_⟩ | ⟨_,h⟩
  · exact absurd hwr h
  · exact h
 have HB2 : Hid (SimB (s.ws.set lp ((hAt s lp).dropWhile (same_at r.key.at_))) (s.many - (toldE s r.key.at_ lp).length) (2 * n)):=Lib.hid ⟨by have:=hB.lo;omega,by have:=hB.hi;omega,fun h hh=>by
  rcases List.mem_or_eq_of_mem_set hh with hh | rfl
  · exact Nat.le_trans (hB.each h hh) (by omega)
  · rw [hhA];exact Nat.le_trans (List.dropWhile_sublist _).length_le (by omega)⟩
 have HDST : Hid (∀ x ∈ (batchC c lp (stOf s lp) (toldE s r.key.at_ lp)).2,0 ≤ x.dst ∧ x.dst < (s.ws.set lp ((hAt s lp).dropWhile (same_at r.key.at_))).length):=Lib.hid fun x hx=>by
  obtain ⟨i,hi,he⟩:=List.mem_iff_getElem.1 hx
  have:=hse.each i x (by rw [List.getElem?_eq_getElem hi,he])
  rw [List.length_set,hok.len]
  exact ⟨this.2.2.2.2.2.1,this.2.2.2.2.2.2⟩
 have hn2 : 2 * n + (batchC c lp (stOf s lp) (toldE s r.key.at_ lp)).2.length ≤ 1073741824:=by
  have h8 : c.fan ≤ 8:=by have:=hf.sizes;unfold sizesOk at this;omega
  have h9 : c.fan * ((toldE s r.key.at_ lp).length : Int) ≤ 8 * (toldE s r.key.at_ lp).length:=Int.mul_le_mul_of_nonneg_right h8 (by omega)
  omega
 have hlps : lp < s.ss.length:=by rw [hok.lens];exact hlp
 have hlpw : lp < s.ws.length:=by rw [hok.len];exact hlp
 have hm0 : -65536 ≤ s.many:=by have:=hB.lo;omega
 have hm1 : s.many ≤ 65536:=by have:=hB.hi;omega
 have htn : ((toldE s r.key.at_ lp).length : Int) ≤ 65536:=by omega
 have HSR:=Lib.hid hsr
 have hlen4 : (r :: t).length ≤ 4294967296:=by omega
 have HH:=Lib.hid hw
 have HHA:=Lib.hid hhA
 have HTO : Hid (toldE s r.key.at_ lp = ((r :: t).takeWhile (same_at r.key.at_)).map (·.v)):=Lib.hid (by unfold toldE;rw [hhA])
 generalize hbt : batchC c lp (stOf s lp) (toldE s r.key.at_ lp) = bt at *
 obtain ⟨s2,out⟩:=bt
 generalize hto : toldE s r.key.at_ lp = told at *
 simp only at HR HB2 HDST hn2 HEQ
 rw [HHA.out] at HB2 HDST HEQ
 clear hx hwr hat hse hbl hbt hto hw hhA hok hB hf hc hat2 hsr hlen1
 go_enter Tryz.func73,Tryz.ntmps73
 go_upto_region 4 with first | (go_at_call 72;refine Calls.mono (HN.out _ _ (S.get (i:=1) rfl).choose_spec) ?_;rintro e wz ⟨rfl,hE⟩;replace S:=S.ext (Keep.of_below hE);clear hE) | ((with_reducible apply wps_alloca (E:=52) S);(case hz=>exact Tryz.zeroValue52);clear S;intro bz wz S)
 replace S:=S.pick [1,0,2,3] rfl
 simp only [pick,nth] at S
 obtain ⟨v1,v2,Bs,hlen,S2⟩:=sim_open S
 clear S
 have S:=S2
 clear S2
 obtain ⟨RB,cB,rfl⟩:=own_hd 1 S rfl (by omega)
 have hlpB : (lp : Int) < Bs.length:=by omega
 obtain ⟨B,hBd⟩ : ∃ B,Bs[lp]? = some B:=⟨_,List.getElem?_eq_getElem (by omega)⟩
 have HK:=Lib.hid (zipWith_at hBd HH.out)
 have HZ:=Lib.hid fun h'=>zipWith_put (ws:=s.ws) (h:=h') hBd
 have HLEN:=Lib.hid hlen
 have HBd:=Lib.hid hBd
 clear hBd
 clear hlen
 go_upto_region 5 with first | ((with_reducible apply wps_load_own hpElen S 1 (hj:=HBd.out) (q:=0) (u:=(.pointer (some ⟨B,0,none⟩))));(case hx|hi=>rfl);(case hn=>omega);(case hu=>rfl);(case hT=>decide +kernel)) | (go_at_call 104;obtain ⟨Fz,hF,hBk⟩:=S.starLend 0 rfl _ HK.out;refine Calls.mono (hbatch_some B r t _ _ hF HSR.out hlen4) ?_;rintro e wz ⟨v,rfl,T⟩;replace S:=hBk _ _ rfl (T.close_sep rfl rfl);clear hBk hF T;simp only [set_cons_zero] at S) | ((with_reducible apply wps_load S 3);(case hx|hi|hu=>rfl);(case hT=>decide +kernel))
 replace S:=S.starTake (List.getElem?_set_self (List.getElem?_eq_some_iff.1 HK.out).1) rfl
 rw [List.set_set,HZ.out,tE_cells,← HTO.out] at S
 obtain ⟨av,cv,rfl,_⟩:=(S.ownsl ecells 1 rfl).elim fun _ h=>h.form
 replace S:=S.pick [0,2,3,4,5,6,7,1] rfl
 simp only [pick,nth] at S
 go_upto_region 6 with first | ((with_reducible apply wps_store (u:=(.int .i64 (s.many - told.length))) S 3);(case hx|hy|hi|h1=>rfl);(case hn=>exact nle rfl);(case hT=>decide +kernel);clear S;intro wz S;simp only [set_cons_succ,set_cons_zero,setIfInBounds_toArray] at S) | ((with_reducible apply wps_load S 3);(case hx|hi|hu=>rfl);(case hT=>decide +kernel))
 (refine wp_region_w (soft:=[0,1,2,3,4,5,6,7,8,9,10]) S ?hm ?hB ?_);(case hm=>kernel_rfl);(case hB=>decide +kernel);clear S
 iterate 11
  (with_reducible apply softs_cons)
  (case hw=>
    (with_reducible apply soft_of);(case hi=>rfl)
    intro T wz S
    simp only [cons_append,nil_append] at S
    go_wp2_with first | (go_at_call 105;refine Calls.mono (of_calls X _ _ _ _ _ s.ss lp (stOf s lp) _ _ _ (S.get (i:=3) rfl).choose_spec (S.get (i:=2) rfl).choose_spec HST.out) ?_;rintro e wz ⟨rfl,hE⟩;replace S:=S.ext (Keep.of_below hE);clear hE) | ((with_reducible refine tot_done ?ht ?_);(case ht=>kernel_rfl)) | ((with_reducible apply wps_load S 3);(case hx|hi|hu=>rfl);(case hT=>decide +kernel))
    exact ⟨rfl,S⟩)
  (case hs=>exact ⟨_,rfl,by kernel_rfl⟩)
 refine softs_nil ?_
 (with_reducible apply W_hard2 (i:=11) (i':=16));(case hn=>rfl);(case hr=>decide +kernel)
 focus
  intro wz S
  (with_reducible apply hard_of);(case hi=>rfl)
  simp only [cons_append,nil_append] at S
  go_wp2_with first | (go_at_call 65;refine Calls.mono (HR.out _ _ _ _ _ (S.get (i:=5) rfl).choose_spec (own_sl (sh:=true) ecells (S.get (i:=7) rfl).choose_spec) (S.get (i:=6) rfl).choose_spec) ?_;rintro e wz ⟨vs2,rfl,T⟩;replace S:=S.join T rfl;clear T;simp only [cons_append,nil_append] at S) | ((with_reducible refine tot_done ?ht ?_);(case ht=>kernel_rfl))
  refine ⟨_,S.pick [1,2,3,4,5,6,7,8,0] rfl,?_⟩
  clear S
  (refine W_mid (f:=4) (soft:=[12,13,14,15]) rfl ?hB ?_);(case hB=>decide +kernel)
  iterate 4
   (with_reducible apply softs_cons)
   (case hw=>
     (with_reducible apply soft_of);(case hi=>rfl)
     intro T wz S
     simp only [cons_append,nil_append] at S
     go_wp2_with first | ((with_reducible refine tot_done ?ht ?_);(case ht=>kernel_rfl))
     exact ⟨rfl,S⟩)
   (case hs=>exact ⟨_,rfl,by kernel_rfl⟩)
  refine softs_nil ?_
  (with_reducible apply W_hard1 (i:=16));(case hn=>rfl);(case hr=>decide +kernel)
  intro wz S
  (with_reducible apply hard_of);(case hi=>rfl)
  simp only [cons_append,nil_append] at S
  go_wp2_with first | ((with_reducible apply wps_alloca (E:=50) S);(case hz=>exact Tryz.zeroValue50);clear S;intro b10 wz S) | ((with_reducible refine tot_done ?ht ?_);(case ht=>kernel_rfl))
  refine ⟨_,S.pick [1,2,3,4,5,6,7,8,9,0] rfl,?_⟩
  clear S
  (with_reducible apply W_hard1 (i:=17));(case hn=>rfl);(case hr=>decide +kernel)
  intro wz S
  (with_reducible apply hard_of);(case hi=>rfl)
  simp only [cons_append,nil_append] at S
  go_wp2_with first | ((with_reducible apply wps_storea (T:=50) S 9 (vs:=[.int .i64 s2.n0,.int .i64 s2.n1,.int .i64 s2.n2,.int .i64 s2.n3]) (m:=4));(case hx|hy|hi|hm|h1=>rfl);(case hn=>exact nle rfl);(case hT=>decide +kernel);clear S;intro wz S;simp only [set_cons_zero,set_cons_succ,setAll,setIfInBounds_toArray] at S) | ((with_reducible refine tot_done ?ht ?_);(case ht=>kernel_rfl))
  refine ⟨_,S,?_⟩
  clear S
  (refine W_mid (f:=0) (soft:=[18,19]) rfl ?hB ?_);(case hB=>decide +kernel)
  iterate 2
   (with_reducible apply softs_cons)
   (case hw=>
     (with_reducible apply soft_of);(case hi=>rfl)
     intro T wz S
     simp only [cons_append,nil_append] at S
     go_wp2_with first | ((with_reducible refine tot_done ?ht ?_);(case ht=>kernel_rfl))
     exact ⟨rfl,S⟩)
   (case hs=>exact ⟨_,rfl,by kernel_rfl⟩)
  refine softs_nil ?_
  (with_reducible apply W_done);(case hn=>rfl);(case hr=>decide +kernel)
  intro wz S
  repeat (first | simp only at S | simp only [pick] at S | simp only [nth] at S | simp only [set_cons_succ] at S | simp only [set_cons_zero] at S | simp only [setIfInBounds_toArray] at S | simp only [setAll] at S | simp only [cons_append] at S | simp only [nil_append] at S | simp only [List.append_nil] at S)
 rotate_left 1
 focus
  intro wz S
  (with_reducible apply hard_of);(case hi=>rfl)
  simp only [cons_append,nil_append] at S
  go_wp2_with first | ((with_reducible apply wps_alloca (E:=50) S);(case hz=>exact Tryz.zeroValue50);clear S;intro b10 wz S) | ((with_reducible refine tot_done ?ht ?_);(case ht=>kernel_rfl))
  refine ⟨_,S.pick [1,2,3,4,5,6,7,8,0] rfl,?_⟩
  clear S
  (with_reducible apply W_hard1 (i:=11));(case hn=>rfl);(case hr=>decide +kernel)
  intro wz S
  (with_reducible apply hard_of);(case hi=>rfl)
  simp only [cons_append,nil_append] at S
  go_wp2_with first | (go_at_call 65;refine Calls.mono (HR.out _ _ _ _ _ (S.get (i:=5) rfl).choose_spec (own_sl (sh:=true) ecells (S.get (i:=7) rfl).choose_spec) (S.get (i:=6) rfl).choose_spec) ?_;rintro e wz ⟨vs2,rfl,T⟩;replace S:=S.join T rfl;clear T;simp only [cons_append,nil_append] at S) | ((with_reducible refine tot_done ?ht ?_);(case ht=>kernel_rfl))
  refine ⟨_,S.pick [1,2,3,4,5,6,7,8,0,9] rfl,?_⟩
  clear S
  (refine W_mid (f:=3) (soft:=[12,13,14,15]) rfl ?hB ?_);(case hB=>decide +kernel)
  iterate 4
   (with_reducible apply softs_cons)
   (case hw=>
     (with_reducible apply soft_of);(case hi=>rfl)
     intro T wz S
     simp only [cons_append,nil_append] at S
     go_wp2_with first | ((with_reducible refine tot_done ?ht ?_);(case ht=>kernel_rfl))
     exact ⟨rfl,S⟩)
   (case hs=>exact ⟨_,rfl,by kernel_rfl⟩)
  refine softs_nil ?_
  (with_reducible apply W_hard1 (i:=17));(case hn=>rfl);(case hr=>decide +kernel)
  intro wz S
  (with_reducible apply hard_of);(case hi=>rfl)
  simp only [cons_append,nil_append] at S
  go_wp2_with first | ((with_reducible apply wps_storea (T:=50) S 9 (vs:=[.int .i64 s2.n0,.int .i64 s2.n1,.int .i64 s2.n2,.int .i64 s2.n3]) (m:=4));(case hx|hy|hi|hm|h1=>rfl);(case hn=>exact nle rfl);(case hT=>decide +kernel);clear S;intro wz S;simp only [set_cons_zero,set_cons_succ,setAll,setIfInBounds_toArray] at S) | ((with_reducible refine tot_done ?ht ?_);(case ht=>kernel_rfl))
  refine ⟨_,S,?_⟩
  clear S
  (refine W_mid (f:=0) (soft:=[18,19]) rfl ?hB ?_);(case hB=>decide +kernel)
  iterate 2
   (with_reducible apply softs_cons)
   (case hw=>
     (with_reducible apply soft_of);(case hi=>rfl)
     intro T wz S
     simp only [cons_append,nil_append] at S
     go_wp2_with first | ((with_reducible refine tot_done ?ht ?_);(case ht=>kernel_rfl))
     exact ⟨rfl,S⟩)
   (case hs=>exact ⟨_,rfl,by kernel_rfl⟩)
  refine softs_nil ?_
  (with_reducible apply W_done);(case hn=>rfl);(case hr=>decide +kernel)
  intro wz S
  repeat (first | simp only at S | simp only [pick] at S | simp only [nth] at S | simp only [set_cons_succ] at S | simp only [set_cons_zero] at S | simp only [setIfInBounds_toArray] at S | simp only [setAll] at S | simp only [cons_append] at S | simp only [nil_append] at S | simp only [List.append_nil] at S)
 all_goals
  replace S:=sim_close (s:=⟨s.ws.set lp ((r :: t).dropWhile (same_at r.key.at_)),s.ss,s.many - told.length,s.peak⟩) (by rw [List.length_set];exact HLEN.out) S
  obtain ⟨ao,co,rfl,_⟩:=(S.ownsl ecells 5 rfl).elim fun _ h=>h.form
  go_wp2_with first | (go_at_call 106;obtain ⟨Fz,hF,hBk⟩:=S.lend1 0 rfl rfl;refine Calls.mono (become_calls _ R _ lp s2 _ _ hF hlps) ?_;rintro e wz ⟨rfl,T⟩;replace S:=hBk _ _ rfl T;clear hBk hF T;simp only [set_cons_zero] at S) | (go_at_call 71;obtain ⟨Fz,hF,hBk⟩:=S.lendR 0 5 rfl rfl (by decide) rfl rfl (fun _ h=>own_sl (sh:=true) ecells h);refine Calls.mono (put_calls X R _ _ _ (2 * n) _ _ hF HB2.out hn2 HDST.out) ?_;rintro e wz ⟨rfl,T⟩;replace S:=hBk _ _ rfl T;clear hBk hF T;simp only [set_cons_zero] at S) | ((with_reducible apply wps_storea (T:=52) S 1 (vs:=[.int .i64 r.key.at_,.int .i64 lp,.slice av told.length cv,.int .i64 s2.n0,.int .i64 s2.n1,.int .i64 s2.n2,.int .i64 s2.n3,.slice ao out.length co]) (m:=8));(case hx|hy|hi|hm|h1=>rfl);(case hn=>exact nle rfl);(case hT=>decide +kernel);clear S;intro wz S;simp only [set_cons_zero,set_cons_succ,setAll,setIfInBounds_toArray] at S) | ((with_reducible refine tot_done ?ht ?_);(case ht=>kernel_rfl)) | ((with_reducible apply wps_text S);(case hm=>kernel_rfl);(case hB=>decide +kernel);clear S;intro wz S) | ((with_reducible apply wps_loada (T:=50) (k:=4) S 6);(case hx|hi=>rfl);(case hk=>exact nle rfl);(case hT=>decide +kernel))
  (try simp only [Exit.inBlock,Exit.then]);refine bodyPost_ret (results2 rfl (S.resA 1 rfl rfl (by kernel_rfl)) (res_tmp rfl)) rfl ?_
  exact .inr ⟨_,_,_,_,HEQ.out,rfl,S.pick [0,4,5] rfl⟩
end Go.Proofs.YtcnfionnnpnplaaGreatDoor
/- The walks of a simulation's Until and States, and of seq.All. -/
namespace Go.Proofs.YtcnfionnnpnplaaGreatDoor
open Go Go.RowKit Reg Mem
open List (set_cons_succ set_cons_zero setIfInBounds_toArray cons_append nil_append)
def untilE (c : Cfg) (t : Int) : Nat → SimE → Option (List BatE × SimE)
 | 0,s=>match nextE s.ws with
   | none=>some ([],s)
   | some p=>if t ≤ p.1 then some ([],s) else none
 | k + 1,s=>match nextE s.ws with
   | none=>some ([],s)
   | some p=>if t ≤ p.1 then some ([],s) else
     match simStep c s with
     | none=>some ([],s)
     | some q=>(untilE c t k q.2).map fun r=>(q.1 :: r.1,r.2)
def fitsE (c : Cfg) (t : Int) (n : Nat) : Nat → SimE → Bool
 | 0,s=>decide (-(n : Int) ≤ s.many ∧ s.many ≤ n ∧ ∀ h ∈ s.ws,h.length ≤ n)
 | k + 1,s=>decide (-(n : Int) ≤ s.many ∧ s.many ≤ n ∧ ∀ h ∈ s.ws,h.length ≤ n) &&
    match simStep c s with
    | none=>true
    | some q=>match nextE s.ws with
      | none=>true
      | some p=>if t ≤ p.1 then true else fitsE c t n k q.2
theorem fits_b {c : Cfg} {t : Int} {n k : Nat} {s : SimE} (h : fitsE c t n k s = true) : SimB s.ws s.many n:=by
 cases k with
 | zero=>simp only [fitsE,decide_eq_true_eq] at h;exact ⟨h.1,h.2.1,h.2.2⟩
 | succ k=>simp only [fitsE,Bool.and_eq_true,decide_eq_true_eq] at h;exact ⟨h.1.1,h.1.2.1,h.1.2.2⟩
theorem step_next {c : Cfg} {s : SimE} {p : Int × Nat} (h : nextE s.ws = some p) : ∃ q,simStep c s = some q:=by
 unfold simStep;rw [h];exact ⟨_,rfl⟩
def batsL (v : Value) (l : List BatV) : List Asn:=[Own 52 BatV.cells 8 v l,Sls false Event.cells 7 (l.map (·.vi)) (l.map (·.b.ins)),Sls false Event.cells 7 (l.map (·.vo)) (l.map (·.b.sent))]
def UntilRel (F : Nat → Prop) (X R : Nat) (vs hs : List Value) (c : Cfg) (t : Int) (n most : Nat) (bs : List BatE) (s' : SimE) (w : World) (v : Value) (wr : World) : Prop:=
 ∃ (k : Nat) (s1 : SimE) (l : List BatV) (rest : List BatE),Hid (untilE c t k s1 = some (rest,s')) ∧ Hid (fitsE c t n k s1 = true) ∧ Hid (l.map (·.b) ++ rest = bs) ∧ Hid (k + l.length = most) ∧ Hid (SimOk c s1) ∧
  St F w wr [simA X R s1,Own 52 BatV.cells 8 v l,Sls false Event.cells 7 (l.map (·.vi)) (l.map (·.b.ins)),Sls false Event.cells 7 (l.map (·.vo)) (l.map (·.b.sent)),ModA true 128 R vs hs c,Tab]
def UntilPost (F : Nat → Prop) (X R : Nat) (bs : List BatE) (s' : SimE) (w : World) (e : Ending) (w' : World) : Prop:=
 ∃ a cp l,e = .returned (.tuple #[.slice a bs.length cp,.int .i64 0]) ∧ l.map (·.b) = bs ∧
  St F w w' [simA X R s',Own 52 BatV.cells 8 (.slice a bs.length cp) l,Sls false Event.cells 7 (l.map (·.vi)) (l.map (·.b.ins)),Sls false Event.cells 7 (l.map (·.vo)) (l.map (·.b.sent))]
theorem until_calls (X R : Nat) (vs hs : List Value) (c : Cfg) (s s' : SimE) (t : Int) (n most : Nat) (bs : List BatE) (w : World) (F : Nat → Prop) (S0 : St F w w [simA X R s,ModA true 128 R vs hs c,Tab]) (hc : cfgE c = 0) (hok : SimOk c s)
 (hn : n ≤ 65536) (hm : most ≤ 65536) (hu : untilE c t most s = some (bs,s')) (hft : fitsE c t n most s = true) :
 Calls Tryz.prog 48 #[.pointer (some ⟨X,0,none⟩),.int .i64 t,.int .i64 most] w (UntilPost F X R bs s' w):=by
 have S:=S0
 clear S0
 have HF:=Lib.hid (cfg_isfine hc)
 have HC:=Lib.hid hc
 have Hu:=Lib.hid hu
 have Hft:=Lib.hid hft
 have Hok:=Lib.hid hok
 clear hu hft hok
 clear hc
 have hm0 : ¬ ((most : Int) < 0):=by omega
 have hm2 : (most : Int) ≤ 65536:=by omega
 go_enter Tryz.func48,Tryz.ntmps48
 go_wp2_with first | ((with_reducible apply wps_loada (T:=52) (k:=8) S 3);(case hx|hi=>rfl);(case hk=>exact nle rfl);(case hT=>decide +kernel))
 go_loopw [8] (fun v wr=>UntilRel F X R vs hs c t n most bs s' w v wr) (fun v _=>most - slen v)
 case atStart=>
  exact ⟨most,s,[],bs,Hu,Hft,rfl,rfl,Hok,(((S.slsNil Event.cells 7).slsNil Event.cells 7).nil 52 BatV.cells 8).pick [3,0,1,2,4,5] rfl⟩
 case round=>
  clear S
  obtain ⟨k,s1,l,rest,HU,HT,HB,HK,HOK,S⟩:=hrel
  obtain ⟨al,cl,rfl,_⟩:=(S.ownsl bvcells 1 rfl).elim fun _ h=>h.form
  have hs1 : s1.ws.length = c.lps.length:=HOK.out.len
  have hl1 : s1.ws.length ≤ 65536:=by have:=HF.out.sizes;unfold sizesOk at this;omega
  have hl0 : 0 < s1.ws.length:=by have:=HF.out.sizes;unfold sizesOk at this;omega
  have HNC:=Lib.hid fun (w : World) (F : Nat → Prop) (h : (simA X R s1).at_ w F)=>next_calls X R s1 w F h hl1 hl0
  clear hs1 hl1 hl0
  have endit : rest = [] → s' = s1 → ∀ wr,St F w wr [simA X R s1,Own 52 BatV.cells 8 (.slice al l.length cl) l,Sls false Event.cells 7 (l.map (·.vi)) (l.map (·.b.ins)),Sls false Event.cells 7 (l.map (·.vo)) (l.map (·.b.sent)),ModA true 128 R vs hs c,Tab] →
   UntilPost F X R bs s' w (.returned (.tuple #[.slice al l.length cl,.int .i64 0])) wr:=fun e1 e2 wr S=>by
   subst e1;subst e2
   have hb:=HB.out
   rw [List.append_nil] at hb
   have hbl : bs.length = l.length:=by rw [← hb,List.length_map]
   exact ⟨al,cl,l,by rw [hbl],hb,by rw [hbl];exact S.pick [0,1,2,3] rfl⟩
  have ENDIT:=Lib.hid endit
  clear endit
  cases hx : nextE s1.ws with
  | none=>
    have he : rest = [] ∧ s' = s1:=by
     have:=HU.out
     cases k <;> (simp only [untilE,hx,Option.some.injEq,Prod.mk.injEq] at this;exact ⟨this.1.symm,this.2.symm⟩)
    rw [hx] at HNC
    simp only [optAt,optLp,Option.isSome_none] at HNC
    have HE:=Lib.hid he
    clear he hx
    go_wp2_with first | (go_at_call 72;refine Calls.mono (HNC.out _ _ (S.get (i:=0) rfl).choose_spec) ?_;rintro e wz ⟨rfl,hE⟩;replace S:=S.ext (Keep.of_below hE);clear hE)
    (try simp only [Exit.inBlock,Exit.then]);refine bodyPost_ret (results2 rfl (res_tmp rfl) (res_tmp rfl)) rfl ?_
    exact ENDIT.out HE.out.1 HE.out.2 _ S
  | some p=>
    obtain ⟨a,lp⟩:=p
    rw [hx] at HNC
    simp only [optAt,optLp,Option.isSome_some] at HNC
    by_cases hta : t ≤ a
    · have he : rest = [] ∧ s' = s1:=by
       have:=HU.out
       cases k <;> (simp only [untilE,hx,if_pos hta,Option.some.injEq,Prod.mk.injEq] at this;exact ⟨this.1.symm,this.2.symm⟩)
      have HE:=Lib.hid he
      clear he hx
      go_wp2_with first | (go_at_call 72;refine Calls.mono (HNC.out _ _ (S.get (i:=0) rfl).choose_spec) ?_;rintro e wz ⟨rfl,hE⟩;replace S:=S.ext (Keep.of_below hE);clear hE)
      (try simp only [Exit.inBlock,Exit.then]);refine bodyPost_ret (results2 rfl (res_tmp rfl) (res_tmp rfl)) rfl ?_
      exact ENDIT.out HE.out.1 HE.out.2 _ S
    · obtain ⟨k,rfl⟩ : ∃ k',k = k' + 1:=by
       cases k with
       | zero=>have:=HU.out;simp [untilE,hx,hta] at this
       | succ k=>exact ⟨k,rfl⟩
      obtain ⟨⟨b,s2⟩,hq⟩:=step_next (c:=c) hx
      obtain ⟨rest2,rfl,HU2⟩ : ∃ r2,rest = b :: r2 ∧ Hid (untilE c t k s2 = some (r2,s')):=by
       have:=HU.out
       simp only [untilE,hx,if_neg hta,hq,Option.map_eq_some_iff,Prod.mk.injEq] at this
       obtain ⟨r,h1,h2,h3⟩:=this
       exact ⟨r.1,h2.symm,Lib.hid (by rw [h1,← h3])⟩
      have HT2 : Hid (fitsE c t n k s2 = true):=Lib.hid (by
       have:=HT.out
       simp only [fitsE,hx,if_neg hta,hq,Bool.and_eq_true] at this
       exact this.2)
      have HOK2 : Hid (SimOk c s2):=Lib.hid (step_ok HOK.out hq)
      have HST : Hid (∀ (w : World) (F : Nat → Prop),St F w w [simA X R s1,ModA true 128 R vs hs c,Tab] → Calls Tryz.prog 73 #[.pointer (some ⟨X,0,none⟩)] w fun e w'=>
       ∃ ai ci ao co,e = .returned (.tuple #[.agg #[.int .i64 b.at_,.int .i64 b.lp,.slice ai b.ins.length ci,.int .i64 b.thn.n0,.int .i64 b.thn.n1,.int .i64 b.thn.n2,.int .i64 b.thn.n3,.slice ao b.sent.length co],.bool true]) ∧ St F w w' [simA X R s2,Own 56 Event.cells 7 (.slice ai b.ins.length ci) b.ins,Own 56 Event.cells 7 (.slice ao b.sent.length co) b.sent]):=Lib.hid fun w F S=>by
       refine (step_some X R vs hs c s1 n a lp w F S HC.out HOK.out (fits_b HT.out) hn hx).mono fun e w' hp=>?_
       rcases hp with ⟨h,_⟩ | ⟨b',s'',vi,vo,h1,h2,S⟩
       · rw [hq] at h;cases h
       · rw [hq] at h1
         simp only [Option.some.injEq,Prod.mk.injEq] at h1
         obtain ⟨rfl,rfl⟩:=h1
         obtain ⟨ai,ci,rfl,_⟩:=(S.ownsl ecells 1 rfl).elim fun _ h=>h.form
         obtain ⟨ao,co,rfl,_⟩:=(S.ownsl ecells 2 rfl).elim fun _ h=>h.form
         exact ⟨ai,ci,ao,co,h2,S⟩
      have hlm : l.length < most:=by have:=HK.out;omega
      have hlm2 : ¬ ((l.length : Int) = most):=by omega
      have hll : l.length < 4294967296:=by omega
      have hta2 : ¬ (a ≥ t):=by omega
      clear hq hx
      go_wp2_with first | (go_at_call 72;refine Calls.mono (HNC.out _ _ (S.get (i:=0) rfl).choose_spec) ?_;rintro e wz ⟨rfl,hE⟩;replace S:=S.ext (Keep.of_below hE);clear hE) | (go_at_call 73;obtain ⟨Fz,hF,hBk⟩:=S.lend [0] [4,5] [1,2,3,4,5] rfl rfl rfl;simp only [cons_append,nil_append,pick,nth] at hF hBk;refine Calls.mono (HST.out _ _ hF) ?_;rintro e wz ⟨ai,ci,ao,co,rfl,T⟩;replace S:=hBk _ _ T rfl;clear hBk hF T;simp only [cons_append,nil_append] at S) | ((with_reducible apply wps_storea (T:=52) S 0 (vs:=[.int .i64 b.at_,.int .i64 b.lp,.slice ai b.ins.length ci,.int .i64 b.thn.n0,.int .i64 b.thn.n1,.int .i64 b.thn.n2,.int .i64 b.thn.n3,.slice ao b.sent.length co]) (m:=8));(case hx|hy|hi|hm|h1=>rfl);(case hn=>exact nle rfl);(case hT=>decide +kernel);clear S;intro wz S;simp only [set_cons_zero,set_cons_succ,setAll,setIfInBounds_toArray] at S) | ((with_reducible apply wps_build1a (T:=27) (E:=52) S);(case hx=>rfl);(case hr=>intro w;kernel_rfl);clear S;intro bz wz S) | ((with_reducible apply wps_append1 elem_Bat bvcells bvone (by decide) S 5 (j:=0) (e:=⟨b,ai,ci,ao,co⟩));(case hx|hy|hi|hj|he=>rfl);(case hl=>first | omega | (simp;omega));clear S;intro az nz cz wz hnz S;simp only [set_cons_succ,set_cons_zero] at S) | ((with_reducible apply wps_alloca (E:=52) S);(case hz=>exact Tryz.zeroValue52);clear S;intro bz wz S) | ((with_reducible apply wps_loada (T:=52) (k:=8) S 0);(case hx|hi=>rfl);(case hk=>exact nle rfl);(case hT=>decide +kernel))
      go_roundw
      case rel=>
       have S2:=S.pick [3,6,4,7,2,5,8,9] rfl
       simp only [pick,nth] at S2
       have S3:=S2.freeze false 0 ecells rfl
       simp only [set_cons_zero] at S3
       have S4:=S3.slsSnoc.pick [1,2,0,3,4,5,6] rfl
       simp only [pick,nth] at S4
       have S5:=S4.freeze false 0 ecells rfl
       simp only [set_cons_zero] at S5
       have S6:=S5.slsSnoc
       refine ⟨k,s2,l ++ [⟨b,ai,ci,ao,co⟩],rest2,HU2,HT2,Lib.hid (by rw [← HB.out,List.map_append,List.append_assoc];rfl),Lib.hid (by have:=HK.out;rw [List.length_append];simp only [List.length_cons,List.length_nil];omega),HOK2,?_⟩
       simp only [List.map_append,List.map_cons,List.map_nil]
       exact S6.pick [2,3,1,0,4,5] rfl
      case measure=>have h1:=hnz.out;simp only [slen];omega
theorem states_calls (X R : Nat) (s : SimE) (w : World) (F : Nat → Prop) (h : (simA X R s).at_ w F) (hn : s.ss.length ≤ 65536) :
 Calls Tryz.prog 57 #[.pointer (some ⟨X,0,none⟩)] w fun e w'=>∃ ad c,e = .returned (.slice ad s.ss.length c) ∧ St (fun _=>False) w w' [Own 50 State.cells 4 (.slice ad s.ss.length c) s.ss]:=by
 obtain ⟨v1,v2,Bs,hlen,S⟩:=simR_st h
 clear h
 obtain ⟨a1,c1,rfl,_⟩:=(S.sl 2 rfl).elim fun _ h=>h.form
 have hn2 : s.ss.length ≤ 4294967296:=by omega
 go_enter Tryz.func57,Tryz.ntmps57
 go_wp2_with first | (go_at_call 81;refine Calls.mono (clone_Sst _ _ (S.get (i:=2) rfl).choose_spec hn2) ?_;rintro e wz ⟨ad2,c2,rfl,_,T⟩;replace S:=S.join T rfl;clear T;simp only [cons_append,nil_append] at S) | ((with_reducible apply wps_load S 3);(case hx|hi|hu=>rfl);(case hT=>decide +kernel))
 go_ret
 exact ⟨_,_,rfl,S.pick [0] rfl⟩
theorem all_calls (R : Nat) (vs hs : List Value) (c : Cfg) (n most : Nat) (bs : List BatE) (s' : SimE) (w : World) (F F3 : Nat → Prop) (h : (ModA true 128 R vs hs c).at_ w F) (ht : Tab.at_ w F3) (hc : cfgE c = 0)
 (hn : n ≤ 65536) (hm : most ≤ 65536) (hu : untilE c (c.fin + 1) most (newE c) = some (bs,s')) (hft : fitsE c (c.fin + 1) n most (newE c) = true) (hss : s'.ss.length ≤ 65536) :
 Calls Tryz.prog 28 #[.pointer (some ⟨R,0,none⟩),.int .i64 most] w fun e w'=>∃ a cp l a2 c2,e = .returned (.tuple #[.slice a bs.length cp,.slice a2 s'.ss.length c2,.int .i64 0]) ∧ l.map (·.b) = bs ∧
  St (fun _=>False) w w' [Own 50 State.cells 4 (.slice a2 s'.ss.length c2) s'.ss,Own 52 BatV.cells 8 (.slice a bs.length cp) l,Sls false Event.cells 7 (l.map (·.vi)) (l.map (·.b.ins)),Sls false Event.cells 7 (l.map (·.vo)) (l.map (·.b.sent))]:=by
 have S : St (fun _=>False) w w [ModA true 128 R vs hs c,Tab]:=((St.init _ w).share rfl rfl ht).share rfl rfl h
 clear h ht
 have hf:=cfg_isfine hc
 have hfin : c.fin ≤ 1073741824:=by have:=hf.sizes;unfold sizesOk at this;omega
 have hfin0 : 0 ≤ c.fin:=by have:=hf.sizes;unfold sizesOk at this;omega
 have HF:=Lib.hid hf
 have HU:=Lib.hid fun (X : Nat) (w : World) (F : Nat → Prop) (S : St F w w [simA X R (newE c),ModA true 128 R vs hs c,Tab])=>until_calls X R vs hs c (newE c) s' (c.fin + 1) n most bs w F S hc (new_ok hf) hn hm hu hft
 clear hf hu hft hc
 go_enter Tryz.func28,Tryz.ntmps28
 go_wp2_with first | (go_at_call 47;refine Calls.mono (snew_calls R vs hs c _ _ (S.get (i:=0) rfl).choose_spec HF.out) ?_;rintro e wz ⟨X,rfl,T⟩;replace S:=S.join T rfl;clear T;simp only [cons_append,nil_append] at S) | (go_at_call 56;refine Calls.mono (end_calls _ _ _ _ _ _ (S.get (i:=1) rfl).choose_spec) ?_;rintro e wz ⟨rfl,hE⟩;replace S:=S.ext (Keep.of_below hE);clear hE) | (go_at_call 48;obtain ⟨Fz,hF,hBk⟩:=S.lend [0] [1,2] [1,2] rfl rfl rfl;simp only [cons_append,nil_append,pick,nth] at hF hBk;refine Calls.mono (HU.out _ _ _ hF) ?_;rintro e wz ⟨a,cp,l,rfl,hlb,T⟩;replace S:=hBk _ _ T rfl;clear hBk hF T;simp only [cons_append,nil_append] at S) | (go_at_call 57;refine Calls.mono (states_calls X R _ _ _ (S.get (i:=0) rfl).choose_spec hss) ?_;rintro e wz ⟨a2,c2,rfl,T⟩;replace S:=S.join T rfl;clear T;simp only [cons_append,nil_append] at S)
 (try simp only [Exit.inBlock,Exit.then]);refine bodyPost_ret (results3 rfl (res_tmp rfl) (res_tmp rfl) (res_tmp rfl)) rfl ?_
 exact ⟨_,_,l,_,_,rfl,hlb,S.pick [0,2,3,4] rfl⟩
end Go.Proofs.YtcnfionnnpnplaaGreatDoor
/- The walks of slices.Equal of events, seq.Same and the law's SeqSame. -/
namespace Go.Proofs.YtcnfionnnpnplaaGreatDoor
open Go Go.RowKit Reg Mem
open List (set_cons_succ set_cons_zero setIfInBounds_toArray cons_append nil_append)
def EqRel (v1 v2 : Value) (xs ys : List Event) (w : World) (i : Value) (wr : World) : Prop:=
 ∃ j : Nat,j ≤ xs.length ∧ i = .int .i64 j ∧ (∀ q : Nat,q < j → xs[q]? = ys[q]?) ∧ St (fun _=>False) w wr [Sl true Event.cells 7 v2 ys,Sl true Event.cells 7 v1 xs]
theorem equal_calls (v1 v2 : Value) (xs ys : List Event) (w : World) (F1 F2 : Nat → Prop) (h1 : (Sl true Event.cells 7 v1 xs).at_ w F1) (h2 : (Sl true Event.cells 7 v2 ys).at_ w F2) (hn : xs.length ≤ 4294967296) :
 Calls Tryz.prog 43 #[v1,v2] w fun r w'=>r = .returned (.bool (decide (xs = ys))) ∧ Below w.heap.size w w':=by
 have S : St (fun _=>False) w w [Sl true Event.cells 7 v2 ys,Sl true Event.cells 7 v1 xs]:=((St.init _ w).share rfl rfl h1).share rfl rfl h2
 obtain ⟨ad2,c2,rfl,_⟩:=(S.sl 0 rfl).elim fun _ h=>h.form
 obtain ⟨ad1,c1,rfl,_⟩:=(S.sl 1 rfl).elim fun _ h=>h.form
 clear h1 h2
 by_cases hl : xs.length = ys.length
 · have HL:=Lib.hid hl
   by_cases h0 : 0 < xs.length
   · obtain ⟨R1,o1,rfl⟩ : ∃ R o,ad1 = some ⟨R,o,none⟩:=(S.sl 1 rfl).elim fun F h=>h.head (by omega)
     obtain ⟨R2,o2,rfl⟩ : ∃ R o,ad2 = some ⟨R,o,none⟩:=(S.sl 0 rfl).elim fun F h=>h.head (by have:=HL.out;omega)
     rw [← hl] at S ⊢
     clear hl
     go_enter Tryz.func43,Tryz.ntmps43
     go_wp2_with first | ((with_reducible apply wps_loada (T:=56) (k:=7) S 3);(case hx|hi=>rfl);(case hk=>exact nle rfl);(case hT=>decide +kernel))
     go_loopw [13] (fun i wr=>EqRel (.slice (some ⟨R1,o1,none⟩) xs.length c1) (.slice (some ⟨R2,o2,none⟩) xs.length c2) xs ys w i wr) (fun i _=>xs.length - (intOf i).toNat)
     case atStart=>exact ⟨0,Nat.zero_le _,rfl,fun q h=>by omega,S⟩
     case round=>
      clear S
      obtain ⟨j,hj,rfl,he,S⟩:=hrel
      have He:=Lib.hid he
      clear he
      by_cases hlt : j < xs.length
      · obtain ⟨x,hx⟩ : ∃ x,xs[j]? = some x:=⟨_,List.getElem?_eq_getElem hlt⟩
        obtain ⟨y,hy⟩ : ∃ y,ys[j]? = some y:=⟨_,List.getElem?_eq_getElem (by have:=HL.out;omega)⟩
        have hlt2 : (j : Int) < xs.length:=by omega
        by_cases hxy : x = y
        · have HN:=Lib.hid ((ev_nceqs x y).trans (show _ = false by simp [hxy]))
          have HXY:=Lib.hid hxy
          clear hxy
          have Hx:=Lib.hid hx
          have Hy:=Lib.hid hy
          clear hx hy
          go_wp2_with first | ((with_reducible apply wps_loada_el S 1 (hj:=Hx.out) (q:=0) (vs:=[.int .i64 x.key.at_,.int .i64 x.key.src,.int .i64 x.key.sent,.int .i64 x.key.no,.int .i64 x.dst,.int .i64 x.kind,.int .i64 x.data]) (m:=7));(case hx|hi=>rfl);(case hn=>omega);(case hm|hv=>rfl);(case hT=>decide +kernel)) | ((with_reducible apply wps_loada_el S 0 (hj:=Hy.out) (q:=0) (vs:=[.int .i64 y.key.at_,.int .i64 y.key.src,.int .i64 y.key.sent,.int .i64 y.key.no,.int .i64 y.dst,.int .i64 y.kind,.int .i64 y.data]) (m:=7));(case hx|hi=>rfl);(case hn=>omega);(case hm|hv=>rfl);(case hT=>decide +kernel)) | ((with_reducible apply wpList_neq_agg (t:=56) (ks:=[.int .i64,.int .i64,.int .i64,.int .i64,.int .i64,.int .i64,.int .i64]) (b:=_));(case hx|hy=>rfl);(case hl|ha|hg=>kernel_rfl);(case hfx|hfy=>rfl);(case hb=>exact HN.out)) | ((with_reducible refine tot_done ?ht ?_);(case ht=>kernel_rfl)) | ((with_reducible apply wps_text S);(case hm=>kernel_rfl);(case hB=>decide +kernel);clear S;intro wz S)
          go_roundw
          case rel=>
           refine ⟨j + 1,by omega,by go_num,fun q hq=>?_,S⟩
           by_cases e : q = j
           · subst e;rw [Hx.out,Hy.out,HXY.out]
           · exact He.out q (by omega)
          case measure=>simp [intOf];omega
        · have HN:=Lib.hid ((ev_nceqs x y).trans (show _ = true by simp [hxy]))
          have HXY:=Lib.hid hxy
          clear hxy
          have Hx:=Lib.hid hx
          have Hy:=Lib.hid hy
          clear hx hy
          go_wp2_with first | ((with_reducible apply wps_loada_el S 1 (hj:=Hx.out) (q:=0) (vs:=[.int .i64 x.key.at_,.int .i64 x.key.src,.int .i64 x.key.sent,.int .i64 x.key.no,.int .i64 x.dst,.int .i64 x.kind,.int .i64 x.data]) (m:=7));(case hx|hi=>rfl);(case hn=>omega);(case hm|hv=>rfl);(case hT=>decide +kernel)) | ((with_reducible apply wps_loada_el S 0 (hj:=Hy.out) (q:=0) (vs:=[.int .i64 y.key.at_,.int .i64 y.key.src,.int .i64 y.key.sent,.int .i64 y.key.no,.int .i64 y.dst,.int .i64 y.kind,.int .i64 y.data]) (m:=7));(case hx|hi=>rfl);(case hn=>omega);(case hm|hv=>rfl);(case hT=>decide +kernel)) | ((with_reducible apply wpList_neq_agg (t:=56) (ks:=[.int .i64,.int .i64,.int .i64,.int .i64,.int .i64,.int .i64,.int .i64]) (b:=_));(case hx|hy=>rfl);(case hl|ha|hg=>kernel_rfl);(case hfx|hfy=>rfl);(case hb=>exact HN.out)) | ((with_reducible refine tot_done ?ht ?_);(case ht=>kernel_rfl)) | ((with_reducible apply wps_text S);(case hm=>kernel_rfl);(case hB=>decide +kernel);clear S;intro wz S)
          go_ret
          exact ⟨ret_bool (by symm;rw [decide_eq_false_iff_not];rintro rfl;rw [Hx.out] at Hy;exact HXY.out (Option.some.inj Hy.out)),S.below⟩
      · obtain rfl : j = xs.length:=by omega
        go_wp2_with first | ((with_reducible apply wps_loada (T:=56) (k:=7) S 3);(case hx|hi=>rfl);(case hk=>exact nle rfl);(case hT=>decide +kernel))
        go_ret
        refine ⟨ret_bool ?_,S.below⟩
        symm
        rw [decide_eq_true_eq]
        refine List.ext_getElem? fun q=>?_
        by_cases hq : q < xs.length
        · exact He.out q hq
        · have:=HL.out
          rw [List.getElem?_eq_none (by omega),List.getElem?_eq_none (by omega)]
   · obtain rfl : xs = []:=List.eq_nil_of_length_eq_zero (by omega)
     obtain rfl : ys = []:=List.eq_nil_of_length_eq_zero (by have:=HL.out;simp at this;omega)
     go_enter Tryz.func43,Tryz.ntmps43
     go_wp2_with first | ((with_reducible apply wps_loada (T:=56) (k:=7) S 3);(case hx|hi=>rfl);(case hk=>exact nle rfl);(case hT=>decide +kernel))
     go_loopw [13] (fun i wr=>i = .int .i64 0 ∧ St (fun _=>False) w wr [Sl true Event.cells 7 (.slice ad2 0 c2) ([] : List Event),Sl true Event.cells 7 (.slice ad1 0 c1) ([] : List Event)]) (fun _ _=>0)
     case atStart=>exact ⟨rfl,S⟩
     case round=>
      clear S
      obtain ⟨rfl,S⟩:=hrel
      go_wp2_with first | ((with_reducible apply wps_loada (T:=56) (k:=7) S 3);(case hx|hi=>rfl);(case hk=>exact nle rfl);(case hT=>decide +kernel))
      go_ret
      exact ⟨ret_bool (by simp),S.below⟩
 · have hl2 : (xs.length : Int) ≠ ys.length:=by omega
   have HL:=Lib.hid hl
   clear hl
   go_enter Tryz.func43,Tryz.ntmps43
   go_wp2_with first | ((with_reducible apply wps_loada (T:=56) (k:=7) S 3);(case hx|hi=>rfl);(case hk=>exact nle rfl);(case hT=>decide +kernel))
   go_ret
   exact ⟨ret_bool (by symm;rw [decide_eq_false_iff_not];rintro rfl;exact HL.out rfl),S.below⟩
theorem sa_ceqs (a b : State) : ceqs a.cells b.cells = decide (a = b):=by
 obtain ⟨a1,a2,a3,a4⟩:=a;obtain ⟨b1,b2,b3,b4⟩:=b
 simp only [State.cells,ceqs,ceq,Bool.and_true,State.mk.injEq]
 rw [Bool.eq_iff_iff];simp
def sameB (a b : BatE) : Bool:=decide (a.at_ = b.at_ ∧ a.lp = b.lp ∧ a.thn = b.thn ∧ a.ins = b.ins ∧ a.sent = b.sent)
theorem sameB_self (a : BatE) : sameB a a = true:=by simp [sameB]
theorem same_calls (x y : BatV) (w : World) (F1 F2 F3 F4 : Nat → Prop) (h1 : (Sl true Event.cells 7 x.vi x.b.ins).at_ w F1) (h2 : (Sl true Event.cells 7 y.vi y.b.ins).at_ w F2) (h3 : (Sl true Event.cells 7 x.vo x.b.sent).at_ w F3) (h4 : (Sl true Event.cells 7 y.vo y.b.sent).at_ w F4)
 (hn1 : x.b.ins.length ≤ 65536) (hn2 : x.b.sent.length ≤ 65536) :
 Calls Tryz.prog 49 #[.agg #[.int .i64 x.b.at_,.int .i64 x.b.lp,.slice x.ai x.b.ins.length x.ci,.int .i64 x.b.thn.n0,.int .i64 x.b.thn.n1,.int .i64 x.b.thn.n2,.int .i64 x.b.thn.n3,.slice x.ao x.b.sent.length x.co],.agg #[.int .i64 y.b.at_,.int .i64 y.b.lp,.slice y.ai y.b.ins.length y.ci,.int .i64 y.b.thn.n0,.int .i64 y.b.thn.n1,.int .i64 y.b.thn.n2,.int .i64 y.b.thn.n3,.slice y.ao y.b.sent.length y.co]] w fun r w'=>r = .returned (.bool (sameB x.b y.b)) ∧ Below w.heap.size w w':=by
 have S : St (fun _=>False) w w [Sl true Event.cells 7 x.vi x.b.ins,Sl true Event.cells 7 y.vi y.b.ins,Sl true Event.cells 7 x.vo x.b.sent,Sl true Event.cells 7 y.vo y.b.sent]:=
  ((((St.init _ w).share rfl rfl h4).share (A:=Sl true Event.cells 7 x.vo x.b.sent) rfl rfl h3).share (A:=Sl true Event.cells 7 y.vi y.b.ins) rfl rfl h2).share rfl rfl h1
 clear h1 h2 h3 h4
 obtain ⟨⟨xa,xl,xi,xt,xs⟩,ai,ci,ao,co⟩:=x
 obtain ⟨⟨ya,yl,yi,yt,ys⟩,bi,di,bo,d_o⟩:=y
 simp only [BatV.vi,BatV.vo] at *
 have HC1:=Lib.hid fun w F F2 h h2=>equal_calls (.slice ai xi.length ci) (.slice bi yi.length di) xi yi w F F2 h h2 (Nat.le_trans hn1 (by decide))
 have HC2:=Lib.hid fun w F F2 h h2=>equal_calls (.slice ao xs.length co) (.slice bo ys.length d_o) xs ys w F F2 h h2 (Nat.le_trans hn2 (by decide))
 have HT:=Lib.hid (sa_ceqs xt yt)
 clear hn1 hn2
 by_cases e1 : xa = ya
 case neg=>
  have HR : Hid (sameB ⟨xa,xl,xi,xt,xs⟩ ⟨ya,yl,yi,yt,ys⟩ = false):=Lib.hid (by simp [sameB,e1])
  go_enter Tryz.func49,Tryz.ntmps49
  go_wp2_with first | go_skip | ((with_reducible apply wps_boxa S);(case hx=>rfl);clear S;intro bz wz S) | ((with_reducible apply wps_load S 0);(case hx|hi|hu=>rfl);(case hT=>decide +kernel)) | ((with_reducible apply wps_load S 1);(case hx|hi|hu=>rfl);(case hT=>decide +kernel))
  go_ret
  exact ⟨ret_bool HR.out.symm,S.below⟩
 case pos=>
 subst e1
 by_cases e2 : xl = yl
 case neg=>
  have HR : Hid (sameB ⟨xa,xl,xi,xt,xs⟩ ⟨xa,yl,yi,yt,ys⟩ = false):=Lib.hid (by simp [sameB,e2])
  go_enter Tryz.func49,Tryz.ntmps49
  go_wp2_with first | go_skip | ((with_reducible apply wps_boxa S);(case hx=>rfl);clear S;intro bz wz S) | ((with_reducible apply wps_load S 0);(case hx|hi|hu=>rfl);(case hT=>decide +kernel)) | ((with_reducible apply wps_load S 1);(case hx|hi|hu=>rfl);(case hT=>decide +kernel))
  go_ret
  exact ⟨ret_bool HR.out.symm,S.below⟩
 case pos=>
 subst e2
 by_cases e3 : xt = yt
 case neg=>
  have HR : Hid (sameB ⟨xa,xl,xi,xt,xs⟩ ⟨xa,xl,yi,yt,ys⟩ = false):=Lib.hid (by simp [sameB,e3])
  rw [decide_eq_false e3] at HT
  clear e3
  go_enter Tryz.func49,Tryz.ntmps49
  go_wp2_with first | go_skip | ((with_reducible apply wpList_eql_agg (t:=50) (ks:=[.int .i64,.int .i64,.int .i64,.int .i64]) (b:=_));(case hx|hy=>rfl);(case hl|ha|hg=>kernel_rfl);(case hfx|hfy=>rfl);(case hb=>exact HT.out)) | ((with_reducible apply wps_boxa S);(case hx=>rfl);clear S;intro bz wz S) | ((with_reducible apply wps_load S 0);(case hx|hi|hu=>rfl);(case hT=>decide +kernel)) | ((with_reducible apply wps_loada (T:=50) (k:=4) S 0);(case hx|hi=>rfl);(case hk=>exact nle rfl);(case hT=>decide +kernel)) | ((with_reducible apply wps_load S 1);(case hx|hi|hu=>rfl);(case hT=>decide +kernel)) | ((with_reducible apply wps_loada (T:=50) (k:=4) S 1);(case hx|hi=>rfl);(case hk=>exact nle rfl);(case hT=>decide +kernel))
  go_ret
  exact ⟨ret_bool HR.out.symm,S.below⟩
 case pos=>
 rw [decide_eq_true e3] at HT
 by_cases e4 : xi = yi
 case neg=>
  have HR : Hid (sameB ⟨xa,xl,xi,xt,xs⟩ ⟨xa,xl,yi,yt,ys⟩ = false):=Lib.hid (by simp [sameB,e4])
  rw [decide_eq_false e4] at HC1
  clear e3 e4
  go_enter Tryz.func49,Tryz.ntmps49
  go_wp2_with first | go_skip | ((with_reducible apply wpList_eql_agg (t:=50) (ks:=[.int .i64,.int .i64,.int .i64,.int .i64]) (b:=_));(case hx|hy=>rfl);(case hl|ha|hg=>kernel_rfl);(case hfx|hfy=>rfl);(case hb=>exact HT.out)) | (go_at_call 43;have hcz:=(HC1.out _ _ _ (S.get (i:=2) rfl).choose_spec (S.get (i:=3) rfl).choose_spec);(with_reducible refine Calls.mono hcz ?_);clear hcz;rintro e wz ⟨rfl,hE⟩;replace S:=S.ext (Keep.of_below hE);clear hE) | ((with_reducible apply wps_boxa S);(case hx=>rfl);clear S;intro bz wz S) | ((with_reducible apply wps_load S 0);(case hx|hi|hu=>rfl);(case hT=>decide +kernel)) | ((with_reducible apply wps_loada (T:=50) (k:=4) S 0);(case hx|hi=>rfl);(case hk=>exact nle rfl);(case hT=>decide +kernel)) | ((with_reducible apply wps_load S 1);(case hx|hi|hu=>rfl);(case hT=>decide +kernel)) | ((with_reducible apply wps_loada (T:=50) (k:=4) S 1);(case hx|hi=>rfl);(case hk=>exact nle rfl);(case hT=>decide +kernel))
  go_ret
  exact ⟨ret_bool HR.out.symm,S.below⟩
 case pos=>
 rw [decide_eq_true e4] at HC1
 by_cases e5 : xs = ys
 case neg=>
  have HR : Hid (sameB ⟨xa,xl,xi,xt,xs⟩ ⟨xa,xl,yi,yt,ys⟩ = false):=Lib.hid (by simp [sameB,e5])
  rw [decide_eq_false e5] at HC2
  clear e3 e4 e5
  go_enter Tryz.func49,Tryz.ntmps49
  go_wp2_with first | ((with_reducible apply wpList_eql_agg (t:=50) (ks:=[.int .i64,.int .i64,.int .i64,.int .i64]) (b:=_));(case hx|hy=>rfl);(case hl|ha|hg=>kernel_rfl);(case hfx|hfy=>rfl);(case hb=>exact HT.out)) | (go_at_call 43;have hcz:=(HC1.out _ _ _ (S.get (i:=2) rfl).choose_spec (S.get (i:=3) rfl).choose_spec);(with_reducible refine Calls.mono hcz ?_);clear hcz;rintro e wz ⟨rfl,hE⟩;replace S:=S.ext (Keep.of_below hE);clear hE) | (go_at_call 43;have hcz:=(HC2.out _ _ _ (S.get (i:=4) rfl).choose_spec (S.get (i:=5) rfl).choose_spec);(with_reducible refine Calls.mono hcz ?_);clear hcz;rintro e wz ⟨rfl,hE⟩;replace S:=S.ext (Keep.of_below hE);clear hE) | ((with_reducible apply wps_boxa S);(case hx=>rfl);clear S;intro bz wz S) | ((with_reducible apply wps_load S 0);(case hx|hi|hu=>rfl);(case hT=>decide +kernel)) | ((with_reducible apply wps_loada (T:=50) (k:=4) S 0);(case hx|hi=>rfl);(case hk=>exact nle rfl);(case hT=>decide +kernel)) | ((with_reducible apply wps_load S 1);(case hx|hi|hu=>rfl);(case hT=>decide +kernel)) | ((with_reducible apply wps_loada (T:=50) (k:=4) S 1);(case hx|hi=>rfl);(case hk=>exact nle rfl);(case hT=>decide +kernel))
  go_ret
  exact ⟨ret_bool HR.out.symm,S.below⟩
 case pos=>
  have HR : Hid (sameB ⟨xa,xl,xi,xt,xs⟩ ⟨xa,xl,yi,yt,ys⟩ = true):=Lib.hid (by simp [sameB,e3,e4,e5])
  rw [decide_eq_true e5] at HC2
  clear e3 e4 e5
  go_enter Tryz.func49,Tryz.ntmps49
  go_wp2_with first | ((with_reducible apply wpList_eql_agg (t:=50) (ks:=[.int .i64,.int .i64,.int .i64,.int .i64]) (b:=_));(case hx|hy=>rfl);(case hl|ha|hg=>kernel_rfl);(case hfx|hfy=>rfl);(case hb=>exact HT.out)) | (go_at_call 43;have hcz:=(HC1.out _ _ _ (S.get (i:=2) rfl).choose_spec (S.get (i:=3) rfl).choose_spec);(with_reducible refine Calls.mono hcz ?_);clear hcz;rintro e wz ⟨rfl,hE⟩;replace S:=S.ext (Keep.of_below hE);clear hE) | (go_at_call 43;have hcz:=(HC2.out _ _ _ (S.get (i:=4) rfl).choose_spec (S.get (i:=5) rfl).choose_spec);(with_reducible refine Calls.mono hcz ?_);clear hcz;rintro e wz ⟨rfl,hE⟩;replace S:=S.ext (Keep.of_below hE);clear hE) | ((with_reducible apply wps_boxa S);(case hx=>rfl);clear S;intro bz wz S) | ((with_reducible apply wps_load S 0);(case hx|hi|hu=>rfl);(case hT=>decide +kernel)) | ((with_reducible apply wps_loada (T:=50) (k:=4) S 0);(case hx|hi=>rfl);(case hk=>exact nle rfl);(case hT=>decide +kernel)) | ((with_reducible apply wps_load S 1);(case hx|hi|hu=>rfl);(case hT=>decide +kernel)) | ((with_reducible apply wps_loada (T:=50) (k:=4) S 1);(case hx|hi=>rfl);(case hk=>exact nle rfl);(case hT=>decide +kernel))
  go_ret
  exact ⟨ret_bool HR.out.symm,S.below⟩
end Go.Proofs.YtcnfionnnpnplaaGreatDoor
/- The tail of a slice that is owned is cleared. Over any program. -/
namespace Go.Proofs.YtcnfionnnpnplaaGreatDoor.Mem
open Go Go.RowKit Reg
open List (set_cons_succ set_cons_zero setIfInBounds_toArray cons_append nil_append)
section
variable {P : Program} {ops : Array Oper} {rest : List Oper} {a : Act} {Q : Exit → Act → World → Prop} {d : Option Tmp} {tt : TypeId} {p : String} {af : Array Edge} {gd : Option (Nat × Bool)} {x y : Operand}
variable {G : Nat → Prop} {w0 w w' : World} {L : List Asn}
theorem zeroCells_rep {α : Type} {enc : α → List Value} {k : Nat} {z : Value} {x0 : α} (hk : ∀ x,(enc x).length = k) (hz : z.cells.toList = enc x0) (n : Nat) : (Builtin.zeroCells z.cells n).toList = flatE enc (List.replicate n x0):=by
 have hs : z.cells.size = k:=by rw [← hk x0,← hz];simp
 have:=made_rep (z:=z) hk hz n
 rw [← this]
 unfold Builtin.zeroCells madeCells
 rw [hs]
theorem wps_clearTail {α : Type} {T E : TypeId} {enc : α → List Value} {k bytes R n c c' m q : Nat} {xs : List α} (el : Elem P T E k bytes) (hk : ∀ x,(enc x).length = k) (hone : ∀ x,∀ u ∈ enc x,u.oneCell' = true) (z0 : α) (hz : zeroIs P E k (enc z0)) (S : St G w0 w L) (i : Nat)
 (hi : L[i]? = some (Own E enc k (.slice (some ⟨R,0,none⟩) n c) xs)) (o : Nat) (hx : a.eval x = .slice (some ⟨R,o,none⟩) q c') (ho : o = m * k) (hm : xs.length = m + q) (h0 : 0 < q)
 (next : ∀ w',St G w0 w' (L.set i (Own E enc k (.slice (some ⟨R,0,none⟩) n c) (xs.take m ++ List.replicate q z0))) → wpList P ops Q rest (a.put d (.tuple #[])) w') (hgd : gOk gd ops a = true:=by with_unfolding_all rfl) :
 wpList P ops Q ({ dst:=d,op:=.call { callee:=.builtin .clear,args:=#[x],argTypes:=#[T] },type:=tt,pos:=p,after:=af,guard:=gd } :: rest) a w:=
 wpList_ok hgd fun K hK=>by
  obtain ⟨q,rfl⟩ : ∃ q',q = q' + 1:=⟨q - 1,by omega⟩
  obtain ⟨F,hF⟩:=S.get hi
  obtain ⟨cur,hO,hn⟩:=own_at hF
  obtain ⟨ei,z,h⟩:=el
  obtain ⟨i',z',g1,g2,g3,g4,g5⟩:=hz
  have e1 : ei = i':=by have:=h.info;rw [g1] at this;exact (Option.some.inj this).symm
  subst e1
  have e2 : z = z':=by have:=h.zero;rw [g2] at this;exact (Option.some.inj this).symm
  subst e2
  have hzl : (Builtin.zeroCells z.cells (q + 1)).toList = flatE enc (List.replicate (q + 1) z0):=zeroCells_rep hk g4 _
  have hfl : (flatE enc (List.replicate (q + 1) z0)).length = (q + 1) * k:=by rw [flatE_length hk,List.length_replicate]
  have hsize : m * k + (q + 1) * k ≤ cur.size:=by
   have h3:=hO.le
   rw [hO.size,← Nat.add_mul,← hm]
   exact Nat.mul_le_mul_right k h3
  have h1 : ∀ v ∈ flatE enc (List.replicate (q + 1) z0),v.oneCell' = true:=fun v hv=>by
   obtain ⟨y,_,hy⟩:=List.mem_flatMap.1 hv
   exact hone y v hy
  obtain ⟨ht,hi2,hz2,hs,hby,hzs,hpos⟩:=h
  have hst:=run_storeCells_at P R o E (flatE enc (List.replicate (q + 1) z0)) 0 cur w hO.heap (by rw [hfl,ho];omega) h1
  simp only [Nat.add_zero] at hst
  have hr : (Builtin.clear_ #[T] tt #[.slice (some ⟨R,o,none⟩) (q + 1) c']).run P w = .ok (.tuple #[]) (w.setRow R (splice cur o (flatE enc (List.replicate (q + 1) z0)))):=by
   simp only [Builtin.clear_,List.getElem?_toArray,List.getElem?_cons_zero,Sem.run_bind,run_underlying ht,Result.andThen_ok,zeroValue,typeInfo,run_program,hi2,hz2,hzl,hst,Sem.run_pure]
   rfl
  unfold Oper.wp execOp
  simp [resolve,invoke,builtin,hx,hr,Result.andThen]
  refine hK _ _ (next _ (S.step hi rfl fun F hF=>?_))
  refine ⟨F,setRow_keep.mono (fun x _ h e=>h ((hF.2 x).2 (by simp [Value.ownBlock,e]))),⟨?_,fun x=>by rw [hF.2 x]⟩,fun _ h=>.inl h⟩
  have hl : (xs.take m ++ List.replicate (q + 1) z0).length = n:=by rw [List.length_append,List.length_take,List.length_replicate,hn];omega
  have hln : n = m + (q + 1):=by rw [hn];exact hm
  have hnew : OwnAt E enc k 0 (w.setRow R (splice cur o (flatE enc (List.replicate (q + 1) z0)))) R c (splice cur o (flatE enc (List.replicate (q + 1) z0))) (xs.take m ++ List.replicate (q + 1) z0):=by
   refine ⟨setRow_heap w R _ _ E _ hO.heap,hO.lo,by rw [hl,hn];exact hO.le,hO.max,by rw [splice_size (by rw [hfl,ho];exact hsize)];exact hO.size,?_⟩
   have ht2:=(hO.cut hk m (by omega)).take
   rw [show (xs.take m).length = m by rw [List.length_take];omega] at ht2
   unfold splice
   rw [hl,hln,flatE_append,← ht2,ho]
   have hcl : (cur.toList.take (m * k)).length = m * k:=by rw [List.length_take,Array.length_toList];omega
   simp only [List.append_assoc]
   rw [← List.append_assoc]
   refine List.take_left' ?_
   rw [List.length_append,hcl,hfl,← Nat.add_mul]
  have:=hnew.own hk
  rwa [hl] at this
end
end Go.Proofs.YtcnfionnnpnplaaGreatDoor.Mem
