import Derived.Test.YtcnfionnnpnplaaGreatDoorZ15
import Derived.Test.YtcnfionnnpnplaaGreatDoorZ14
/- The walk of batch.Run. -/
set_option maxHeartbeats 16000000
set_option maxRecDepth 100000
namespace Go.Proofs.YtcnfionnnpnplaaGreatDoor
open Go Go.RowKit Reg Mem
open List (set_cons_succ set_cons_zero setIfInBounds_toArray cons_append nil_append)
structure CfgFine (c : Cfg) : Prop where
 sizes : sizesOk c
 starts : c.starts.length ≤ 256
 progs : ∀ p ∈ c.programs,codeE p = 0
 lps : ∀ p ∈ c.lps,0 ≤ p.program ∧ p.program < c.programs.length
 dsts : ∀ s ∈ c.starts,0 ≤ s.dst ∧ s.dst < c.lps.length
 times : ∀ s ∈ c.starts,0 ≤ s.at_ ∧ s.at_ ≤ c.fin
theorem cfg_isfine {c : Cfg} (h : cfgE c = 0) : CfgFine c:=by
 unfold cfgE at h
 rw [firstE_zero] at h
 simp only [List.mem_cons,List.not_mem_nil,or_false,forall_eq_or_imp,forall_eq] at h
 obtain ⟨h1,h2,h3,h4,h5⟩:=h
 unfold sizesE at h1;unfold startsE at h2;unfold programsE at h3;unfold endsE at h4;unfold timesE at h5
 have g1 : sizesOk c:=Classical.byContradiction fun g=>by rw [if_neg g] at h1;cases h1
 have g2 : ¬ 256 < c.starts.length:=fun g=>by rw [if_pos g] at h2;cases h2
 rw [firstE_zero] at h3
 have g4:=Classical.byContradiction fun g=>by rw [if_neg g] at h4;cases h4
 have g5:=Classical.byContradiction fun g=>by rw [if_neg g] at h5;cases h5
 exact ⟨g1,by omega,fun p hp=>h3 _ (List.mem_map.2 ⟨p,hp,rfl⟩),g4.1,g4.2,g5⟩
theorem CfgFine.plen {c : Cfg} (h : CfgFine c) {p : List Instr} (hp : p ∈ c.programs) : p.length ≤ 64:=by
 have:=h.progs p hp
 unfold codeE at this
 split at this
 · cases this
 · omega
def progOf (c : Cfg) (lp : Int) : List Instr:=(c.programs[((c.lps[lp.toNat]?.getD ⟨0,⟨0,0,0,0⟩⟩).program).toNat]?).getD []
theorem CfgFine.prog {c : Cfg} (h : CfgFine c) {lp : Nat} (hl : lp < c.lps.length) : ∃ (pl : Place) (k : Nat),c.lps[lp]? = some pl ∧ pl.program = k ∧ c.programs[k]? = some (progOf c lp):=by
 obtain ⟨pl,hpl⟩ : ∃ pl,c.lps[lp]? = some pl:=⟨_,List.getElem?_eq_getElem hl⟩
 have h1:=h.lps pl (List.mem_of_getElem? hpl)
 refine ⟨pl,pl.program.toNat,hpl,by omega,?_⟩
 have hp : c.programs[pl.program.toNat]? = some (c.programs[pl.program.toNat]'(by omega)):=List.getElem?_eq_getElem (by omega)
 unfold progOf
 rw [Int.toNat_natCast,hpl,Option.getD_some,hp,Option.getD_some]
def batchC (c : Cfg) (lp : Int) (s : State) (l : List Event) : State × List Event:=batchE (progOf c lp) c.lps.length c.fin c.fuel c.fan lp s l
def BRunPost (c : Cfg) (lp : Int) (s : State) (l : List Event) (w : World) (r : Ending) (w' : World) : Prop:=
 (wrongE c.lps.length lp l ≠ 0 ∧ r = .returned (.tuple #[.agg #[.int .i64 0,.int .i64 0,.int .i64 0,.int .i64 0],.slice none 0 0,.int .i64 (wrongE c.lps.length lp l)]) ∧ Below w.heap.size w w') ∨
 (wrongE c.lps.length lp l = 0 ∧ ∃ v,r = .returned (.tuple #[.agg #[.int .i64 (batchC c lp s l).1.n0,.int .i64 (batchC c lp s l).1.n1,.int .i64 (batchC c lp s l).1.n2,.int .i64 (batchC c lp s l).1.n3],v,.int .i64 0]) ∧
   St (fun _=>False) w w' [Own 56 Event.cells 7 v (batchC c lp s l).2])
def BRel1 (b6 b8 : Nat) (cs8 : Array Value) (v vp : Value) (R : Nat) (vs hs : List Value) (c : Cfg) (p : List Instr) (lp at_ : Int) (s : State) (l : List Event) (w : World) (out i : Value) (wr : World) : Prop:=
 ∃ (j : Nat) (st : State × List Event),j ≤ l.length ∧ i = .int .i64 j ∧ Hid (st = (l.take j).foldl (oneE p c.lps.length c.fin c.fuel c.fan lp at_) (s,[])) ∧
  St (fun _=>False) w wr [Own 56 Event.cells 7 out st.2,Blk false b6 #[.int .i64 st.1.n0,.int .i64 st.1.n1,.int .i64 st.1.n2,.int .i64 st.1.n3] 50,Sl true Event.cells 7 v l,Sl true Instr.cells 5 vp p,ModA true 128 R vs hs c,Tab,Blk false b8 cs8 50]
def BRel2 (b6 b8 : Nat) (cs8 : Array Value) (v vp ve : Value) (R : Nat) (vs hs : List Value) (c : Cfg) (p : List Instr) (lp at_ : Int) (s2 : State) (o1 : List Event) (em : List Emit) (l : List Event) (w : World) (out i : Value) (wr : World) : Prop:=
 ∃ (q : Nat) (o2 : List Event),q ≤ em.length ∧ i = .int .i64 q ∧ Hid (o2 = (em.take q).foldl (sendE c.lps.length c.fin lp at_) o1) ∧ o2.length ≤ o1.length + q ∧
  St (fun _=>False) w wr [Own 56 Event.cells 7 out o2,Sl true Emit.cells 4 ve em,Blk false b6 #[.int .i64 s2.n0,.int .i64 s2.n1,.int .i64 s2.n2,.int .i64 s2.n3] 50,Sl true Event.cells 7 v l,Sl true Instr.cells 5 vp p,ModA true 128 R vs hs c,Tab,Blk false b8 cs8 50]
theorem brun_callsW (R : Nat) (vs hs : List Value) (c : Cfg) (lp : Int) (s : State) (v : Value) (l : List Event) (w : World) (F F2 F3 : Nat → Prop) (h : (ModA true 128 R vs hs c).at_ w F) (h2 : (Sl true Event.cells 7 v l).at_ w F2) (ht : Tab.at_ w F3) (hn : l.length ≤ 65536)
 (hc : cfgE c = 0) (hat : wrongE c.lps.length lp l = 0 → -9223372036854775808 ≤ atE l) :
 Calls Tryz.prog 65 #[.pointer (some ⟨R,0,none⟩),.int .i64 lp,.agg #[.int .i64 s.n0,.int .i64 s.n1,.int .i64 s.n2,.int .i64 s.n3],v] w (BRunPost c lp s l w):=by
 have S : St (fun _=>False) w w [ModA true 128 R vs hs c,Sl true Event.cells 7 v l,Tab]:=(((St.init _ w).share rfl rfl ht).share (A:=Sl true Event.cells 7 v l) rfl rfl h2).share rfl rfl h
 obtain ⟨ad,cp,rfl,_⟩:=(S.sl 1 rfl).elim fun _ h=>h.form
 clear h h2 ht
 have HW:=Lib.hid fun w F F2 h h2=>bwrong_calls R vs hs c lp (.slice ad l.length cp) l w F F2 h h2 hn
 by_cases h0 : wrongE c.lps.length lp l = 0
 case neg=>
  obtain ⟨e,he⟩ : ∃ e,wrongE c.lps.length lp l = e:=⟨_,rfl⟩
  rw [he] at h0 HW
  have h1 : (e != 0) = true:=by simpa using h0
  have He:=Lib.hid he
  have H0:=Lib.hid h0
  clear he h0
  clear hat
  go_enter Tryz.func65,Tryz.ntmps65
  go_wp2_with first | ((with_reducible apply wps_boxa (E:=50) S);(case hx=>rfl);clear S;intro b6 wz S) | ((with_reducible apply wps_alloca (E:=50) S);(case hz=>exact Tryz.zeroValue50);clear S;intro b8 wz S) | (go_at_call 63;refine Calls.mono (HW.out _ _ _ (S.get (i:=2) rfl).choose_spec (S.get (i:=3) rfl).choose_spec) ?_;rintro e wz ⟨rfl,hE⟩;replace S:=S.ext (Keep.of_below hE);clear hE) | ((with_reducible apply wps_storea (T:=50) S 0 (vs:=[.int .i64 0,.int .i64 0,.int .i64 0,.int .i64 0]) (m:=4));(case hx|hy|hi|hm|h1=>rfl);(case hn=>exact nle rfl);(case hT=>decide +kernel);clear S;intro wz S;simp only [set_cons_zero,set_cons_succ,setAll,setIfInBounds_toArray] at S)
  (try simp only [Exit.inBlock,Exit.then]);refine bodyPost_ret (results3 rfl (S.resA 0 rfl rfl (by kernel_rfl)) (res_tmp rfl) (res_tmp rfl)) rfl ?_
  exact .inl ⟨by rw [He.out];exact H0.out,by rw [He.out];rfl,S.below⟩
 case pos=>
 have ha0:=hat h0
 clear hat
 rw [h0] at HW
 have hok:=cfg_isfine hc
 have hfn : c.fin ≤ 1073741824:=by have:=hok.sizes;unfold sizesOk at this;omega
 have hlp : 0 ≤ lp ∧ lp < c.lps.length:=Classical.byContradiction fun g=>by
  unfold wrongE at h0;rw [if_pos (by omega)] at h0;cases h0
 have hl0 : 0 < l.length:=Nat.pos_of_ne_zero fun g=>by
  unfold wrongE at h0;rw [if_neg (by omega),if_pos g] at h0;cases h0
 obtain ⟨lpn,rfl⟩ : ∃ n : Nat,lp = n:=⟨lp.toNat,by omega⟩
 obtain ⟨pl,k,hpl,hk,hpk⟩:=hok.prog (lp:=lpn) (by omega)
 have hpn:=hok.plen (List.mem_of_getElem? hpk)
 have HB : Hid (batchC c lpn s l = (sortE l).foldl (oneE (progOf c lpn) c.lps.length c.fin c.fuel c.fan lpn (atE l)) (s,[])):=rfl
 obtain ⟨B,hQ⟩ : ∃ B,batchC c lpn s l = B:=⟨_,rfl⟩
 obtain ⟨p,hp⟩ : ∃ p,progOf c lpn = p:=⟨_,rfl⟩
 rw [hp] at hpk hpn HB
 rw [hQ] at HB
 have HP:=Lib.hid fun w F h=>program_at R vs hs c w F lpn k pl p h hpl hk hpk (by omega)
 obtain ⟨x0,hx0⟩ : ∃ x,l[0]? = some x:=⟨_,List.getElem?_eq_getElem hl0⟩
 have hA0 : x0.key.at_ = atE l:=by cases l with
  | nil=>simp at hx0
  | cons a l=>simp at hx0;subst hx0;rfl
 obtain ⟨R0,o0,rfl⟩ : ∃ R o,ad = some ⟨R,o,none⟩:=(S.sl 1 rfl).elim fun F h=>h.head hl0
 have hl0b : (0 : Int) < l.length:=by omega
 have hfu:=hok.sizes.2.2.2.1.2
 have hfu0:=hok.sizes.2.2.2.1.1
 have hfa:=hok.sizes.2.2.2.2
 have HO:=Lib.hid hok
 have hst:=sortE_len l
 rw [← hA0] at ha0 HB
 clear hA0 hc hok hlp hpl hk hpk hp
 have Hx0:=Lib.hid hx0
 have H0:=Lib.hid h0
 have HQ:=Lib.hid hQ
 have Hfu:=Lib.hid hfu
 have Hfa:=Lib.hid hfa
 have Hfu0:=Lib.hid hfu0
 clear hx0 h0 hQ hfu hfa hfu0
 go_enter Tryz.func65,Tryz.ntmps65
 go_wp2_with first | ((with_reducible apply wps_boxa (E:=50) S);(case hx=>rfl);clear S;intro b6 wz S) | ((with_reducible apply wps_alloca (E:=50) S);(case hz=>exact Tryz.zeroValue50);clear S;intro b8 wz S) | (go_at_call 63;refine Calls.mono (HW.out _ _ _ (S.get (i:=2) rfl).choose_spec (S.get (i:=3) rfl).choose_spec) ?_;rintro e wz ⟨rfl,hE⟩;replace S:=S.ext (Keep.of_below hE);clear hE) | ((with_reducible apply wps_load_el S 3 (hj:=Hx0.out) (q:=0) (u:=.int .i64 x0.key.at_));(case hx|hi=>rfl);(case hn=>omega);(case hu=>rfl);(case hT=>decide +kernel)) | (go_at_call 96;refine Calls.mono (HP.out _ _ (S.get (i:=2) rfl).choose_spec) ?_;rintro r wz ⟨ad2,c2,rfl,T⟩;replace S:=(S.join T rfl).freeze true 0 incells rfl;clear T;simp only [cons_append,nil_append,set_cons_zero] at S) | (go_at_call 44;refine Calls.mono (sort_calls _ l _ _ (S.get (i:=4) rfl).choose_spec hn) ?_;rintro r wz ⟨ad3,c3,rfl,T⟩;replace S:=(S.join T rfl).freeze true 0 ecells rfl;clear T;simp only [cons_append,nil_append,set_cons_zero] at S)
 rw [← hst] at hn S ⊢
 clear hst
 generalize sortE l = sl at *
 replace S:=(S.nil 56 Event.cells 7).pick [0,4,1,2,5,7,3] rfl
 simp only [pick,nth] at S
 go_loopw [14,41] (fun out i wr=>BRel1 b6 b8 #[.int .i64 0,.int .i64 0,.int .i64 0,.int .i64 0] (.slice ad3 sl.length c3) (.slice ad2 p.length c2) R vs hs c p lpn x0.key.at_ s sl w out i wr) (fun _ i _=>sl.length - (intOf i).toNat)
 case atStart=>exact ⟨0,(s,[]),Nat.zero_le _,rfl,rfl,S⟩
 case round=>
  clear S
  obtain ⟨j,st,hj,rfl,Hs,S⟩:=hrel
  by_cases hlt : j < sl.length
  · obtain ⟨x,hx⟩ : ∃ x,sl[j]? = some x:=⟨_,List.getElem?_eq_getElem hlt⟩
    obtain ⟨R3,o3,rfl⟩ : ∃ R o,ad3 = some ⟨R,o,none⟩:=(S.sl 2 rfl).elim fun F h=>h.head (by omega)
    have hlt2 : (j : Int) < sl.length:=by omega
    have hs2 : st.2.length ≤ 8 * j:=by
     have:=ones_len (p:=p) (n:=c.lps.length) (fin:=c.fin) (fuel:=c.fuel) (lp:=lpn) (at_:=x0.key.at_) Hfa.out.1 (sl.take j) (s,[])
     rw [← Hs.out] at this
     have h8 : c.fan * ((sl.take j).length : Int) ≤ 8 * ((sl.take j).length : Int):=Int.mul_le_mul_of_nonneg_right Hfa.out.2 (by omega)
     simp only [List.length_nil,List.length_take] at this h8
     omega
    have Hn : Hid ((sl.take (j + 1)).foldl (oneE p c.lps.length c.fin c.fuel c.fan lpn x0.key.at_) (s,[]) = oneE p c.lps.length c.fin c.fuel c.fan lpn x0.key.at_ st x):=by
     show _ = _;rw [List.take_add_one,hx,Option.toList_some,List.foldl_append,← Hs.out];rfl
    have hV:=fun w F F2 h ht=>vrun_calls ad2 c2 p st.1 x c.fuel c.fan w F F2 h ht hpn (by have:=Hfu0.out;omega)
    obtain ⟨m,hm⟩ : ∃ m,runE p st.1 x c.fuel c.fan = m:=⟨_,rfl⟩
    have hem : m.sent.length ≤ 8:=by have:=runE_fan (p:=p) (s:=st.1) (e:=x) (fuel:=c.fuel) Hfa.out.1;rw [hm] at this;have:=Hfa.out.2;omega
    have Hn2 : Hid (oneE p c.lps.length c.fin c.fuel c.fan lpn x0.key.at_ st x = (m.state,m.sent.foldl (sendE c.lps.length c.fin lpn x0.key.at_) st.2)):=by show _ = _;unfold oneE;rw [hm]
    rw [hm] at hV
    clear hm
    obtain ⟨em,he⟩ : ∃ em,m.sent = em:=⟨_,rfl⟩
    obtain ⟨ms,hms⟩ : ∃ s,m.state = s:=⟨_,rfl⟩
    unfold VRunPost at hV
    rw [he,hms] at hV Hn2
    rw [he] at hem
    clear he hms
    have Hx:=Lib.hid hx
    have HV:=Lib.hid hV
    clear hx hV
    go_wp2_with first | ((with_reducible apply wps_alloca (E:=56) S);(case hz=>exact Tryz.zeroValue56);clear S;intro bx wz S) | ((with_reducible apply wps_loada_el S 2 (hj:=Hx.out) (q:=0) (vs:=[.int .i64 x.key.at_,.int .i64 x.key.src,.int .i64 x.key.sent,.int .i64 x.key.no,.int .i64 x.dst,.int .i64 x.kind,.int .i64 x.data]) (m:=7));(case hx|hi=>rfl);(case hn=>omega);(case hm|hv=>rfl);(case hT=>decide +kernel)) | ((with_reducible apply wps_storea (T:=56) S 0 (vs:=[.int .i64 x.key.at_,.int .i64 x.key.src,.int .i64 x.key.sent,.int .i64 x.key.no,.int .i64 x.dst,.int .i64 x.kind,.int .i64 x.data]) (m:=7));(case hx|hy|hi|hm|h1=>rfl);(case hn=>exact nle rfl);(case hT=>decide +kernel);clear S;intro wz S;simp only [set_cons_zero,set_cons_succ,setAll,setIfInBounds_toArray] at S)
    (refine wp_region_w (soft:=[0,1,2,3,4,5,6]) S ?hm ?hB ?_);(case hm=>kernel_rfl);(case hB=>decide +kernel);clear S
    iterate 7
     (with_reducible apply softs_cons)
     (case hw=>
       (with_reducible apply soft_of);(case hi=>rfl)
       intro T wz S
       simp only [cons_append,nil_append] at S
       go_wp2_with first | (go_at_call 98;refine Calls.mono (fuel_calls _ _ _ _ _ _ (S.get (i:=5) rfl).choose_spec) ?_;rintro e wz ⟨rfl,hE⟩;replace S:=S.ext (Keep.of_below hE);clear hE) | (go_at_call 99;refine Calls.mono (fan_calls _ _ _ _ _ _ (S.get (i:=5) rfl).choose_spec) ?_;rintro e wz ⟨rfl,hE⟩;replace S:=S.ext (Keep.of_below hE);clear hE) | ((with_reducible refine tot_done ?ht ?_);(case ht=>kernel_rfl)) | ((with_reducible apply wps_loada (T:=56) (k:=7) S 0);(case hx|hi=>rfl);(case hk=>exact nle rfl);(case hT=>decide +kernel)) | ((with_reducible apply wps_loada (T:=50) (k:=4) S 2);(case hx|hi=>rfl);(case hk=>exact nle rfl);(case hT=>decide +kernel))
       exact ⟨rfl,S⟩)
     (case hs=>exact ⟨_,rfl,by kernel_rfl⟩)
    refine softs_nil ?_
    (with_reducible apply W_hard2 (i:=7) (i':=12));(case hn=>rfl);(case hr=>decide +kernel)
    focus
     intro wz S
     (with_reducible apply hard_of);(case hi=>rfl)
     simp only [cons_append,nil_append] at S
     go_wp2_with first | (go_at_call 97;refine Calls.mono (HV.out _ _ _ (S.get (i:=4) rfl).choose_spec (S.get (i:=6) rfl).choose_spec) ?_;rintro r wz ⟨kk,ade,ce,rfl,T⟩;replace S:=S.join T rfl;clear T;simp only [cons_append,nil_append] at S) | ((with_reducible refine tot_done ?ht ?_);(case ht=>kernel_rfl))
     refine ⟨_,S.pick [1,2,3,4,5,6,7,8,0] rfl,?_⟩
     clear S
     (refine W_mid (f:=4) (soft:=[8,9,10,11]) rfl ?hB ?_);(case hB=>decide +kernel)
     iterate 4
      (with_reducible apply softs_cons)
      (case hw=>
        (with_reducible apply soft_of);(case hi=>rfl)
        intro T wz S
        simp only [cons_append,nil_append] at S
        go_wp2_with first | ((with_reducible refine tot_done ?ht ?_);(case ht=>kernel_rfl))
        exact ⟨rfl,S⟩)
      (case hs=>exact ⟨_,rfl,by kernel_rfl⟩)
     refine softs_nil ?_
     (with_reducible apply W_hard1 (i:=12));(case hn=>rfl);(case hr=>decide +kernel)
     intro wz S
     (with_reducible apply hard_of);(case hi=>rfl)
     simp only [cons_append,nil_append] at S
     go_wp2_with first | ((with_reducible apply wps_alloca (E:=50) S);(case hz=>exact Tryz.zeroValue50);clear S;intro b17 wz S) | ((with_reducible refine tot_done ?ht ?_);(case ht=>kernel_rfl))
     refine ⟨_,S.pick [1,2,3,4,5,6,7,8,9,0] rfl,?_⟩
     clear S
     (with_reducible apply W_hard1 (i:=13));(case hn=>rfl);(case hr=>decide +kernel)
     intro wz S
     (with_reducible apply hard_of);(case hi=>rfl)
     simp only [cons_append,nil_append] at S
     go_wp2_with first | ((with_reducible apply wps_storea (T:=50) S 9 (vs:=[.int .i64 ms.n0,.int .i64 ms.n1,.int .i64 ms.n2,.int .i64 ms.n3]) (m:=4));(case hx|hy|hi|hm|h1=>rfl);(case hn=>exact nle rfl);(case hT=>decide +kernel);clear S;intro wz S;simp only [set_cons_zero,set_cons_succ,setAll,setIfInBounds_toArray] at S) | ((with_reducible refine tot_done ?ht ?_);(case ht=>kernel_rfl))
     refine ⟨_,S,?_⟩
     clear S
     (refine W_mid (f:=0) (soft:=[14,15]) rfl ?hB ?_);(case hB=>decide +kernel)
     iterate 2
      (with_reducible apply softs_cons)
      (case hw=>
        (with_reducible apply soft_of);(case hi=>rfl)
        intro T wz S
        simp only [cons_append,nil_append] at S
        go_wp2_with first | ((with_reducible refine tot_done ?ht ?_);(case ht=>kernel_rfl))
        exact ⟨rfl,S⟩)
      (case hs=>exact ⟨_,rfl,by kernel_rfl⟩)
     refine softs_nil ?_
     (with_reducible apply W_done);(case hn=>rfl);(case hr=>decide +kernel)
     intro wz S
     repeat (first | simp only at S | simp only [pick] at S | simp only [nth] at S | simp only [set_cons_succ] at S | simp only [set_cons_zero] at S | simp only [setIfInBounds_toArray] at S | simp only [setAll] at S | simp only [cons_append] at S | simp only [nil_append] at S | simp only [List.append_nil] at S)
    rotate_left 1
    focus
     intro wz S
     (with_reducible apply hard_of);(case hi=>rfl)
     simp only [cons_append,nil_append] at S
     go_wp2_with first | ((with_reducible apply wps_alloca (E:=50) S);(case hz=>exact Tryz.zeroValue50);clear S;intro b17 wz S) | ((with_reducible refine tot_done ?ht ?_);(case ht=>kernel_rfl))
     refine ⟨_,S.pick [1,2,3,4,5,6,7,8,0] rfl,?_⟩
     clear S
     (with_reducible apply W_hard1 (i:=7));(case hn=>rfl);(case hr=>decide +kernel)
     intro wz S
     (with_reducible apply hard_of);(case hi=>rfl)
     simp only [cons_append,nil_append] at S
     go_wp2_with first | (go_at_call 97;refine Calls.mono (HV.out _ _ _ (S.get (i:=4) rfl).choose_spec (S.get (i:=6) rfl).choose_spec) ?_;rintro r wz ⟨kk,ade,ce,rfl,T⟩;replace S:=S.join T rfl;clear T;simp only [cons_append,nil_append] at S) | ((with_reducible refine tot_done ?ht ?_);(case ht=>kernel_rfl))
     refine ⟨_,S.pick [1,2,3,4,5,6,7,8,0,9] rfl,?_⟩
     clear S
     (refine W_mid (f:=3) (soft:=[8,9,10,11]) rfl ?hB ?_);(case hB=>decide +kernel)
     iterate 4
      (with_reducible apply softs_cons)
      (case hw=>
        (with_reducible apply soft_of);(case hi=>rfl)
        intro T wz S
        simp only [cons_append,nil_append] at S
        go_wp2_with first | ((with_reducible refine tot_done ?ht ?_);(case ht=>kernel_rfl))
        exact ⟨rfl,S⟩)
      (case hs=>exact ⟨_,rfl,by kernel_rfl⟩)
     refine softs_nil ?_
     (with_reducible apply W_hard1 (i:=13));(case hn=>rfl);(case hr=>decide +kernel)
     intro wz S
     (with_reducible apply hard_of);(case hi=>rfl)
     simp only [cons_append,nil_append] at S
     go_wp2_with first | ((with_reducible apply wps_storea (T:=50) S 9 (vs:=[.int .i64 ms.n0,.int .i64 ms.n1,.int .i64 ms.n2,.int .i64 ms.n3]) (m:=4));(case hx|hy|hi|hm|h1=>rfl);(case hn=>exact nle rfl);(case hT=>decide +kernel);clear S;intro wz S;simp only [set_cons_zero,set_cons_succ,setAll,setIfInBounds_toArray] at S) | ((with_reducible refine tot_done ?ht ?_);(case ht=>kernel_rfl))
     refine ⟨_,S,?_⟩
     clear S
     (refine W_mid (f:=0) (soft:=[14,15]) rfl ?hB ?_);(case hB=>decide +kernel)
     iterate 2
      (with_reducible apply softs_cons)
      (case hw=>
        (with_reducible apply soft_of);(case hi=>rfl)
        intro T wz S
        simp only [cons_append,nil_append] at S
        go_wp2_with first | ((with_reducible refine tot_done ?ht ?_);(case ht=>kernel_rfl))
        exact ⟨rfl,S⟩)
      (case hs=>exact ⟨_,rfl,by kernel_rfl⟩)
     refine softs_nil ?_
     (with_reducible apply W_done);(case hn=>rfl);(case hr=>decide +kernel)
     intro wz S
     repeat (first | simp only at S | simp only [pick] at S | simp only [nth] at S | simp only [set_cons_succ] at S | simp only [set_cons_zero] at S | simp only [setIfInBounds_toArray] at S | simp only [setAll] at S | simp only [cons_append] at S | simp only [nil_append] at S | simp only [List.append_nil] at S)
    all_goals
     go_wp2_with first | ((with_reducible apply wps_loada (T:=50) (k:=4) S 9);(case hx|hi=>rfl);(case hk=>exact nle rfl);(case hT=>decide +kernel)) | ((with_reducible apply wps_storea (T:=50) S 2 (vs:=[.int .i64 ms.n0,.int .i64 ms.n1,.int .i64 ms.n2,.int .i64 ms.n3]) (m:=4));(case hx|hy|hi|hm|h1=>rfl);(case hn=>exact nle rfl);(case hT=>decide +kernel);clear S;intro wz S;simp only [set_cons_zero,set_cons_succ,setAll,setIfInBounds_toArray] at S)
     replace S:=(S.freeze true 8 emcells rfl).pick [1,8,2,3,4,5,6,7] rfl
     repeat (first | simp only at S | simp only [pick] at S | simp only [nth] at S | simp only [set_cons_succ] at S | simp only [set_cons_zero] at S | simp only [setIfInBounds_toArray] at S | simp only [setAll] at S | simp only [cons_append] at S | simp only [nil_append] at S | simp only [List.append_nil] at S)
     go_loopw [14,60] (fun out i wr=>BRel2 b6 b8 #[.int .i64 0,.int .i64 0,.int .i64 0,.int .i64 0] (.slice (some ⟨R3,o3,none⟩) sl.length c3) (.slice ad2 p.length c2) (.slice ade em.length ce) R vs hs c p lpn x0.key.at_ ms st.2 em sl w out i wr) (fun _ i _=>em.length - (intOf i).toNat)
     case atStart=>exact ⟨0,st.2,Nat.zero_le _,rfl,rfl,Nat.le_refl _,S⟩
     case round=>
      clear S
      obtain ⟨q,o2,hq,rfl,Ho,hol,S⟩:=hrel
      obtain ⟨ado,co,rfl⟩ : ∃ a c,_ = Value.slice a o2.length c:=(S.get (i:=0) rfl).elim fun F h=>h.1.form
      have hol2 : o2.length ≤ 600000:=by omega
      by_cases hqt : q < em.length
      · obtain ⟨y,hy⟩ : ∃ y,em[q]? = some y:=⟨_,List.getElem?_eq_getElem hqt⟩
        obtain ⟨Re,oe,rfl⟩ : ∃ R o,ade = some ⟨R,o,none⟩:=(S.sl 1 rfl).elim fun F h=>h.head (by omega)
        have hqt2 : (q : Int) < em.length:=by omega
        have HM:=Lib.hid fun w F h=>bmessage_calls R vs hs c x0.key.at_ y w F h ha0 hfn
        have Hf : Hid ((em.take (q + 1)).foldl (sendE c.lps.length c.fin lpn x0.key.at_) st.2 = sendE c.lps.length c.fin lpn x0.key.at_ o2 y):=by
         show _ = _;rw [List.take_add_one,hy,Option.toList_some,List.foldl_append,← Ho.out];rfl
        cases hmsg : msgE c.lps.length c.fin x0.key.at_ y with
        | false=>
          rw [hmsg] at HM
          have Hf2 : Hid (o2 = (em.take (q + 1)).foldl (sendE c.lps.length c.fin lpn x0.key.at_) st.2):=by show _ = _;rw [Hf.out];unfold sendE;rw [hmsg];rfl
          clear hmsg Hf
          have Hy:=Lib.hid hy
          clear hy
          go_wp2_with first | ((with_reducible apply wps_alloca (E:=177) S);(case hz=>exact Tryz.zeroValue177);clear S;intro by_ wz S) | ((with_reducible apply wps_loada_el S 1 (hj:=Hy.out) (q:=0) (vs:=[.int .i64 y.dst,.int .i64 y.delay,.int .i64 y.kind,.int .i64 y.data]) (m:=4));(case hx|hi=>rfl);(case hn=>omega);(case hm|hv=>rfl);(case hT=>decide +kernel)) | ((with_reducible apply wps_loada (T:=177) (k:=4) S 0);(case hx|hi=>rfl);(case hk=>exact nle rfl);(case hT=>decide +kernel)) | ((with_reducible apply wps_storea (T:=177) S 0 (vs:=[.int .i64 y.dst,.int .i64 y.delay,.int .i64 y.kind,.int .i64 y.data]) (m:=4));(case hx|hy|hi|hm|h1=>rfl);(case hn=>exact nle rfl);(case hT=>decide +kernel);clear S;intro wz S;simp only [set_cons_zero,set_cons_succ,setAll,setIfInBounds_toArray] at S) | (go_at_call 100;refine Calls.mono (HM.out _ _ (S.get (i:=6) rfl).choose_spec) ?_;rintro e wz ⟨rfl,hE⟩;replace S:=S.ext (Keep.of_below hE);clear hE)
          go_roundw
          case rel=>exact ⟨q + 1,o2,by omega,by go_num,Hf2.out,by omega,S.pick [1,2,3,4,5,6,7,8] rfl⟩
          case measure=>first | (simp [intOf];done) | (simp [intOf];omega)
        | true=>
          rw [hmsg] at HM
          have Hf2 : Hid (o2 ++ [⟨⟨x0.key.at_ + y.delay,lpn,x0.key.at_,o2.length⟩,y.dst,y.kind,y.data⟩] = (em.take (q + 1)).foldl (sendE c.lps.length c.fin lpn x0.key.at_) st.2):=by show _ = _;rw [Hf.out];unfold sendE;rw [hmsg];rfl
          have hmm : 1 ≤ y.delay ∧ y.delay ≤ 1073741824 ∧ x0.key.at_ + y.delay ≤ 1073741824:=by unfold msgE at hmsg;rw [decide_eq_true_eq] at hmsg;omega
          obtain ⟨hd1,hd2,hd3⟩:=hmm
          clear hmsg Hf
          have Hy:=Lib.hid hy
          clear hy
          go_wp2_with first | ((with_reducible apply wps_alloca (E:=177) S);(case hz=>exact Tryz.zeroValue177);clear S;intro by_ wz S) | ((with_reducible apply wps_loada_el S 1 (hj:=Hy.out) (q:=0) (vs:=[.int .i64 y.dst,.int .i64 y.delay,.int .i64 y.kind,.int .i64 y.data]) (m:=4));(case hx|hi=>rfl);(case hn=>omega);(case hm|hv=>rfl);(case hT=>decide +kernel)) | ((with_reducible apply wps_loada (T:=177) (k:=4) S 0);(case hx|hi=>rfl);(case hk=>exact nle rfl);(case hT=>decide +kernel)) | ((with_reducible apply wps_load S 0);(case hx|hi|hu=>rfl);(case hT=>decide +kernel)) | ((with_reducible apply wps_storea (T:=177) S 0 (vs:=[.int .i64 y.dst,.int .i64 y.delay,.int .i64 y.kind,.int .i64 y.data]) (m:=4));(case hx|hy|hi|hm|h1=>rfl);(case hn=>exact nle rfl);(case hT=>decide +kernel);clear S;intro wz S;simp only [set_cons_zero,set_cons_succ,setAll,setIfInBounds_toArray] at S) | (go_at_call 100;refine Calls.mono (HM.out _ _ (S.get (i:=6) rfl).choose_spec) ?_;rintro e wz ⟨rfl,hE⟩;replace S:=S.ext (Keep.of_below hE);clear hE) | ((with_reducible apply wps_build1a (T:=48) (E:=56) S);(case hx=>rfl);(case hr=>intro w;kernel_rfl);clear S;intro bz wz S) | ((with_reducible apply wps_append1 elem_Ev ecells eone (by decide) S 2 (j:=0) (e:=(⟨⟨x0.key.at_ + y.delay,lpn,x0.key.at_,o2.length⟩,y.dst,y.kind,y.data⟩ : Event)));(case hx|hy|hi|hj|he=>rfl);(case hl=>first | omega | (simp;omega));clear S;intro az nz cz wz hnz S;simp only [set_cons_succ,set_cons_zero] at S)
          go_roundw
          case rel=>exact ⟨q + 1,_,by omega,by go_num,Hf2.out,by simp;omega,S.pick [2,3,4,5,6,7,8,9] rfl⟩
          case measure=>first | (simp [intOf];done) | (simp [intOf];omega)
      · obtain rfl : q = em.length:=by omega
        have HE : Hid ((ms,o2) = (sl.take (j + 1)).foldl (oneE p c.lps.length c.fin c.fuel c.fan lpn x0.key.at_) (s,[])):=by show _ = _;rw [Hn.out,Hn2.out,Ho.out,List.take_length]
        go_wp2_with first | ((with_reducible apply wps_loada (T:=177) (k:=4) S 0);(case hx|hi=>rfl);(case hk=>exact nle rfl);(case hT=>decide +kernel))
        go_roundw
        case rel=>exact ⟨j + 1,(ms,o2),by omega,by go_num,HE.out,S.pick [0,2,3,4,5,6,7] rfl⟩
        case measure=>first | (simp [intOf];done) | (simp [intOf];omega)
  · obtain rfl : j = sl.length:=by omega
    have HE : Hid (batchC c lpn s l = st):=by show _ = _;rw [HQ.out,HB.out,Hs.out,List.take_length]
    obtain ⟨ado,co,rfl⟩ : ∃ a c,_ = Value.slice a st.2.length c:=(S.get (i:=0) rfl).elim fun F h=>h.1.form
    go_wp2_with first | ((with_reducible apply wps_storea (T:=50) S 6 (vs:=[.int .i64 st.1.n0,.int .i64 st.1.n1,.int .i64 st.1.n2,.int .i64 st.1.n3]) (m:=4));(case hx|hy|hi|hm|h1=>rfl);(case hn=>exact nle rfl);(case hT=>decide +kernel);clear S;intro wz S;simp only [set_cons_zero,set_cons_succ,setAll,setIfInBounds_toArray] at S) | ((with_reducible apply wps_loada (T:=50) (k:=4) S 1);(case hx|hi=>rfl);(case hk=>exact nle rfl);(case hT=>decide +kernel))
    (try simp only [Exit.inBlock,Exit.then]);refine bodyPost_ret (results3 rfl (S.resA 6 rfl rfl (by kernel_rfl)) (res_tmp rfl) (res_tmp rfl)) rfl ?_
    exact .inr ⟨H0.out,.slice ado st.2.length co,by rw [HE.out];rfl,by rw [HE.out];exact S.pick [0] rfl⟩
theorem brun_calls (R : Nat) (vs hs : List Value) (c : Cfg) (lp : Int) (s : State) (v : Value) (l : List Event) (w : World) (F F2 F3 : Nat → Prop) (h : (ModA true 128 R vs hs c).at_ w F) (h2 : (Sl true Event.cells 7 v l).at_ w F2) (ht : Tab.at_ w F3) (hn : l.length ≤ 65536)
 (hc : cfgE c = 0) (hat : wrongE c.lps.length lp l = 0 → 0 ≤ atE l ∧ atE l ≤ 1073741824) :
 Calls Tryz.prog 65 #[.pointer (some ⟨R,0,none⟩),.int .i64 lp,.agg #[.int .i64 s.n0,.int .i64 s.n1,.int .i64 s.n2,.int .i64 s.n3],v] w (BRunPost c lp s l w):=
 brun_callsW R vs hs c lp s v l w F F2 F3 h h2 ht hn hc fun h=>by have:=hat h;omega
end Go.Proofs.YtcnfionnnpnplaaGreatDoor
