import Derived.Test.YtcnfionnnpnplaaGreatDoorZ13
import Derived.Test.YtcnfionnnpnplaaGreatDoorZ09
import Derived.Test.YtcnfionnnpnplaaGreatDoorZ12
import Derived.Deep.CutRange
/- Plain: batches. No program in sight. -/
set_option maxHeartbeats 16000000
set_option maxRecDepth 100000
namespace Go.Proofs.YtcnfionnnpnplaaGreatDoor
open Go Go.RowKit Mem
open List (set_cons_succ set_cons_zero setIfInBounds_toArray cons_append nil_append)
def twiceB (l : List Event) : Bool:=!decide ((l.map (·.key)).Nodup)
theorem twice_perm {l m : List Event} (h : l.Perm m) : twiceB l = twiceB m:=by
 unfold twiceB;congr 1;rw [Bool.eq_iff_iff];simpa using (h.map _).nodup_iff
theorem twice_yes {l : List Event} {i j : Nat} {x y : Event} (hx : l[i]? = some x) (hy : l[j]? = some y) (hij : i ≠ j) (hk : x.key = y.key) : twiceB l = true:=by
 unfold twiceB
 rw [Bool.not_eq_true',decide_eq_false_iff_not]
 intro hn
 obtain ⟨h1,h2⟩:=List.getElem?_eq_some_iff.1 hx
 obtain ⟨g1,g2⟩:=List.getElem?_eq_some_iff.1 hy
 have e1 : (l.map (·.key))[i]? = some x.key:=by simp [hx]
 have e2 : (l.map (·.key))[j]? = some x.key:=by simp [hy,hk]
 obtain ⟨a1,a2⟩:=List.getElem?_eq_some_iff.1 e1
 obtain ⟨b1,b2⟩:=List.getElem?_eq_some_iff.1 e2
 exact hij ((List.getElem_inj hn).1 (a2.trans b2.symm))
theorem sortE_up (l : List Event) : (sortE l).Pairwise (fun x y=>y.key.lt x.key = false):=by
 obtain ⟨ys,_,hs,e⟩:=sortE_ex l
 rw [← e,List.pairwise_map]
 refine List.Pairwise.imp (fun {x y} h=>?_) hs
 rcases h with h | h
 · exact Key.lt_asymm' h
 · exact h.1
theorem nodup_rise : ∀ {s : List Event},s.Pairwise (fun x y=>y.key.lt x.key = false) → (∀ (q : Nat) x y,s[q]? = some x → s[q + 1]? = some y → x.key ≠ y.key) → (s.map (·.key)).Nodup
 | [],_,_=>List.nodup_nil
 | [x],_,_=>by simp
 | x :: y :: s,hp,hq=>by
   have ih:=nodup_rise (s:=y :: s) (List.pairwise_cons.1 hp).2 (fun q a b ha hb=>hq (q + 1) a b (by simpa using ha) (by simpa using hb))
   rw [List.map_cons,List.nodup_cons]
   refine ⟨fun hm=>?_,ih⟩
   obtain ⟨z,hz,e⟩:=List.mem_map.1 hm
   have h1:=(List.pairwise_cons.1 hp).1 y (by simp)
   have h2 : z.key.lt y.key = false:=by
    rcases List.mem_cons.1 hz with rfl | hz
    · exact Key.lt_irrefl' _
    · exact (List.pairwise_cons.1 (List.pairwise_cons.1 hp).2).1 z hz
   have h3:=hq 0 x y rfl rfl
   exact h3 (Key.eq_of (by rw [← e];exact h2) h1)
theorem twice_no {l : List Event} (h : ∀ (q : Nat) x y,(sortE l)[q]? = some x → (sortE l)[q + 1]? = some y → x.key ≠ y.key) : twiceB l = false:=by
 rw [← twice_perm (sortE_perm l)]
 unfold twiceB
 rw [Bool.not_eq_false',decide_eq_true_eq]
 exact nodup_rise (sortE_up l) h
def procE (n : Nat) (lp : Int) : Int:=if lp < 0 ∨ (n : Int) ≤ lp then 10 else 0
def atE (l : List Event) : Int:=match l with | []=>0 | x :: _=>x.key.at_
def wrongE (n : Nat) (lp : Int) (l : List Event) : Int:=
 if lp < 0 ∨ (n : Int) ≤ lp then 10 else if l.length = 0 then 14 else if ¬ (∀ x ∈ l,x.dst = lp) then 10 else if ¬ (∀ x ∈ l,x.key.at_ = atE l) then 18 else if twiceB l = true then 13 else 0
def msgE (n : Nat) (fin at_ : Int) (y : Emit) : Bool:=decide (0 ≤ y.dst ∧ y.dst < n ∧ 1 ≤ y.delay ∧ y.delay ≤ 1073741824 ∧ at_ + y.delay ≤ fin)
def sendE (n : Nat) (fin lp at_ : Int) (out : List Event) (y : Emit) : List Event:=
 if msgE n fin at_ y = true then out ++ [⟨⟨at_ + y.delay,lp,at_,out.length⟩,y.dst,y.kind,y.data⟩] else out
def oneE (p : List Instr) (n : Nat) (fin fuel fan lp at_ : Int) (st : State × List Event) (x : Event) : State × List Event:=
 ((runE p st.1 x fuel fan).state,(runE p st.1 x fuel fan).sent.foldl (sendE n fin lp at_) st.2)
def batchE (p : List Instr) (n : Nat) (fin fuel fan lp : Int) (s : State) (l : List Event) : State × List Event:=
 (sortE l).foldl (oneE p n fin fuel fan lp (atE l)) (s,[])
theorem send_len {n : Nat} {fin lp at_ : Int} : ∀ (em : List Emit) (out : List Event),(em.foldl (sendE n fin lp at_) out).length ≤ out.length + em.length
 | [],out=>Nat.le_refl _
 | y :: em,out=>by
   have h:=send_len (n:=n) (fin:=fin) (lp:=lp) (at_:=at_) em (sendE n fin lp at_ out y)
   have h2 : (sendE n fin lp at_ out y).length ≤ out.length + 1:=by unfold sendE;split <;> simp
   simp only [List.foldl_cons,List.length_cons]
   omega
theorem doE_fan {e : Event} {fan : Int} {m : Mach} {x : Instr} (h : (m.sent.length : Int) ≤ fan) : ((doE e fan m x).sent.length : Int) ≤ fan:=by
 have key : ∀ {c : Prop} [Decidable c] {a b : Mach},(c → (a.sent.length : Int) ≤ fan) → (¬ c → (b.sent.length : Int) ≤ fan) → ((if c then a else b).sent.length : Int) ≤ fan:=by
  intro c _ a b ha hb
  by_cases h : c
  · rw [if_pos h];exact ha h
  · rw [if_neg h];exact hb h
 unfold doE
 repeat' (refine key (fun _=>?_) (fun _=>?_))
 all_goals first | exact h | (simp;omega)
theorem stepsE_fan {p : List Instr} {e : Event} {fan : Int} : ∀ (n : Nat) (m : Mach),(m.sent.length : Int) ≤ fan → ((stepsE p e fan n m).sent.length : Int) ≤ fan
 | 0,m,h=>h
 | n + 1,m,h=>by
   unfold stepsE
   cases hs : stepE p e fan m with
   | none=>exact h
   | some m2=>
     refine stepsE_fan n m2 ?_
     unfold stepE at hs
     split at hs
     · cases hs
     · split at hs
       · cases hs
       · split at hs
         · cases hs
         · cases hs;exact doE_fan h
theorem runE_fan {p : List Instr} {s : State} {e : Event} {fuel fan : Int} (h0 : 0 ≤ fan) : ((runE p s e fuel fan).sent.length : Int) ≤ fan:=stepsE_fan _ _ (by simpa [startE] using h0)
theorem ones_len {p : List Instr} {n : Nat} {fin fuel fan lp at_ : Int} (h0 : 0 ≤ fan) : ∀ (l : List Event) (st : State × List Event),((l.foldl (oneE p n fin fuel fan lp at_) st).2.length : Int) ≤ st.2.length + fan * l.length
 | [],st=>by simp
 | x :: l,st=>by
   have h:=ones_len (p:=p) (n:=n) (fin:=fin) (fuel:=fuel) (lp:=lp) (at_:=at_) h0 l (oneE p n fin fuel fan lp at_ st x)
   have h2 : ((oneE p n fin fuel fan lp at_ st x).2.length : Int) ≤ st.2.length + fan:=by
    have:=send_len (n:=n) (fin:=fin) (lp:=lp) (at_:=at_) (runE p st.1 x fuel fan).sent st.2
    have:=runE_fan (p:=p) (s:=st.1) (e:=x) (fuel:=fuel) h0
    show (((runE p st.1 x fuel fan).sent.foldl (sendE n fin lp at_) st.2).length : Int) ≤ _
    omega
   rw [List.foldl_cons,List.length_cons,show ((l.length + 1 : Nat) : Int) = (l.length : Int) + 1 by omega,Int.mul_add,Int.mul_one]
   omega
end Go.Proofs.YtcnfionnnpnplaaGreatDoor
/- The walks of a model's methods, at a model and at nil. -/
namespace Go.Proofs.YtcnfionnnpnplaaGreatDoor
open Go Go.RowKit Reg Mem
open List (set_cons_succ set_cons_zero setIfInBounds_toArray cons_append nil_append)
section
variable (R : Nat) (vs hs : List Value) (c : Cfg) (w : World) (F : Nat → Prop)
theorem has_calls (lp : Int) (h : (ModA true 128 R vs hs c).at_ w F) : Calls Tryz.prog 69 #[.pointer (some ⟨R,0,none⟩),.int .i64 lp] w fun r w'=>r = .returned (.bool (decide (0 ≤ lp ∧ lp < c.lps.length))) ∧ Below w.heap.size w w':=by
 have S : St (fun _=>False) w w [ModA true 128 R vs hs c]:=(St.init _ w).share rfl rfl h
 clear h
 replace S:=S.modBlk 0 rfl
 obtain ⟨aP,cP,aL,cL,aS,cS,rfl,hlen,S⟩:=(S.modCfg 1 rfl).cfg 0 rfl
 replace S:=S.pick [5] rfl
 simp only [pick,nth] at S
 by_cases h1 : 0 ≤ lp
 · go_enter Tryz.func69,Tryz.ntmps69
   go_wp2_with first | ((with_reducible apply wps_load S 0);(case hx|hi|hu=>rfl);(case hT=>decide +kernel))
   go_ret
   exact ⟨ret_bool (by simp [h1]),S.below⟩
 · go_enter Tryz.func69,Tryz.ntmps69
   go_wp2_with first | ((with_reducible apply wps_load S 0);(case hx|hi|hu=>rfl);(case hT=>decide +kernel))
   go_ret
   exact ⟨ret_bool (by simp;omega),S.below⟩
theorem lps_calls (h : (ModA true 128 R vs hs c).at_ w F) : Calls Tryz.prog 45 #[.pointer (some ⟨R,0,none⟩)] w fun r w'=>r = .returned (.int .i64 (c.lps.length : Int)) ∧ Below w.heap.size w w':=by
 have S : St (fun _=>False) w w [ModA true 128 R vs hs c]:=(St.init _ w).share rfl rfl h
 clear h
 replace S:=S.modBlk 0 rfl
 obtain ⟨aP,cP,aL,cL,aS,cS,rfl,hlen,S⟩:=(S.modCfg 1 rfl).cfg 0 rfl
 replace S:=S.pick [5] rfl
 simp only [pick,nth] at S
 go_enter Tryz.func45,Tryz.ntmps45
 go_wp2_with first | ((with_reducible apply wps_load S 0);(case hx|hi|hu=>rfl);(case hT=>decide +kernel))
 go_ret
 exact ⟨by simp,S.below⟩
theorem end_calls (h : (ModA true 128 R vs hs c).at_ w F) : Calls Tryz.prog 56 #[.pointer (some ⟨R,0,none⟩)] w fun r w'=>r = .returned (.int .i64 c.fin) ∧ Below w.heap.size w w':=by
 have S : St (fun _=>False) w w [ModA true 128 R vs hs c]:=(St.init _ w).share rfl rfl h
 clear h
 replace S:=S.modBlk 0 rfl
 obtain ⟨aP,cP,aL,cL,aS,cS,rfl,hlen,S⟩:=(S.modCfg 1 rfl).cfg 0 rfl
 replace S:=S.pick [5] rfl
 simp only [pick,nth] at S
 go_enter Tryz.func56,Tryz.ntmps56
 go_wp2_with first | ((with_reducible apply wps_load S 0);(case hx|hi|hu=>rfl);(case hT=>decide +kernel))
 go_ret
 exact ⟨by simp,S.below⟩
theorem fuel_calls (h : (ModA true 128 R vs hs c).at_ w F) : Calls Tryz.prog 98 #[.pointer (some ⟨R,0,none⟩)] w fun r w'=>r = .returned (.int .i64 c.fuel) ∧ Below w.heap.size w w':=by
 have S : St (fun _=>False) w w [ModA true 128 R vs hs c]:=(St.init _ w).share rfl rfl h
 clear h
 replace S:=S.modBlk 0 rfl
 obtain ⟨aP,cP,aL,cL,aS,cS,rfl,hlen,S⟩:=(S.modCfg 1 rfl).cfg 0 rfl
 replace S:=S.pick [5] rfl
 simp only [pick,nth] at S
 go_enter Tryz.func98,Tryz.ntmps98
 go_wp2_with first | ((with_reducible apply wps_load S 0);(case hx|hi|hu=>rfl);(case hT=>decide +kernel))
 go_ret
 exact ⟨by simp,S.below⟩
theorem fan_calls (h : (ModA true 128 R vs hs c).at_ w F) : Calls Tryz.prog 99 #[.pointer (some ⟨R,0,none⟩)] w fun r w'=>r = .returned (.int .i64 c.fan) ∧ Below w.heap.size w w':=by
 have S : St (fun _=>False) w w [ModA true 128 R vs hs c]:=(St.init _ w).share rfl rfl h
 clear h
 replace S:=S.modBlk 0 rfl
 obtain ⟨aP,cP,aL,cL,aS,cS,rfl,hlen,S⟩:=(S.modCfg 1 rfl).cfg 0 rfl
 replace S:=S.pick [5] rfl
 simp only [pick,nth] at S
 go_enter Tryz.func99,Tryz.ntmps99
 go_wp2_with first | ((with_reducible apply wps_load S 0);(case hx|hi|hu=>rfl);(case hT=>decide +kernel))
 go_ret
 exact ⟨by simp,S.below⟩
def state0 : List Value:=[.int .i64 0,.int .i64 0,.int .i64 0,.int .i64 0]
def State.cells (s : State) : List Value:=[.int .i64 s.n0,.int .i64 s.n1,.int .i64 s.n2,.int .i64 s.n3]
theorem first_at (j : Nat) (p : Place) (h : (ModA true 128 R vs hs c).at_ w F) (hp : c.lps[j]? = some p) : Calls Tryz.prog 46 #[.pointer (some ⟨R,0,none⟩),.int .i64 j] w fun r w'=>r = .returned (.agg #[.int .i64 p.first.n0,.int .i64 p.first.n1,.int .i64 p.first.n2,.int .i64 p.first.n3]) ∧ Below w.heap.size w w':=by
 have S : St (fun _=>False) w w [ModA true 128 R vs hs c]:=(St.init _ w).share rfl rfl h
 clear h
 have hlt:=(List.getElem?_eq_some_iff.1 hp).1
 have HA : Hid (∀ w F,(ModA true 128 R vs hs c).at_ w F → Calls Tryz.prog 69 #[.pointer (some ⟨R,0,none⟩),.int .i64 (j : Int)] w fun r w'=>r = .returned (.bool true) ∧ Below w.heap.size w w'):=fun w F h=>by
  have:=has_calls R vs hs c w F j h;rwa [decide_eq_true (by omega)] at this
 replace S:=S.modBlk 0 rfl
 obtain ⟨aP,cP,aL,cL,aS,cS,rfl,hlen,S⟩:=(S.modCfg 1 rfl).cfg 0 rfl
 replace S:=S.pick [5,2,6] rfl
 simp only [pick,nth] at S
 obtain ⟨RL,o,rfl⟩ : ∃ R o,aL = some ⟨R,o,none⟩:=(S.sl 1 rfl).elim fun F h=>h.head (by omega)
 have hlt2 : (j : Int) < c.lps.length:=by omega
 have Hp:=Lib.hid hp
 clear hp
 go_enter Tryz.func46,Tryz.ntmps46
 go_wp2_with first | (go_at_call 69;refine Calls.mono (HA.out _ _ (S.get (i:=3) rfl).choose_spec) ?_;rintro e wz ⟨rfl,hE⟩;replace S:=S.ext (Keep.of_below hE);clear hE) | ((with_reducible apply wps_loada_el S 2 (hj:=Hp.out) (q:=1) (vs:=[.int .i64 p.first.n0,.int .i64 p.first.n1,.int .i64 p.first.n2,.int .i64 p.first.n3]) (m:=4));(case hx|hi=>rfl);(case hn=>omega);(case hm|hv=>rfl);(case hT=>decide +kernel)) | ((with_reducible apply wps_storea (T:=50) S 0 (vs:=[.int .i64 p.first.n0,.int .i64 p.first.n1,.int .i64 p.first.n2,.int .i64 p.first.n3]) (m:=4));(case hx|hy|hi|hm|h1=>rfl);(case hn=>exact nle rfl);(case hT=>decide +kernel);clear S;intro wz S;simp only [set_cons_zero,set_cons_succ,setAll,setIfInBounds_toArray] at S) | ((with_reducible apply wps_alloca (E:=50) S);(case hz=>exact Tryz.zeroValue50);clear S;intro bz wz S) | ((with_reducible apply wps_load S 1);(case hx|hi|hu=>rfl);(case hT=>decide +kernel))
 (try simp only [Exit.inBlock,Exit.then]);(with_reducible apply S.ret_cell 0);(case hi|h|hp=>rfl);(case hA=>kernel_rfl);(case hd=>rfl)
 exact ⟨rfl,S.below⟩
def ClonePost (p : List Instr) (w : World) (e : Ending) (w' : World) : Prop:=
 ∃ ad c,e = .returned (.slice ad p.length c) ∧ St (fun _=>False) w w' [Own 79 Instr.cells 5 (.slice ad p.length c) p]
theorem program_at (j k : Nat) (l : Place) (p : List Instr) (h : (ModA true 128 R vs hs c).at_ w F) (hl : c.lps[j]? = some l) (hk : l.program = k) (hp : c.programs[k]? = some p) (hn : p.length ≤ 65536) : Calls Tryz.prog 96 #[.pointer (some ⟨R,0,none⟩),.int .i64 j] w (ClonePost p w):=by
 have S : St (fun _=>False) w w [ModA true 128 R vs hs c]:=(St.init _ w).share rfl rfl h
 clear h
 have hlt:=(List.getElem?_eq_some_iff.1 hl).1
 have hlt3:=(List.getElem?_eq_some_iff.1 hp).1
 have HA : Hid (∀ w F,(ModA true 128 R vs hs c).at_ w F → Calls Tryz.prog 69 #[.pointer (some ⟨R,0,none⟩),.int .i64 (j : Int)] w fun r w'=>r = .returned (.bool true) ∧ Below w.heap.size w w'):=fun w F h=>by
  have:=has_calls R vs hs c w F j h;rwa [decide_eq_true (by omega)] at this
 replace S:=S.modBlk 0 rfl
 obtain ⟨aP,cP,aL,cL,aS,cS,rfl,hlen,S⟩:=(S.modCfg 1 rfl).cfg 0 rfl
 replace S:=S.pick [5,2,6,0,1] rfl
 simp only [pick,nth] at S
 obtain ⟨RL,o,rfl⟩ : ∃ R o,aL = some ⟨R,o,none⟩:=(S.sl 1 rfl).elim fun F h=>h.head (by omega)
 obtain ⟨RP,oP,rfl⟩ : ∃ R o,aP = some ⟨R,o,none⟩:=(S.sl 4 rfl).elim fun F h=>h.head (by omega)
 have hlt2 : (j : Int) < c.lps.length:=by omega
 have hlt4 : (k : Int) < c.programs.length:=by omega
 obtain ⟨v,hv⟩ : ∃ v,hs[k]? = some v:=⟨_,List.getElem?_eq_getElem (by omega)⟩
 obtain ⟨av,cv,rfl,_⟩:=(S.sls 3 rfl).elim fun F h=>(h.2 k v p hv hp).form
 obtain ⟨lp,lf⟩:=l
 simp only at hk
 subst hk
 have Hl:=Lib.hid hl
 have Hp:=Lib.hid hp
 have Hv:=Lib.hid hv
 clear hl hp hv
 go_enter Tryz.func96,Tryz.ntmps96
 go_wp2_with first | (go_at_call 69;refine Calls.mono (HA.out _ _ (S.get (i:=2) rfl).choose_spec) ?_;rintro e wz ⟨rfl,hE⟩;replace S:=S.ext (Keep.of_below hE);clear hE)
 (refine wp_region_w (soft:=[0,1,2,3,4,5,6,7,8,9,10,11,12,13,14,15]) S ?hm ?hB ?_);(case hm=>kernel_rfl);(case hB=>decide +kernel);clear S
 iterate 16
  (with_reducible apply softs_cons)
  (case hw=>
    (with_reducible apply soft_of);(case hi=>rfl)
    intro T wz S
    simp only [cons_append,nil_append] at S
    go_wp2_with first | ((with_reducible apply wps_load_el S 4 (hj:=Hv.out) (q:=0) (u:=(.slice av p.length cv)));(case hx|hi=>rfl);(case hn=>omega);(case hu=>rfl);(case hT=>decide +kernel)) | ((with_reducible apply wps_load_el S 1 (hj:=Hl.out) (q:=0) (u:=.int .i64 (⟨k,lf⟩:Place).program));(case hx|hi=>rfl);(case hn=>omega);(case hu=>rfl);(case hT=>decide +kernel)) | ((with_reducible refine tot_done ?ht ?_);(case ht=>kernel_rfl)) | ((with_reducible apply wps_load S 0);(case hx|hi|hu=>rfl);(case hT=>decide +kernel))
    exact ⟨rfl,S⟩)
  (case hs=>exact ⟨_,rfl,by kernel_rfl⟩)
 refine softs_nil ?_
 repeat'
  (first
    | ((with_reducible apply W_hard1 (i:=16));(case hn=>rfl);(case hr=>decide +kernel)) | ((with_reducible apply W_hard1 (i:=17));(case hn=>rfl);(case hr=>decide +kernel)) | ((with_reducible apply W_hard2 (i:=16) (i':=17));(case hn=>rfl);(case hr=>decide +kernel)))
  all_goals
   intro wz S
   (with_reducible apply hard_of);(case hi=>rfl)
   simp only [cons_append,nil_append] at S
   try simp only [pick,nth] at S
   go_wp2_with first | (go_at_call 53;refine Calls.mono (clone_In _ _ ((S.slsEl 3 rfl Hv.out Hp.out).get (i:=0) rfl).choose_spec (by omega)) ?_;rintro e wz ⟨ad2,c2,rfl,_,T⟩;replace S:=S.join T rfl;clear T;simp only [cons_append,nil_append] at S) | ((with_reducible refine tot_done ?ht ?_);(case ht=>kernel_rfl))
   first
    | refine ⟨_,S.pick [1,2,3,4,5,6,7,8,9,0] rfl,?_⟩
    | refine ⟨_,S.pick [1,2,3,4,5,6,7,8,0] rfl,?_⟩
    | refine ⟨_,S.pick [1,2,3,4,5,6,7,0] rfl,?_⟩
    | refine ⟨_,S.pick [1,2,3,4,5,6,0] rfl,?_⟩
    | refine ⟨_,S.pick [1,2,3,4,5,0] rfl,?_⟩
    | refine ⟨_,S,?_⟩
 (with_reducible apply W_done);(case hn=>rfl);(case hr=>decide +kernel)
 clear S
 intro wz S
 simp only [cons_append,nil_append] at S
 try simp only [pick,nth] at S
 go_wp2_with first | ((with_reducible apply wps_load S 0);(case hx|hi|hu=>rfl);(case hT=>decide +kernel))
 go_ret
 exact ⟨_,_,rfl,S.pick [5] rfl⟩
def EvsRel (R : Nat) (vs : List Value) (vS out : Value) (ss : List Start) (w : World) (i : Value) (wr : World) : Prop:=
 ∃ j : Nat,j ≤ ss.length ∧ i = .int .i64 j ∧ St (fun _=>False) w wr [Own 56 Event.cells 7 out (startsFrom 0 (ss.take j)),Blk true R vs.toArray 128,Sl true Start.cells 4 vS ss]
theorem startsFrom_take {ss : List Start} {j : Nat} {s : Start} (h : ss[j]? = some s) : startsFrom 0 (ss.take (j + 1)) = startsFrom 0 (ss.take j) ++ [startEv j s]:=by
 have hl:=(List.getElem?_eq_some_iff.1 h).1
 rw [List.take_add_one,h,startsFrom_append]
 simp [startsFrom,Nat.min_eq_left (Nat.le_of_lt hl)]
theorem events_calls (h : (ModA true 128 R vs hs c).at_ w F) (hn : c.starts.length ≤ 65536) : Calls Tryz.prog 38 #[.pointer (some ⟨R,0,none⟩)] w (SortPost (startsFrom 0 c.starts) w):=by
 have S : St (fun _=>False) w w [ModA true 128 R vs hs c]:=(St.init _ w).share rfl rfl h
 clear h
 replace S:=S.modBlk 0 rfl
 obtain ⟨aP,cP,aL,cL,aS,cS,rfl,hlen,S⟩:=(S.modCfg 1 rfl).cfg 0 rfl
 replace S:=(S.pick [5,3] rfl).nil 56 Event.cells 7
 simp only [pick,nth] at S
 obtain ⟨ps,ls,ss,fin,fuel,fan⟩:=c
 simp only at *
 go_enter Tryz.func38,Tryz.ntmps38
 go_wp2_with first | ((with_reducible apply wps_load S 1);(case hx|hi|hu=>rfl);(case hT=>decide +kernel))
 go_loopw [3,14] (fun out i wr=>EvsRel R [.slice aP ps.length cP,.slice aL ls.length cL,.slice aS ss.length cS,.int .i64 fin,.int .i64 fuel,.int .i64 fan] (.slice aS ss.length cS) out ss w i wr) (fun _ i _=>ss.length - (intOf i).toNat)
 case atStart=>exact ⟨0,Nat.zero_le _,rfl,S⟩
 case round=>
  clear S
  obtain ⟨j,hj,rfl,S⟩:=hrel
  by_cases hlt : j < ss.length
  · obtain ⟨s,hs⟩ : ∃ s,ss[j]? = some s:=⟨_,List.getElem?_eq_getElem hlt⟩
    obtain ⟨RS,o,rfl⟩ : ∃ R o,aS = some ⟨R,o,none⟩:=(S.sl 2 rfl).elim fun F h=>h.head (by omega)
    obtain ⟨F0,hF0⟩:=S.get (i:=0) rfl
    obtain ⟨ad0,c0,rfl⟩:=hF0.1.form
    clear hF0
    have hlt2 : (j : Int) < ss.length:=by omega
    have HT:=Lib.hid (startsFrom_take hs)
    have htl : (startsFrom 0 (ss.take j)).length ≤ 65536:=by rw [startsFrom_len];simp;omega
    have Hs:=Lib.hid hs
    clear hs
    go_wp2_with first | ((with_reducible apply wps_loada_el S 2 (hj:=Hs.out) (q:=0) (vs:=[.int .i64 s.dst,.int .i64 s.at_,.int .i64 s.kind,.int .i64 s.data]) (m:=4));(case hx|hi=>rfl);(case hn=>omega);(case hm|hv=>rfl);(case hT=>decide +kernel)) | ((with_reducible apply wps_storea (T:=84) S 0 (vs:=[.int .i64 s.dst,.int .i64 s.at_,.int .i64 s.kind,.int .i64 s.data]) (m:=4));(case hx|hy|hi|hm|h1=>rfl);(case hn=>exact nle rfl);(case hT=>decide +kernel);clear S;intro wz S;simp only [set_cons_zero,set_cons_succ,setAll,setIfInBounds_toArray] at S) | ((with_reducible apply wps_build1a (T:=48) (E:=56) S);(case hx=>rfl);(case hr=>intro w;kernel_rfl);clear S;intro bz wz S) | ((with_reducible apply wps_append1 elem_Ev ecells eone (by decide) S 2 (j:=0) (e:=(startEv j s)));(case hx|hy|hi|hj|he=>rfl);(case hl=>first | omega | (simp;omega));clear S;intro az nz cz wz hnz S;simp only [set_cons_succ,set_cons_zero] at S) | ((with_reducible apply wps_alloca (E:=84) S);(case hz=>exact Tryz.zeroValue84);clear S;intro bz wz S) | ((with_reducible apply wps_load S 0);(case hx|hi|hu=>rfl);(case hT=>decide +kernel))
    go_roundw
    case rel=>exact ⟨j + 1,by omega,by go_num,by rw [HT.out];exact S.pick [2,3,4] rfl⟩
    case measure=>first | (simp [intOf];done) | (simp [intOf];omega)
  · obtain rfl : j = ss.length:=by omega
    rw [List.take_length] at S
    have S2:=S.freeze true 0 ecells rfl
    simp only [set_cons_zero] at S2
    clear S
    have S:=S2
    clear S2
    obtain ⟨ad0,c0,rfl,_⟩:=(S.sl 0 rfl).elim fun _ h=>h.form
    have htl : (startsFrom 0 ss).length ≤ 65536:=by rw [startsFrom_len];exact hn
    go_wp2_with first | ((with_reducible apply wps_loada (T:=84) (k:=4) S 0);(case hx|hi=>rfl);(case hk=>exact nle rfl);(case hT=>decide +kernel))
    refine Calls.mono (sort_calls _ (startsFrom 0 ss) _ _ (S.get (i:=0) rfl).choose_spec htl) ?_
    rintro e wz ⟨ad2,c2,rfl,T⟩
    replace S:=S.join T rfl
    simp only [cons_append,nil_append] at S
    clear T
    go_wp2_with first | ((with_reducible apply wps_loada (T:=84) (k:=4) S 0);(case hx|hi=>rfl);(case hk=>exact nle rfl);(case hT=>decide +kernel))
    go_ret
    exact ⟨_,_,rfl,S.pick [0] rfl⟩
end
end Go.Proofs.YtcnfionnnpnplaaGreatDoor
/- Operations of one value in the midst of a region that draws its order. Over any program. -/
namespace Go.Proofs.YtcnfionnnpnplaaGreatDoor.Mem
open Go Go.RowKit Reg
open List (set_cons_succ set_cons_zero setIfInBounds_toArray cons_append nil_append)
section
variable {P : Program} {ops : Array Oper} {Q : Exit → Act → World → Prop} {G : Nat → Prop} {w0 : World} {L : List Asn}
def closedB (ops : Array Oper) (listed : Array Bool) : Bool:=
 (List.range ops.size).all fun j=>!listed.getD j false || ((ops[j]?).map (·.after.all fun e=>!Region.binds .any e || listed.getD e.on false)).getD true
theorem closed_of {listed : Array Bool} (h : closedB ops listed = true) : Closed .any ops listed:=fun j oj hj hl e he hb=>by
 have h1:=List.all_eq_true.1 h j (List.mem_range.2 (Array.getElem?_eq_some_iff.1 hj).1)
 rw [hj] at h1
 simp only [hl,Option.map_some,Option.getD_some,Bool.not_true,Bool.false_or,Array.all_eq_true'] at h1
 have:=h1 e he
 rw [hb] at this
 simpa using this
theorem W_mid {n f : Nat} {soft : List Nat} {T : List Asn} {listed : Array Bool} {a : Act} (hn : n = f + soft.length) (hB : (ordB ops && closedB ops listed && readyAll ops soft listed) = true)
 (h : Softs P ops Q G w0 L (fun A=>W P ops Q G w0 L f T (after soft listed) A) soft a) : W P ops Q G w0 L n T listed a:=by
 simp only [Bool.and_eq_true] at hB
 rw [hn]
 exact W_softs hB.1.1 soft f T listed a (closed_of hB.1.2) hB.2 h
end
end Go.Proofs.YtcnfionnnpnplaaGreatDoor.Mem
/- The walks of keys.Of, keys.Check and the law's Events (as in K1, K8, L6), for a seat that has these alone. -/
namespace Go.Proofs.YtcnfionnnpnplaaGreatDoor
open Go Go.RowKit Reg Mem
open List (set_cons_succ set_cons_zero setIfInBounds_toArray cons_append nil_append)
theorem ev_nceqs (a b : Event) : (!ceqs a.cells b.cells) = !decide (a = b):=by
 congr 1
 obtain ⟨⟨a1,a2,a3,a4⟩,a5,a6,a7⟩:=a;obtain ⟨⟨b1,b2,b3,b4⟩,b5,b6,b7⟩:=b
 simp only [Event.cells,ceqs,ceq,Bool.and_true,Event.mk.injEq,Key.mk.injEq]
 rw [Bool.eq_iff_iff];simp [and_assoc]
def chk (e : Event) : Int:=
 if e.key.src < -1 ∨ 32 ≤ e.key.src ∨ e.dst < 0 ∨ 32 ≤ e.dst ∨ e.key.no < 0 ∨ 1024 ≤ e.key.no ∨ e.key.at_ < 0 ∨ 1073741824 < e.key.at_ then 10
 else if e.key.sent < -1 ∨ e.key.at_ ≤ e.key.sent then 18 else 0
def EvEqRel (v1 v2 : Value) (xs ys : List Event) (w : World) (i : Value) (wr : World) : Prop:=
 ∃ j : Nat,j ≤ xs.length ∧ i = .int .i64 j ∧ (∀ q : Nat,q < j → xs[q]? = ys[q]?) ∧ St (fun _=>False) w wr [Sl true Event.cells 7 v2 ys,Sl true Event.cells 7 v1 xs]
theorem evseq_calls (v1 v2 : Value) (xs ys : List Event) (w : World) (F1 F2 : Nat → Prop) (h1 : (Sl true Event.cells 7 v1 xs).at_ w F1) (h2 : (Sl true Event.cells 7 v2 ys).at_ w F2) (hn : xs.length ≤ 65536) (hn2 : ys.length ≤ 65536) :
 Calls Tryz.prog 59 #[v1,v2] w fun r w'=>r = .returned (.bool (decide (xs = ys))) ∧ Below w.heap.size w w':=by
 have S : St (fun _=>False) w w [Sl true Event.cells 7 v2 ys,Sl true Event.cells 7 v1 xs]:=((St.init _ w).share rfl rfl h1).share rfl rfl h2
 obtain ⟨ad2,c2,rfl,_⟩:=(S.sl 0 rfl).elim fun _ h=>h.form
 obtain ⟨ad1,c1,rfl,_⟩:=(S.sl 1 rfl).elim fun _ h=>h.form
 clear h1 h2
 by_cases hl : xs.length = ys.length
 · have hl2 : (xs.length : Int) = ys.length:=by omega
   have HL:=Lib.hid hl
   clear hl
   go_enter Tryz.func59,Tryz.ntmps59
   go_wp2_with first | ((with_reducible apply wps_loada (T:=56) (k:=7) S 3);(case hx|hi=>rfl);(case hk=>exact nle rfl);(case hT=>decide +kernel))
   go_loopw [5] (fun i wr=>EvEqRel (.slice ad1 xs.length c1) (.slice ad2 ys.length c2) xs ys w i wr) (fun i _=>xs.length - (intOf i).toNat)
   case atStart=>exact ⟨0,Nat.zero_le _,rfl,fun q h=>by omega,S⟩
   case round=>
    clear S
    obtain ⟨j,hj,rfl,he,S⟩:=hrel
    have He:=Lib.hid he
    clear he
    by_cases hlt : j < xs.length
    · obtain ⟨x,hx⟩ : ∃ x,xs[j]? = some x:=⟨_,List.getElem?_eq_getElem hlt⟩
      obtain ⟨y,hy⟩ : ∃ y,ys[j]? = some y:=⟨_,List.getElem?_eq_getElem (by have:=HL.out;omega)⟩
      obtain ⟨R1,o1,rfl⟩ : ∃ R o,ad1 = some ⟨R,o,none⟩:=(S.sl 1 rfl).elim fun F h=>h.head (by omega)
      obtain ⟨R2,o2,rfl⟩ : ∃ R o,ad2 = some ⟨R,o,none⟩:=(S.sl 0 rfl).elim fun F h=>h.head (by have:=HL.out;omega)
      have hlt2 : (j : Int) < xs.length:=by omega
      have hlt3 : (j : Int) < ys.length:=by omega
      have hlt4 : j < ys.length:=by omega
      by_cases hxy : x = y
      · have HN:=Lib.hid ((ev_nceqs x y).trans (show _ = false by simp [hxy]))
        have HXY:=Lib.hid hxy
        clear hxy
        have Hx:=Lib.hid hx
        have Hy:=Lib.hid hy
        clear hx hy
        go_wp2_with first | ((with_reducible apply wps_loada_el S 1 (hj:=Hx.out) (q:=0) (vs:=[.int .i64 x.key.at_,.int .i64 x.key.src,.int .i64 x.key.sent,.int .i64 x.key.no,.int .i64 x.dst,.int .i64 x.kind,.int .i64 x.data]) (m:=7));(case hx|hi=>rfl);(case hn=>omega);(case hm|hv=>rfl);(case hT=>decide +kernel)) | ((with_reducible apply wps_loada_el S 0 (hj:=Hy.out) (q:=0) (vs:=[.int .i64 y.key.at_,.int .i64 y.key.src,.int .i64 y.key.sent,.int .i64 y.key.no,.int .i64 y.dst,.int .i64 y.kind,.int .i64 y.data]) (m:=7));(case hx|hi=>rfl);(case hn=>omega);(case hm|hv=>rfl);(case hT=>decide +kernel)) | ((with_reducible apply wpList_neq_agg (t:=56) (ks:=[.int .i64,.int .i64,.int .i64,.int .i64,.int .i64,.int .i64,.int .i64]) (b:=_));(case hx|hy=>rfl);(case hl|ha|hg=>kernel_rfl);(case hfx|hfy=>rfl);(case hb=>exact HN.out)) | ((with_reducible refine tot_done ?ht ?_);(case ht=>kernel_rfl)) | ((with_reducible apply wps_text S);(case hm=>kernel_rfl);(case hB=>decide +kernel);clear S;intro wz S)
        go_roundw
        case rel=>
         refine ⟨j + 1,by omega,by go_num,fun q hq=>?_,S⟩
         by_cases e : q = j
         · subst e;rw [Hx.out,Hy.out,HXY.out]
         · exact He.out q (by omega)
        case measure=>simp [intOf];omega
      · have HN:=Lib.hid ((ev_nceqs x y).trans (show _ = true by simp [hxy]))
        have HXY:=Lib.hid hxy
        clear hxy
        have Hx:=Lib.hid hx
        have Hy:=Lib.hid hy
        clear hx hy
        go_wp2_with first | ((with_reducible apply wps_loada_el S 1 (hj:=Hx.out) (q:=0) (vs:=[.int .i64 x.key.at_,.int .i64 x.key.src,.int .i64 x.key.sent,.int .i64 x.key.no,.int .i64 x.dst,.int .i64 x.kind,.int .i64 x.data]) (m:=7));(case hx|hi=>rfl);(case hn=>omega);(case hm|hv=>rfl);(case hT=>decide +kernel)) | ((with_reducible apply wps_loada_el S 0 (hj:=Hy.out) (q:=0) (vs:=[.int .i64 y.key.at_,.int .i64 y.key.src,.int .i64 y.key.sent,.int .i64 y.key.no,.int .i64 y.dst,.int .i64 y.kind,.int .i64 y.data]) (m:=7));(case hx|hi=>rfl);(case hn=>omega);(case hm|hv=>rfl);(case hT=>decide +kernel)) | ((with_reducible apply wpList_neq_agg (t:=56) (ks:=[.int .i64,.int .i64,.int .i64,.int .i64,.int .i64,.int .i64,.int .i64]) (b:=_));(case hx|hy=>rfl);(case hl|ha|hg=>kernel_rfl);(case hfx|hfy=>rfl);(case hb=>exact HN.out)) | ((with_reducible refine tot_done ?ht ?_);(case ht=>kernel_rfl)) | ((with_reducible apply wps_text S);(case hm=>kernel_rfl);(case hB=>decide +kernel);clear S;intro wz S)
        go_ret
        exact ⟨ret_bool (by symm;rw [decide_eq_false_iff_not];rintro rfl;rw [Hx.out] at Hy;exact HXY.out (Option.some.inj Hy.out)),S.below⟩
    · obtain rfl : j = xs.length:=by omega
      go_wp2_with first | ((with_reducible apply wps_loada (T:=56) (k:=7) S 3);(case hx|hi=>rfl);(case hk=>exact nle rfl);(case hT=>decide +kernel))
      go_ret
      refine ⟨ret_bool ?_,S.below⟩
      symm
      rw [decide_eq_true_eq]
      refine List.ext_getElem? fun q=>?_
      by_cases hq : q < xs.length
      · exact He.out q hq
      · have:=HL.out
        rw [List.getElem?_eq_none (by omega),List.getElem?_eq_none (by omega)]
 · have hl2 : ¬ (xs.length : Int) = ys.length:=by omega
   have HL:=Lib.hid hl
   clear hl
   go_enter Tryz.func59,Tryz.ntmps59
   go_wp2_with first | ((with_reducible apply wps_loada (T:=56) (k:=7) S 3);(case hx|hi=>rfl);(case hk=>exact nle rfl);(case hT=>decide +kernel))
   go_ret
   exact ⟨ret_bool (by symm;rw [decide_eq_false_iff_not];rintro rfl;exact HL.out rfl),S.below⟩
end Go.Proofs.YtcnfionnnpnplaaGreatDoor
