import Derived.Test.YtmjljoaakdocaaaGreatDoorY19
import Derived.Test.YtmjljoaakdocaaaGreatDoorY18
import Derived.Test.YtmjljoaakdocaaaGreatDoorY07
import Derived.Test.YtmjljoaakdocaaaGreatDoorY04
import Derived.Test.YtmjljoaakdocaaaGreatDoorY15
import Derived.Test.YtmjljoaakdocaaaGreatDoorProg
import Derived.Shelf.SortG.Plain
import Derived.KernelRfl
import Derived.Deep.CutRange
import Derived.Test.YtmjljoaakdocaaaGreatDoorY12
/- The walks of a model's methods, at a model and at nil. -/
set_option maxHeartbeats 16000000
set_option maxRecDepth 100000
namespace Go.Proofs.YtmjljoaakdocaaaGreatDoor
open Go Go.RowKit Reg Mem
open List (set_cons_succ set_cons_zero setIfInBounds_toArray cons_append nil_append)
section
variable (R : Nat) (vs hs : List Value) (c : Cfg) (w : World) (F : Nat → Prop)
theorem has_calls (lp : Int) (h : (ModA true 110 R vs hs c).at_ w F) : Calls Tryz.prog 80 #[.pointer (some ⟨R,0,none⟩),.int .i64 lp] w fun r w'=>r = .returned (.bool (decide (0 ≤ lp ∧ lp < c.lps.length))) ∧ Below w.heap.size w w':=by
 have S : St (fun _=>False) w w [ModA true 110 R vs hs c]:=(St.init _ w).share rfl rfl h
 clear h
 replace S:=S.modBlk 0 rfl
 obtain ⟨aP,cP,aL,cL,aS,cS,rfl,hlen,S⟩:=(S.modCfg 1 rfl).cfg 0 rfl
 replace S:=S.pick [5] rfl
 simp only [pick,nth] at S
 by_cases h1 : 0 ≤ lp
 · go_enter Tryz.func80,Tryz.ntmps80
   go_wp2_with first | ((with_reducible apply wps_load S 0);(case hx|hi|hu=>rfl);(case hT=>decide +kernel))
   go_ret
   exact ⟨ret_bool (by simp [h1]),S.below⟩
 · go_enter Tryz.func80,Tryz.ntmps80
   go_wp2_with first | ((with_reducible apply wps_load S 0);(case hx|hi|hu=>rfl);(case hT=>decide +kernel))
   go_ret
   exact ⟨ret_bool (by simp;omega),S.below⟩
theorem lps_calls (h : (ModA true 110 R vs hs c).at_ w F) : Calls Tryz.prog 17 #[.pointer (some ⟨R,0,none⟩)] w fun r w'=>r = .returned (.int .i64 (c.lps.length : Int)) ∧ Below w.heap.size w w':=by
 have S : St (fun _=>False) w w [ModA true 110 R vs hs c]:=(St.init _ w).share rfl rfl h
 clear h
 replace S:=S.modBlk 0 rfl
 obtain ⟨aP,cP,aL,cL,aS,cS,rfl,hlen,S⟩:=(S.modCfg 1 rfl).cfg 0 rfl
 replace S:=S.pick [5] rfl
 simp only [pick,nth] at S
 go_enter Tryz.func17,Tryz.ntmps17
 go_wp2_with first | ((with_reducible apply wps_load S 0);(case hx|hi|hu=>rfl);(case hT=>decide +kernel))
 go_ret
 exact ⟨by simp,S.below⟩
theorem fan_calls (h : (ModA true 110 R vs hs c).at_ w F) : Calls Tryz.prog 23 #[.pointer (some ⟨R,0,none⟩)] w fun r w'=>r = .returned (.int .i64 c.fan) ∧ Below w.heap.size w w':=by
 have S : St (fun _=>False) w w [ModA true 110 R vs hs c]:=(St.init _ w).share rfl rfl h
 clear h
 replace S:=S.modBlk 0 rfl
 obtain ⟨aP,cP,aL,cL,aS,cS,rfl,hlen,S⟩:=(S.modCfg 1 rfl).cfg 0 rfl
 replace S:=S.pick [5] rfl
 simp only [pick,nth] at S
 go_enter Tryz.func23,Tryz.ntmps23
 go_wp2_with first | ((with_reducible apply wps_load S 0);(case hx|hi|hu=>rfl);(case hT=>decide +kernel))
 go_ret
 exact ⟨by simp,S.below⟩
def state0 : List Value:=[.int .i64 0,.int .i64 0,.int .i64 0,.int .i64 0]
def State.cells (s : State) : List Value:=[.int .i64 s.n0,.int .i64 s.n1,.int .i64 s.n2,.int .i64 s.n3]
theorem first_at (j : Nat) (p : Place) (h : (ModA true 110 R vs hs c).at_ w F) (hp : c.lps[j]? = some p) : Calls Tryz.prog 50 #[.pointer (some ⟨R,0,none⟩),.int .i64 j] w fun r w'=>r = .returned (.agg #[.int .i64 p.first.n0,.int .i64 p.first.n1,.int .i64 p.first.n2,.int .i64 p.first.n3]) ∧ Below w.heap.size w w':=by
 have S : St (fun _=>False) w w [ModA true 110 R vs hs c]:=(St.init _ w).share rfl rfl h
 clear h
 have hlt:=(List.getElem?_eq_some_iff.1 hp).1
 have HA : Hid (∀ w F,(ModA true 110 R vs hs c).at_ w F → Calls Tryz.prog 80 #[.pointer (some ⟨R,0,none⟩),.int .i64 (j : Int)] w fun r w'=>r = .returned (.bool true) ∧ Below w.heap.size w w'):=fun w F h=>by
  have:=has_calls R vs hs c w F j h;rwa [decide_eq_true (by omega)] at this
 replace S:=S.modBlk 0 rfl
 obtain ⟨aP,cP,aL,cL,aS,cS,rfl,hlen,S⟩:=(S.modCfg 1 rfl).cfg 0 rfl
 replace S:=S.pick [5,2,6] rfl
 simp only [pick,nth] at S
 obtain ⟨RL,o,rfl⟩ : ∃ R o,aL = some ⟨R,o,none⟩:=(S.sl 1 rfl).elim fun F h=>h.head (by omega)
 have hlt2 : (j : Int) < c.lps.length:=by omega
 have Hp:=Lib.hid hp
 clear hp
 go_enter Tryz.func50,Tryz.ntmps50
 go_wp2_with first | (go_at_call 80;refine Calls.mono (HA.out _ _ (S.get (i:=3) rfl).choose_spec) ?_;rintro e wz ⟨rfl,hE⟩;replace S:=S.ext (Keep.of_below hE);clear hE) | ((with_reducible apply wps_loada_el S 2 (hj:=Hp.out) (q:=1) (vs:=[.int .i64 p.first.n0,.int .i64 p.first.n1,.int .i64 p.first.n2,.int .i64 p.first.n3]) (m:=4));(case hx|hi=>rfl);(case hn=>omega);(case hm|hv=>rfl);(case hT=>decide +kernel)) | ((with_reducible apply wps_storea (T:=141) S 0 (vs:=[.int .i64 p.first.n0,.int .i64 p.first.n1,.int .i64 p.first.n2,.int .i64 p.first.n3]) (m:=4));(case hx|hy|hi|hm|h1=>rfl);(case hn=>exact nle rfl);(case hT=>decide +kernel);clear S;intro wz S;simp only [set_cons_zero,set_cons_succ,setAll,setIfInBounds_toArray] at S) | ((with_reducible apply wps_alloca (E:=141) S);(case hz=>exact Tryz.zeroValue141);clear S;intro bz wz S) | ((with_reducible apply wps_load S 1);(case hx|hi|hu=>rfl);(case hT=>decide +kernel))
 (try simp only [Exit.inBlock,Exit.then]);(with_reducible apply S.ret_cell 0);(case hi|h|hp=>rfl);(case hA=>kernel_rfl);(case hd=>rfl)
 exact ⟨rfl,S.below⟩
def ClonePost (p : List Instr) (w : World) (e : Ending) (w' : World) : Prop:=
 ∃ ad c,e = .returned (.slice ad p.length c) ∧ St (fun _=>False) w w' [Own 160 Instr.cells 5 (.slice ad p.length c) p]
def EvsRel (R : Nat) (vs : List Value) (vS out : Value) (ss : List Start) (w : World) (i : Value) (wr : World) : Prop:=
 ∃ j : Nat,j ≤ ss.length ∧ i = .int .i64 j ∧ St (fun _=>False) w wr [Own 58 Event.cells 7 out (startsFrom 0 (ss.take j)),Blk true R vs.toArray 110,Sl true Start.cells 4 vS ss]
theorem startsFrom_take {ss : List Start} {j : Nat} {s : Start} (h : ss[j]? = some s) : startsFrom 0 (ss.take (j + 1)) = startsFrom 0 (ss.take j) ++ [startEv j s]:=by
 have hl:=(List.getElem?_eq_some_iff.1 h).1
 rw [List.take_add_one,h,startsFrom_append]
 simp [startsFrom,Nat.min_eq_left (Nat.le_of_lt hl)]
theorem events_calls (h : (ModA true 110 R vs hs c).at_ w F) (hn : c.starts.length ≤ 65536) : Calls Tryz.prog 16 #[.pointer (some ⟨R,0,none⟩)] w (SortPost (startsFrom 0 c.starts) w):=by
 have S : St (fun _=>False) w w [ModA true 110 R vs hs c]:=(St.init _ w).share rfl rfl h
 clear h
 replace S:=S.modBlk 0 rfl
 obtain ⟨aP,cP,aL,cL,aS,cS,rfl,hlen,S⟩:=(S.modCfg 1 rfl).cfg 0 rfl
 replace S:=(S.pick [5,3] rfl).nil 58 Event.cells 7
 simp only [pick,nth] at S
 obtain ⟨ps,ls,ss,fin,fuel,fan⟩:=c
 simp only at *
 go_enter Tryz.func16,Tryz.ntmps16
 go_wp2_with first | ((with_reducible apply wps_load S 1);(case hx|hi|hu=>rfl);(case hT=>decide +kernel))
 go_loopw [3,14] (fun out i wr=>EvsRel R [.slice aP ps.length cP,.slice aL ls.length cL,.slice aS ss.length cS,.int .i64 fin,.int .i64 fuel,.int .i64 fan] (.slice aS ss.length cS) out ss w i wr) (fun _ i _=>ss.length - (intOf i).toNat)
 case atStart=>exact ⟨0,Nat.zero_le _,rfl,S⟩
 case round=>
  clear S
  obtain ⟨j,hj,rfl,S⟩:=hrel
  by_cases hlt : j < ss.length
  · obtain ⟨s,hs⟩ : ∃ s,ss[j]? = some s:=⟨_,List.getElem?_eq_getElem hlt⟩
    obtain ⟨RS,o,rfl⟩ : ∃ R o,aS = some ⟨R,o,none⟩:=(S.sl 2 rfl).elim fun F h=>h.head (by omega)
    obtain ⟨F0,hF0⟩:=S.get (i:=0) rfl
    obtain ⟨ad0,c0,rfl⟩:=hF0.1.form
    clear hF0
    have hlt2 : (j : Int) < ss.length:=by omega
    have HT:=Lib.hid (startsFrom_take hs)
    have htl : (startsFrom 0 (ss.take j)).length ≤ 65536:=by rw [startsFrom_len];simp;omega
    have Hs:=Lib.hid hs
    clear hs
    go_wp2_with first | ((with_reducible apply wps_loada_el S 2 (hj:=Hs.out) (q:=0) (vs:=[.int .i64 s.dst,.int .i64 s.at_,.int .i64 s.kind,.int .i64 s.data]) (m:=4));(case hx|hi=>rfl);(case hn=>omega);(case hm|hv=>rfl);(case hT=>decide +kernel)) | ((with_reducible apply wps_storea (T:=112) S 0 (vs:=[.int .i64 s.dst,.int .i64 s.at_,.int .i64 s.kind,.int .i64 s.data]) (m:=4));(case hx|hy|hi|hm|h1=>rfl);(case hn=>exact nle rfl);(case hT=>decide +kernel);clear S;intro wz S;simp only [set_cons_zero,set_cons_succ,setAll,setIfInBounds_toArray] at S) | ((with_reducible apply wps_build1a (T:=53) (E:=58) S);(case hx=>rfl);(case hr=>intro w;kernel_rfl);clear S;intro bz wz S) | ((with_reducible apply wps_append1 elem_Ev ecells eone (by decide) S 2 (j:=0) (e:=(startEv j s)));(case hx|hy|hi|hj|he=>rfl);(case hl=>first | omega | (simp;omega));clear S;intro az nz cz wz hnz S;simp only [set_cons_succ,set_cons_zero] at S) | ((with_reducible apply wps_alloca (E:=112) S);(case hz=>exact Tryz.zeroValue112);clear S;intro bz wz S) | ((with_reducible apply wps_load S 0);(case hx|hi|hu=>rfl);(case hT=>decide +kernel))
    go_roundw
    case rel=>exact ⟨j + 1,by omega,by go_num,by rw [HT.out];exact S.pick [2,3,4] rfl⟩
    case measure=>first | (simp [intOf];done) | (simp [intOf];omega)
  · obtain rfl : j = ss.length:=by omega
    rw [List.take_length] at S
    have S2:=S.freeze true 0 ecells rfl
    simp only [set_cons_zero] at S2
    clear S
    have S:=S2
    clear S2
    obtain ⟨ad0,c0,rfl,_⟩:=(S.sl 0 rfl).elim fun _ h=>h.form
    have htl : (startsFrom 0 ss).length ≤ 65536:=by rw [startsFrom_len];exact hn
    go_wp2_with first | ((with_reducible apply wps_loada (T:=112) (k:=4) S 0);(case hx|hi=>rfl);(case hk=>exact nle rfl);(case hT=>decide +kernel))
    refine Calls.mono (sort_calls _ (startsFrom 0 ss) _ _ (S.get (i:=0) rfl).choose_spec htl) ?_
    rintro e wz ⟨ad2,c2,rfl,T⟩
    replace S:=S.join T rfl
    simp only [cons_append,nil_append] at S
    clear T
    go_wp2_with first | ((with_reducible apply wps_loada (T:=112) (k:=4) S 0);(case hx|hi=>rfl);(case hk=>exact nle rfl);(case hT=>decide +kernel))
    go_ret
    exact ⟨_,_,rfl,S.pick [0] rfl⟩
end
end Go.Proofs.YtmjljoaakdocaaaGreatDoor
/- The walks of batch.process, all, twice, Wrong and message. -/
namespace Go.Proofs.YtmjljoaakdocaaaGreatDoor
open Go Go.RowKit Reg Mem
open List (set_cons_succ set_cons_zero setIfInBounds_toArray cons_append nil_append)
def AllRel (v : Value) (l : List Event) (lp : Int) (w : World) (i : Value) (wr : World) : Prop:=
 ∃ j : Nat,j ≤ l.length ∧ i = .int .i64 j ∧ Hid (∀ (q : Nat) y,q < j → l[q]? = some y → y.dst = lp) ∧ St (fun _=>False) w wr [Sl true Event.cells 7 v l]
theorem key_ceqs (k l : Key) : ceqs k.cells l.cells = decide (k = l):=by
 obtain ⟨a,b,c,d⟩:=k;obtain ⟨a',b',c',d'⟩:=l
 simp only [Key.cells,ceqs,ceq,Bool.and_true,Key.mk.injEq]
 rw [Bool.eq_iff_iff];simp
def TwRel (v : Value) (s : List Event) (w : World) (i : Value) (wr : World) : Prop:=
 ∃ j : Nat,j ≤ s.length ∧ i = .int .i64 ((j : Int) + 1) ∧ Hid (∀ (q : Nat) x y,q < j → s[q]? = some x → s[q + 1]? = some y → x.key ≠ y.key) ∧ St (fun _=>False) w wr [Sl true Event.cells 7 v s]
def WrRel (v : Value) (l : List Event) (w : World) (i : Value) (wr : World) : Prop:=
 ∃ j : Nat,j ≤ l.length ∧ i = .int .i64 j ∧ Hid (∀ (q : Nat) y,q < j → l[q]? = some y → y.key.at_ = atE l) ∧ St (fun _=>False) w wr [Sl true Event.cells 7 v l]
end Go.Proofs.YtmjljoaakdocaaaGreatDoor
/- The walk of batch.Run. -/
namespace Go.Proofs.YtmjljoaakdocaaaGreatDoor
open Go Go.RowKit Reg Mem
open List (set_cons_succ set_cons_zero setIfInBounds_toArray cons_append nil_append)
structure CfgFine (c : Cfg) : Prop where
 sizes : sizesOk c
 starts : c.starts.length ≤ 256
 progs : ∀ p ∈ c.programs,codeE p = 0
 lps : ∀ p ∈ c.lps,0 ≤ p.program ∧ p.program < c.programs.length
 dsts : ∀ s ∈ c.starts,0 ≤ s.dst ∧ s.dst < c.lps.length
 times : ∀ s ∈ c.starts,0 ≤ s.at_ ∧ s.at_ ≤ c.fin
theorem cfg_isfine {c : Cfg} (h : cfgE c = 0) : CfgFine c:=by
 unfold cfgE at h
 rw [firstE_zero] at h
 simp only [List.mem_cons,List.not_mem_nil,or_false,forall_eq_or_imp,forall_eq] at h
 obtain ⟨h1,h2,h3,h4,h5⟩:=h
 unfold sizesE at h1;unfold startsE at h2;unfold programsE at h3;unfold endsE at h4;unfold timesE at h5
 have g1 : sizesOk c:=Classical.byContradiction fun g=>by rw [if_neg g] at h1;cases h1
 have g2 : ¬ 256 < c.starts.length:=fun g=>by rw [if_pos g] at h2;cases h2
 rw [firstE_zero] at h3
 have g4:=Classical.byContradiction fun g=>by rw [if_neg g] at h4;cases h4
 have g5:=Classical.byContradiction fun g=>by rw [if_neg g] at h5;cases h5
 exact ⟨g1,by omega,fun p hp=>h3 _ (List.mem_map.2 ⟨p,hp,rfl⟩),g4.1,g4.2,g5⟩
def progOf (c : Cfg) (lp : Int) : List Instr:=(c.programs[((c.lps[lp.toNat]?.getD ⟨0,⟨0,0,0,0⟩⟩).program).toNat]?).getD []
def batchC (c : Cfg) (lp : Int) (s : State) (l : List Event) : State × List Event:=batchE (progOf c lp) c.lps.length c.fin c.fuel c.fan lp s l
def BRunPost (c : Cfg) (lp : Int) (s : State) (l : List Event) (w : World) (r : Ending) (w' : World) : Prop:=
 (wrongE c.lps.length lp l ≠ 0 ∧ r = .returned (.tuple #[.agg #[.int .i64 0,.int .i64 0,.int .i64 0,.int .i64 0],.slice none 0 0,.int .i64 (wrongE c.lps.length lp l)]) ∧ Below w.heap.size w w') ∨
 (wrongE c.lps.length lp l = 0 ∧ ∃ v,r = .returned (.tuple #[.agg #[.int .i64 (batchC c lp s l).1.n0,.int .i64 (batchC c lp s l).1.n1,.int .i64 (batchC c lp s l).1.n2,.int .i64 (batchC c lp s l).1.n3],v,.int .i64 0]) ∧
   St (fun _=>False) w w' [Own 58 Event.cells 7 v (batchC c lp s l).2])
def BRel1 (b6 b8 : Nat) (cs8 : Array Value) (v vp : Value) (R : Nat) (vs hs : List Value) (c : Cfg) (p : List Instr) (lp at_ : Int) (s : State) (l : List Event) (w : World) (out i : Value) (wr : World) : Prop:=
 ∃ (j : Nat) (st : State × List Event),j ≤ l.length ∧ i = .int .i64 j ∧ Hid (st = (l.take j).foldl (oneE p c.lps.length c.fin c.fuel c.fan lp at_) (s,[])) ∧
  St (fun _=>False) w wr [Own 58 Event.cells 7 out st.2,Blk false b6 #[.int .i64 st.1.n0,.int .i64 st.1.n1,.int .i64 st.1.n2,.int .i64 st.1.n3] 141,Sl true Event.cells 7 v l,Sl true Instr.cells 5 vp p,ModA true 110 R vs hs c,Tab,Blk false b8 cs8 141]
def BRel2 (b6 b8 : Nat) (cs8 : Array Value) (v vp ve : Value) (R : Nat) (vs hs : List Value) (c : Cfg) (p : List Instr) (lp at_ : Int) (s2 : State) (o1 : List Event) (em : List Emit) (l : List Event) (w : World) (out i : Value) (wr : World) : Prop:=
 ∃ (q : Nat) (o2 : List Event),q ≤ em.length ∧ i = .int .i64 q ∧ Hid (o2 = (em.take q).foldl (sendE c.lps.length c.fin lp at_) o1) ∧ o2.length ≤ o1.length + q ∧
  St (fun _=>False) w wr [Own 58 Event.cells 7 out o2,Sl true Emit.cells 4 ve em,Blk false b6 #[.int .i64 s2.n0,.int .i64 s2.n1,.int .i64 s2.n2,.int .i64 s2.n3] 141,Sl true Event.cells 7 v l,Sl true Instr.cells 5 vp p,ModA true 110 R vs hs c,Tab,Blk false b8 cs8 141]
end Go.Proofs.YtmjljoaakdocaaaGreatDoor
/- Plain: a batch that was done. -/
namespace Go.Proofs.YtmjljoaakdocaaaGreatDoor
open Go Go.RowKit Mem
open List (set_cons_succ set_cons_zero setIfInBounds_toArray cons_append nil_append)
structure BatE where
 at_ : Int
 lp : Int
 ins : List Event
 thn : State
 sent : List Event
end Go.Proofs.YtmjljoaakdocaaaGreatDoor
/- Things put in another order; several slices and several more. Over any program. -/
namespace Go.Proofs.YtmjljoaakdocaaaGreatDoor.Mem
open Go Go.RowKit
open List (set_cons_succ set_cons_zero setIfInBounds_toArray cons_append nil_append)
theorem St.swap2 {G : Nat → Prop} {w0 w : World} {L : List Asn} {A B : Asn} (S : St G w0 w (A :: B :: L)) : St G w0 w (B :: A :: L):=by
 obtain ⟨Fs,hf,hd⟩:=S.ex
 have g : ∀ i : Nat,∀ X : Asn,(B :: A :: L)[i]? = some X → (A :: B :: L)[(match i with | 0=>1 | 1=>0 | i + 2=>i + 2 : Nat)]? = some X:=by
  intro i X h
  match i with
  | 0=>exact h
  | 1=>exact h
  | i + 2=>exact h
 refine ⟨S.keep,fun i=>Fs (match i with | 0=>1 | 1=>0 | i + 2=>i + 2 : Nat),fun i X hi=>hf _ X (g i X hi),fun i j X Y hij hi hj=>?_⟩
 have hi':=g i X hi
 have hj':=g j Y hj
 match i,j,hij with
 | 0,1,_=>
   rcases hd 0 1 Y X (by omega) hj' hi' with ⟨e1,e2⟩ | e
   · exact .inl ⟨e2,e1⟩
   · exact .inr fun x hx hx'=>e x hx' hx
 | 0,j + 2,_=>exact hd 1 (j + 2) X Y (by omega) hi' hj'
 | 1,j + 2,_=>exact hd 0 (j + 2) X Y (by omega) hi' hj'
 | i + 2,j + 2,h=>exact hd (i + 2) (j + 2) X Y (by omega) hi' hj'
 | 0,0,h=>omega
 | i + 1,0,h=>omega
 | i + 1,1,h=>omega
section
variable {G : Nat → Prop} {w0 w w' : World} {L : List Asn} {A A' B C : Asn} {i : Nat}
end
end Go.Proofs.YtmjljoaakdocaaaGreatDoor.Mem
/- A batch with where its slices lie. -/
namespace Go.Proofs.YtmjljoaakdocaaaGreatDoor
open Go Go.RowKit Reg Mem
open List (set_cons_succ set_cons_zero setIfInBounds_toArray cons_append nil_append)
theorem own_hd {α : Type} {E : TypeId} {enc : α → List Value} {k : Nat} {v : Value} {xs : List α} {G : Nat → Prop} {w0 w : World} {L : List Asn} (i : Nat) (S : St G w0 w L) (hi : L[i]? = some (Own E enc k v xs)) (h0 : 0 < xs.length) : ∃ R c,v = .slice (some ⟨R,0,none⟩) xs.length c:=by
 obtain ⟨F1,h1,_⟩:=S.get hi
 obtain ⟨R,c,cur,e,_⟩:=h1.some (by omega)
 exact ⟨R,c,e⟩
theorem take_snoc {α : Type} {l : List α} {j : Nat} {x : α} (h : l[j]? = some x) : l.take (j + 1) = l.take j ++ [x]:=by
 rw [List.take_add_one,h];rfl
theorem sacells : ∀ e : State,e.cells.length = 4:=fun _=>rfl
theorem saone : ∀ e : State,∀ u ∈ e.cells,u.oneCell' = true:=fun _=>by simp [State.cells,Value.oneCell']
structure BatV where
 b : BatE
 ai : Option Addr
 ci : Nat
 ao : Option Addr
 co : Nat
def BatV.vi (x : BatV) : Value:=.slice x.ai x.b.ins.length x.ci
def BatV.vo (x : BatV) : Value:=.slice x.ao x.b.sent.length x.co
def BatV.cells (x : BatV) : List Value:=[.int .i64 x.b.at_,.int .i64 x.b.lp,.slice x.ai x.b.ins.length x.ci,.int .i64 x.b.thn.n0,.int .i64 x.b.thn.n1,.int .i64 x.b.thn.n2,.int .i64 x.b.thn.n3,.slice x.ao x.b.sent.length x.co]
theorem bvcells : ∀ x : BatV,x.cells.length = 8:=fun _=>rfl
end Go.Proofs.YtmjljoaakdocaaaGreatDoor
/- Of many things that lie apart one is taken out whole, and put back. Over any program. -/
namespace Go.Proofs.YtmjljoaakdocaaaGreatDoor.Mem
open Go Go.RowKit Reg
open List (set_cons_succ set_cons_zero setIfInBounds_toArray cons_append nil_append)
theorem stars_pull : ∀ (As : List Asn) (k : Nat) (B : Asn) (w : World) (F : Nat → Prop),(stars As).at_ w F → As[k]? = some B → ∃ F1 F2,(stars (As.set k (pur True))).at_ w F1 ∧ B.at_ w F2 ∧ (∀ b,F1 b → ¬ F2 b) ∧ ∀ b,F b ↔ F1 b ∨ F2 b
 | [],k,B,w,F,_,hk=>by simp at hk
 | A0 :: As,0,B,w,F,h,hk=>by
   simp at hk;subst hk
   obtain ⟨F1,F2,h1,h2,hd,hF⟩:=h
   refine ⟨F2,F1,⟨fun _=>False,F2,⟨trivial,fun _=>id⟩,h2,fun _ h=>h.elim,fun b=>⟨.inr,fun h=>h.elim False.elim id⟩⟩,h1,fun b hb hb2=>hd b hb2 hb,fun b=>?_⟩
   rw [hF b];exact Or.comm
 | A0 :: As,k + 1,B,w,F,h,hk=>by
   obtain ⟨F1,F2,h1,h2,hd,hF⟩:=h
   obtain ⟨F5,F6,h5,h6,hd5,hF5⟩:=stars_pull As k B w F2 h2 (by simpa using hk)
   refine ⟨fun b=>F1 b ∨ F5 b,F6,⟨F1,F5,h1,h5,fun b hb hb5=>hd b hb ((hF5 b).2 (.inl hb5)),fun _=>Iff.rfl⟩,h6,fun b hb hb6=>?_,fun b=>?_⟩
   · rcases hb with hb | hb
     · exact hd b hb ((hF5 b).2 (.inr hb6))
     · exact hd5 b hb hb6
   · rw [hF b,hF5 b];exact or_assoc.symm
theorem stars_push : ∀ (As : List Asn) (k : Nat) (A B : Asn) (w : World) (F1 F2 : Nat → Prop),(stars As).at_ w F1 → B.at_ w F2 → As[k]? = some A → (∀ b,F1 b → ¬ F2 b) → ∃ F,(stars (As.set k B)).at_ w F ∧ ∀ b,F b → F1 b ∨ F2 b
 | [],k,A,B,w,F1,F2,_,_,hk,_=>by simp at hk
 | A0 :: As,0,A,B,w,F,FB,h,hB,hk,hd0=>by
   simp at hk;subst hk
   obtain ⟨F1,F2,h1,h2,hd,hF⟩:=h
   exact ⟨fun b=>FB b ∨ F2 b,⟨FB,F2,hB,h2,fun b hb hb2=>hd0 b ((hF b).2 (.inr hb2)) hb,fun _=>Iff.rfl⟩,fun b hb=>hb.elim .inr fun h=>.inl ((hF b).2 (.inr h))⟩
 | A0 :: As,k + 1,A,B,w,F,FB,h,hB,hk,hd0=>by
   obtain ⟨F1,F2,h1,h2,hd,hF⟩:=h
   obtain ⟨F5,h5,h6⟩:=stars_push As k A B w F2 FB h2 hB (by simpa using hk) (fun b hb=>hd0 b ((hF b).2 (.inr hb)))
   refine ⟨fun b=>F1 b ∨ F5 b,⟨F1,F5,h1,h5,fun b hb hb5=>?_,fun _=>Iff.rfl⟩,fun b hb=>?_⟩
   · rcases h6 b hb5 with h | h
     · exact hd b hb h
     · exact hd0 b ((hF b).2 (.inl hb)) h
   · rcases hb with h | h
     · exact .inl ((hF b).2 (.inl h))
     · rcases h6 b h with h | h
       · exact .inl ((hF b).2 (.inr h))
       · exact .inr h
section
variable {G : Nat → Prop} {w0 w : World} {L As : List Asn} {A B : Asn}
theorem St.starPull (S : St G w0 w (stars As :: L)) (k : Nat) (hk : As[k]? = some B) (hB : B.sh = false) : St G w0 w (B :: stars (As.set k (pur True)) :: L):=by
 have S2:=S.weak (i:=0) (A':=sep false (stars (As.set k (pur True))) B) rfl (fun _=>stars_sh As) fun F h=>by
  obtain ⟨F1,F2,h1,h2,h3,h4⟩:=stars_pull As k B w F h hk
  exact ⟨F,fun _ hb=>hb,F1,F2,h1,h2,h3,h4⟩
 simp only [set_cons_zero] at S2
 exact (S2.open_sep (stars_sh _) hB).swap2
theorem St.starPush (S : St G w0 w (B :: stars As :: L)) (k : Nat) (hk : As[k]? = some A) (hB : B.sh = false) : St G w0 w (stars (As.set k B) :: L):=by
 have S1:=S.swap2.close_sep (stars_sh _) hB
 have S2:=S1.weak (i:=0) (A':=stars (As.set k B)) rfl (fun _=>rfl) fun F h=>by
  obtain ⟨F1,F2,h1,h2,hd,hF⟩:=h
  obtain ⟨F',h3,h4⟩:=stars_push As k A B w F1 F2 h1 h2 hk hd
  exact ⟨F',fun b hb=>(hF b).2 (h4 b hb),h3⟩
 simpa using S2
end
end Go.Proofs.YtmjljoaakdocaaaGreatDoor.Mem
/- A process's queue of events as a thing; the walks of its add, come, and of Put where nothing is taken back. -/
namespace Go.Proofs.YtmjljoaakdocaaaGreatDoor
open Go Go.RowKit Reg Mem
open List (set_cons_succ set_cons_zero setIfInBounds_toArray cons_append nil_append)
def queueA (X : Nat) (l m : List Event) : Asn:=exs false fun p : Value × Value=>
 sep false (Blk false X #[p.1,p.2] 243) (sep false (Mem.Own 58 Event.cells 7 p.1 l) (Mem.Own 58 Event.cells 7 p.2 m))
theorem queue_open {G : Nat → Prop} {w0 w : World} {L : List Asn} {X : Nat} {l m : List Event} (S : St G w0 w (queueA X l m :: L)) :
 ∃ v1 v2,St G w0 w (Mem.Own 58 Event.cells 7 v1 l :: Mem.Own 58 Event.cells 7 v2 m :: Blk false X #[v1,v2] 243 :: L):=by
 obtain ⟨⟨v1,v2⟩,S⟩:=S.open_exs (fun _=>rfl)
 exact ⟨v1,v2,(S.open_sep rfl rfl).swap2.open_sep rfl rfl⟩
theorem queue_close {G : Nat → Prop} {w0 w : World} {L : List Asn} {X : Nat} {l m : List Event} {v1 v2 : Value}
 (S : St G w0 w (Mem.Own 58 Event.cells 7 v1 l :: Mem.Own 58 Event.cells 7 v2 m :: Blk false X #[v1,v2] 243 :: L)) : St G w0 w (queueA X l m :: L):=
 ((S.close_sep rfl rfl).swap2.close_sep rfl rfl).close_exs (A:=fun p : Value × Value=>
 sep false (Blk false X #[p.1,p.2] 243) (sep false (Mem.Own 58 Event.cells 7 p.1 l) (Mem.Own 58 Event.cells 7 p.2 m))) (v1,v2) rfl
theorem qnew_calls (w : World) : Calls Tryz.prog 76 #[] w fun e w'=>∃ X,e = .returned (.pointer (some ⟨X,0,none⟩)) ∧ St (fun _=>False) w w' [queueA X [] []]:=by
 have S:=St.init (fun _=>False) w
 go_enter Tryz.func76,Tryz.ntmps76
 go_wp2_with first | ((with_reducible apply wps_boxa (E:=243) S);(case hx=>rfl);clear S;intro bX wz S)
 replace S:=(S.nil 58 Event.cells 7).nil 58 Event.cells 7
 go_ret
 exact ⟨_,rfl,(queue_close S).pick [0] rfl⟩
def RAddPost (X : Nat) (va : Value) (l : List Event) (F : Nat → Prop) (w : World) (r : Ending) (w' : World) : Prop:=
 ∃ v,r = .returned (.tuple #[]) ∧ St F w w' [Mem.Own 58 Event.cells 7 v l,Blk false X #[v,va] 243]
theorem radd_calls (X : Nat) (v va : Value) (l : List Event) (e : Event) (w : World) (F : Nat → Prop) (S0 : St F w w [Mem.Own 58 Event.cells 7 v l,Blk false X #[v,va] 243]) (hl : UpT l) (hn : l.length ≤ 65536) :
 Calls Tryz.prog 162 #[.pointer (some ⟨X,0,none⟩),.agg #[.int .i64 e.key.at_,.int .i64 e.key.src,.int .i64 e.key.sent,.int .i64 e.key.no,.int .i64 e.dst,.int .i64 e.kind,.int .i64 e.data]] w (RAddPost X va (insTot e l) F w):=by
 have S:=S0
 clear S0
 have HU:=Lib.hid hl
 have HI:=Lib.hid (ins_plT e hl)
 have HP:=Lib.hid (plT_le l e)
 have HLN : Hid (l.length ≤ 65536):=Lib.hid hn
 clear hl
 go_enter Tryz.func162,Tryz.ntmps162
 go_wp2_with first | ((with_reducible apply wps_boxa (E:=58) S);(case hx=>rfl);clear S;intro be wz S) | ((with_reducible apply wps_loada (T:=58) (k:=7) S 0);(case hx|hi=>rfl);(case hk=>exact nle rfl);(case hT=>decide +kernel)) | ((with_reducible apply wps_load S 2);(case hx|hi|hu=>rfl);(case hT=>decide +kernel)) | (go_at_call 195;have hcz:=bse_calls _ _ e _ _ (own_sl (sh:=true) ecells (S.get (i:=1) rfl).choose_spec) HU.out HLN.out;(with_reducible refine Calls.mono hcz ?_);clear hcz;rintro rr wz ⟨rfl,hE⟩;replace S:=S.ext (Keep.of_below hE);clear hE) | ((with_reducible apply wps_buildSlice (T:=53) (E:=58) (cs:=#[.int .i64 e.key.at_,.int .i64 e.key.src,.int .i64 e.key.sent,.int .i64 e.key.no,.int .i64 e.dst,.int .i64 e.kind,.int .i64 e.data]) S);(case hr=>intro w;kernel_rfl);clear S;intro bz wz S) | (go_at_call 197;replace S:=S.weak (i:=0) (A':=Blk true bz #[.int .i64 e.key.at_,.int .i64 e.key.src,.int .i64 e.key.sent,.int .i64 e.key.no,.int .i64 e.dst,.int .i64 e.kind,.int .i64 e.data] 58) rfl (fun e=>by cases e) (fun F h=>⟨F,fun _ hb=>hb,h⟩);simp only [set_cons_zero] at S;obtain ⟨Fz,hF,hBk⟩:=S.lend [2] [0] [1,3] rfl rfl rfl;simp only [cons_append,nil_append,pick,nth] at hF hBk;have hcz:=inse_calls _ l e _ bz _ _ hF HP.out HLN.out;rw [HI.out] at hcz;(with_reducible refine Calls.mono hcz ?_);clear hcz;rintro rr wz ⟨ai,ci,rfl,T⟩;replace S:=hBk _ _ T rfl;clear hBk hF T;simp only [cons_append,nil_append] at S) | ((with_reducible apply wps_store (u:=(.slice ai (insTot e l).length ci)) S 2);(case hx|hy|hi|h1=>rfl);(case hn=>exact nle rfl);(case hT=>decide +kernel);clear S;intro wz S;simp only [set_cons_succ,set_cons_zero,setIfInBounds_toArray] at S) | ((with_reducible refine tot_done ?ht ?_);(case ht=>kernel_rfl)) | ((with_reducible apply wps_text S);(case hm=>kernel_rfl);(case hB=>decide +kernel);clear S;intro wz S)
 go_end0
 exact ⟨_,rfl,S.pick [0,2] rfl⟩
theorem qcome_calls (X : Nat) (v va : Value) (l : List Event) (e : Event) (w : World) (F : Nat → Prop) (S0 : St F w w [Mem.Own 58 Event.cells 7 v l,Blk false X #[v,va] 243]) (hl : UpT l) (hn : l.length ≤ 65536) :
 Calls Tryz.prog 124 #[.pointer (some ⟨X,0,none⟩),.agg #[.int .i64 e.key.at_,.int .i64 e.key.src,.int .i64 e.key.sent,.int .i64 e.key.no,.int .i64 e.dst,.int .i64 e.kind,.int .i64 e.data]] w (RAddPost X va (insTot e l) F w):=by
 have S:=S0
 clear S0
 have HA:=Lib.hid fun w F S0=>radd_calls X v va l e w F S0 hl hn
 clear hl hn
 go_enter Tryz.func124,Tryz.ntmps124
 go_wp2_with first | ((with_reducible apply wps_boxa (E:=58) S);(case hx=>rfl);clear S;intro be wz S) | ((with_reducible apply wps_loada (T:=58) (k:=7) S 0);(case hx|hi=>rfl);(case hk=>exact nle rfl);(case hT=>decide +kernel)) | (go_at_call 162;obtain ⟨Fz,hF,hBk⟩:=S.lend [1,2] [] [0] rfl rfl rfl;simp only [cons_append,nil_append,pick,nth] at hF hBk;(with_reducible refine Calls.mono (HA.out _ _ hF) ?_);rintro rr wz ⟨v3,rfl,T⟩;replace S:=hBk _ _ T rfl;clear hBk hF T;simp only [cons_append,nil_append] at S) | ((with_reducible refine tot_done ?ht ?_);(case ht=>kernel_rfl)) | ((with_reducible apply wps_text S);(case hm=>kernel_rfl);(case hB=>decide +kernel);clear S;intro wz S)
 go_end0
 exact ⟨_,rfl,S.pick [0,1] rfl⟩
theorem rrem_nil (X : Nat) (v va : Value) (e : Event) (w : World) (F1 F2 : Nat → Prop) (h1 : (Sl true Event.cells 7 va []).at_ w F1) (h2 : (Blk true X #[v,va] 243).at_ w F2) :
 Calls Tryz.prog 161 #[.pointer (some ⟨X,1,none⟩),.agg #[.int .i64 e.key.at_,.int .i64 e.key.src,.int .i64 e.key.sent,.int .i64 e.key.no,.int .i64 e.dst,.int .i64 e.kind,.int .i64 e.data]] w fun r w'=>r = .returned (.bool false) ∧ Below w.heap.size w w':=by
 have S : St (fun _=>False) w w [Sl true Event.cells 7 va [],Blk true X #[v,va] 243]:=((St.init _ w).share (A:=Blk true X #[v,va] 243) rfl rfl h2).share (A:=Sl true Event.cells 7 va []) rfl rfl h1
 clear h1 h2
 have HB:=Lib.hid fun w F h=>bse_calls va [] e w F h List.Pairwise.nil (by simp)
 unfold BsEPost at HB
 rw [show plT [] e = 0 from rfl,show decide (e ∈ ([] : List Event)) = false from by simp] at HB
 go_enter Tryz.func161,Tryz.ntmps161
 go_wp2_with first | ((with_reducible apply wps_boxa (E:=58) S);(case hx=>rfl);clear S;intro be wz S) | ((with_reducible apply wps_loada (T:=58) (k:=7) S 0);(case hx|hi=>rfl);(case hk=>exact nle rfl);(case hT=>decide +kernel)) | ((with_reducible apply wps_load S 2);(case hx|hi|hu=>rfl);(case hT=>decide +kernel)) | (go_at_call 195;refine Calls.mono (HB.out _ _ (S.get (i:=1) rfl).choose_spec) ?_;rintro e wz ⟨rfl,hE⟩;replace S:=S.ext (Keep.of_below hE);clear hE) | ((with_reducible refine tot_done ?ht ?_);(case ht=>kernel_rfl)) | ((with_reducible apply wps_text S);(case hm=>kernel_rfl);(case hB=>decide +kernel);clear S;intro wz S)
 go_ret
 exact ⟨rfl,S.below⟩
theorem qmeet_nil (X : Nat) (v va : Value) (e : Event) (w : World) (F1 F2 : Nat → Prop) (h1 : (Sl true Event.cells 7 va []).at_ w F1) (h2 : (Blk true X #[v,va] 243).at_ w F2) :
 Calls Tryz.prog 122 #[.pointer (some ⟨X,1,none⟩),.agg #[.int .i64 e.key.at_,.int .i64 e.key.src,.int .i64 e.key.sent,.int .i64 e.key.no,.int .i64 e.dst,.int .i64 e.kind,.int .i64 e.data]] w fun r w'=>r = .returned (.bool false) ∧ Below w.heap.size w w':=by
 have S : St (fun _=>False) w w [Sl true Event.cells 7 va [],Blk true X #[v,va] 243]:=((St.init _ w).share (A:=Blk true X #[v,va] 243) rfl rfl h2).share (A:=Sl true Event.cells 7 va []) rfl rfl h1
 clear h1 h2
 go_enter Tryz.func122,Tryz.ntmps122
 go_wp2_with first | ((with_reducible apply wps_boxa (E:=58) S);(case hx=>rfl);clear S;intro be wz S) | ((with_reducible apply wps_loada (T:=58) (k:=7) S 0);(case hx|hi=>rfl);(case hk=>exact nle rfl);(case hT=>decide +kernel)) | (go_at_call 161;refine Calls.mono (rrem_nil _ _ _ _ _ _ _ (S.get (i:=1) rfl).choose_spec (S.get (i:=2) rfl).choose_spec) ?_;rintro e wz ⟨rfl,hE⟩;replace S:=S.ext (Keep.of_below hE);clear hE) | ((with_reducible refine tot_done ?ht ?_);(case ht=>kernel_rfl)) | ((with_reducible apply wps_text S);(case hm=>kernel_rfl);(case hB=>decide +kernel);clear S;intro wz S)
 go_ret
 exact ⟨rfl,S.below⟩
theorem qput_come (X : Nat) (l : List Event) (e : Event) (w : World) (F : Nat → Prop) (S0 : St F w w [queueA X l []]) (hl : UpT l) (hn : l.length ≤ 65536) (h0 : 0 ≤ e.key.at_) (h1 : e.key.at_ ≤ 1073741824) :
 Calls Tryz.prog 79 #[.pointer (some ⟨X,0,none⟩),.agg #[.int .i64 e.key.at_,.int .i64 e.key.src,.int .i64 e.key.sent,.int .i64 e.key.no,.int .i64 e.dst,.int .i64 e.kind,.int .i64 e.data,.bool false]] w fun r w'=>
  r = .returned (.tuple #[.bool false,.int .i64 0]) ∧ St F w w' [queueA X (insTot e l) []]:=by
 have S:=S0
 clear S0
 obtain ⟨v1,v2,S2⟩:=queue_open S
 clear S
 have S:=S2
 clear S2
 have HC:=Lib.hid fun w F S0=>qcome_calls X v1 v2 l e w F S0 hl hn
 have f1 : decide (e.key.at_ < 0) = false:=decide_eq_false (by omega)
 have f2 : decide (e.key.at_ > 1073741824) = false:=decide_eq_false (by omega)
 clear hl hn h0 h1
 go_enter Tryz.func79,Tryz.ntmps79
 go_wp2_with first | ((with_reducible apply wps_boxa (E:=84) S);(case hx=>rfl);clear S;intro be wz S) | (go_at_call 122;refine Calls.mono (qmeet_nil _ _ _ _ _ _ _ (own_sl (sh:=true) ecells (S.get (i:=2) rfl).choose_spec) (S.get (i:=3) rfl).choose_spec) ?_;rintro e wz ⟨rfl,hE⟩;replace S:=S.ext (Keep.of_below hE);clear hE) | (go_at_call 124;obtain ⟨Fz,hF,hBk⟩:=S.lend [1,3] [] [0,2] rfl rfl rfl;simp only [cons_append,nil_append,pick,nth] at hF hBk;(with_reducible refine Calls.mono (HC.out _ _ hF) ?_);rintro rr wz ⟨v3,rfl,T⟩;replace S:=hBk _ _ T rfl;clear hBk hF T;simp only [cons_append,nil_append] at S) | ((with_reducible refine tot_done ?ht ?_);(case ht=>kernel_rfl)) | ((with_reducible apply wps_text S);(case hm=>kernel_rfl);(case hB=>decide +kernel);clear S;intro wz S) | ((with_reducible apply wps_load S 0);(case hx|hi|hu=>rfl);(case hT=>decide +kernel)) | ((with_reducible apply wps_loada (T:=58) (k:=7) S 0);(case hx|hi=>rfl);(case hk=>exact nle rfl);(case hT=>decide +kernel))
 (try simp only [Exit.inBlock,Exit.then]);refine bodyPost_ret (results2 rfl (res_tmp rfl) (res_tmp rfl)) rfl ?_
 exact ⟨rfl,queue_close (S.pick [0,3,1] rfl)⟩
end Go.Proofs.YtmjljoaakdocaaaGreatDoor
namespace Go.Proofs.YtmjljoaakdocaaaGreatDoor
open Go Go.Shelf
open List (set_cons_succ set_cons_zero setIfInBounds_toArray cons_append nil_append)
set_option maxRecDepth 100000
def sortI_ren : Go.Shelf.Ren:=⟨fun | 53=>145 | 59=>227 | 63=>185 | 64=>186 | 68=>267 | 70=>221 | 71=>222 | 72=>223 | 73=>224 | 74=>225 | 75=>226 | 76=>228 | 77=>229 | 78=>230 | 79=>231 | 88=>273 | 89=>274 | 90=>275 | 91=>276 | 92=>277 | 96=>300 | n=>n,fun | 0=>0 | 1=>1 | 2=>2 | 3=>3 | 4=>4 | 5=>5 | 6=>6 | 7=>7 | 8=>8 | 9=>9 | 10=>10 | 11=>11 | 12=>12 | 13=>13 | 14=>14 | 15=>15 | 16=>16 | 17=>17 | 18=>18 | 19=>19 | 20=>20 | 21=>21 | 22=>92 | 23=>3 | 24=>300 | 28=>265 | 32=>273 | 34=>266 | 44=>71 | 51=>310 | 52=>332 | 53=>148 | 56=>308 | 57=>309 | 59=>340 | 60=>341 | 61=>342 | 62=>343 | 63=>344 | 64=>345 | 65=>346 | 66=>347 | 67=>348 | 68=>349 | 69=>350 | 75=>387 | 76=>388 | 77=>389 | 78=>390 | 79=>391 | 80=>392 | 83=>420 | 84=>219 | 85=>421 | 87=>451 | 88=>452 | 89=>453 | 90=>454 | 91=>455 | 92=>456 | 93=>33 | 94=>457 | 95=>458 | 96=>459 | 97=>435 | 98=>460 | 99=>461 | 100=>462 | 101=>463 | 102=>466 | n=>n,fun n=>n⟩
theorem sortI : SlLaysN.n53 Tryz.prog sortI_ren:={
 mixed:=by kernel_rfl,
 f53:=⟨Tryz.f145.name,by decide,Tryz.func145.trans (congrArg some (by kernel_rfl))⟩,
 f59:=⟨Tryz.f227.name,by decide,Tryz.func227.trans (congrArg some (by kernel_rfl))⟩,
 f63:=⟨Tryz.f185.name,by decide,Tryz.func185.trans (congrArg some (by kernel_rfl))⟩,
 f64:=Tryz.func186.trans (congrArg some (by kernel_rfl)),
 f68:=⟨Tryz.f267.name,by decide,Tryz.func267.trans (congrArg some (by kernel_rfl))⟩,
 f70:=⟨Tryz.f221.name,by decide,Tryz.func221.trans (congrArg some (by kernel_rfl))⟩,
 f71:=⟨Tryz.f222.name,by decide,Tryz.func222.trans (congrArg some (by kernel_rfl))⟩,
 f72:=⟨Tryz.f223.name,by decide,Tryz.func223.trans (congrArg some (by kernel_rfl))⟩,
 f73:=⟨Tryz.f224.name,by decide,Tryz.func224.trans (congrArg some (by kernel_rfl))⟩,
 f74:=⟨Tryz.f225.name,by decide,Tryz.func225.trans (congrArg some (by kernel_rfl))⟩,
 f75:=⟨Tryz.f226.name,by decide,Tryz.func226.trans (congrArg some (by kernel_rfl))⟩,
 f76:=⟨Tryz.f228.name,by decide,Tryz.func228.trans (congrArg some (by kernel_rfl))⟩,
 f77:=⟨Tryz.f229.name,by decide,Tryz.func229.trans (congrArg some (by kernel_rfl))⟩,
 f78:=Tryz.func230.trans (congrArg some (by kernel_rfl)),
 f79:=Tryz.func231.trans (congrArg some (by kernel_rfl)),
 f88:=⟨Tryz.f273.name,by decide,Tryz.func273.trans (congrArg some (by kernel_rfl))⟩,
 f89:=Tryz.func274.trans (congrArg some (by kernel_rfl)),
 f90:=Tryz.func275.trans (congrArg some (by kernel_rfl)),
 f91:=⟨Tryz.f276.name,by decide,Tryz.func276.trans (congrArg some (by kernel_rfl))⟩,
 f92:=⟨Tryz.f277.name,by decide,Tryz.func277.trans (congrArg some (by kernel_rfl))⟩,
 f96:=⟨Tryz.f300.name,by decide,Tryz.func300.trans (congrArg some (by kernel_rfl))⟩,
 t0:=Tryz.underlying0,
 a0:=Tryz.isAgg0,
 z0:=Tryz.sizeOf0,
 v0:=Tryz.zeroValue0,
 t3:=Tryz.underlying3,
 a3:=Tryz.isAgg3,
 z3:=Tryz.sizeOf3,
 v3:=Tryz.zeroValue3,
 t4:=Tryz.underlying4,
 a4:=Tryz.isAgg4,
 z4:=Tryz.sizeOf4,
 v4:=Tryz.zeroValue4,
 t5:=Tryz.underlying5,
 a5:=Tryz.isAgg5,
 z5:=Tryz.sizeOf5,
 v5:=Tryz.zeroValue5,
 t9:=Tryz.underlying9,
 a9:=Tryz.isAgg9,
 z9:=Tryz.sizeOf9,
 v9:=Tryz.zeroValue9,
 t22:=Tryz.underlying92,
 a22:=Tryz.isAgg92,
 z22:=Tryz.sizeOf92,
 v22:=Tryz.zeroValue92,
 t23:=Tryz.underlying3,
 a23:=Tryz.isAgg3,
 z23:=Tryz.sizeOf3,
 v23:=Tryz.zeroValue3,
 t44:=Tryz.underlying71,
 a44:=Tryz.isAgg71,
 z44:=Tryz.sizeOf71,
 v44:=Tryz.zeroValue71,
 t51:=Tryz.underlying310,
 a51:=Tryz.isAgg310,
 z51:=Tryz.sizeOf310,
 v51:=Tryz.zeroValue310,
 t60:=Tryz.underlying341,
 a60:=Tryz.isAgg341,
 z60:=Tryz.sizeOf341,
 v60:=Tryz.zeroValue341,
 t61:=Tryz.underlying342,
 a61:=Tryz.isAgg342,
 z61:=Tryz.sizeOf342,
 v61:=Tryz.zeroValue342,
 t67:=Tryz.underlying348,
 a67:=Tryz.isAgg348,
 z67:=Tryz.sizeOf348,
 v67:=Tryz.zeroValue348,
 t69:=Tryz.underlying350,
 a69:=Tryz.isAgg350,
 z69:=Tryz.sizeOf350,
 v69:=Tryz.zeroValue350,
 t75:=Tryz.underlying387,
 a75:=Tryz.isAgg387,
 z75:=Tryz.sizeOf387,
 v75:=Tryz.zeroValue387,
 t79:=Tryz.underlying391,
 a79:=Tryz.isAgg391,
 z79:=Tryz.sizeOf391,
 v79:=Tryz.zeroValue391,
 t83:=Tryz.underlying420,
 a83:=Tryz.isAgg420,
 z83:=Tryz.sizeOf420,
 v83:=Tryz.zeroValue420,
 t84:=Tryz.underlying219,
 a84:=Tryz.isAgg219,
 z84:=Tryz.sizeOf219,
 v84:=Tryz.zeroValue219 }
end Go.Proofs.YtmjljoaakdocaaaGreatDoor
/- The walks of keys.Of, keys.Check and the law's Events (as in K1, K8, L6), for a seat that has these alone. -/
namespace Go.Proofs.YtmjljoaakdocaaaGreatDoor
open Go Go.RowKit Reg Mem
open List (set_cons_succ set_cons_zero setIfInBounds_toArray cons_append nil_append)
def chk (e : Event) : Int:=
 if e.key.src < -1 ∨ 32 ≤ e.key.src ∨ e.dst < 0 ∨ 32 ≤ e.dst ∨ e.key.no < 0 ∨ 1024 ≤ e.key.no ∨ e.key.at_ < 0 ∨ 1073741824 < e.key.at_ then 10
 else if e.key.sent < -1 ∨ e.key.at_ ≤ e.key.sent then 18 else 0
end Go.Proofs.YtmjljoaakdocaaaGreatDoor
/- Plain: what is sent in a batch; and a configuration that is shared. -/
namespace Go.Proofs.YtmjljoaakdocaaaGreatDoor
open Go Go.RowKit Mem
open List (set_cons_succ set_cons_zero setIfInBounds_toArray cons_append nil_append)
section
variable {G : Nat → Prop} {w0 w : World} {L : List Asn} {vs hs : List Value} {c : Cfg}
theorem Mem.St.cfgShare (S : St G w0 w L) (i : Nat) (hi : L[i]? = some (CfgA false vs hs c)) : St G w0 w (L.set i (CfgA true vs hs c)):=
 S.weak hi (fun e=>by cases e) (fun F h=>⟨F,fun _ hb=>hb,h⟩)
end
structure SentOk (n : Nat) (fin lp at_ : Int) (out : List Event) : Prop where
 each : ∀ (i : Nat) (x : Event),out[i]? = some x → x.key.src = lp ∧ x.key.sent = at_ ∧ x.key.no = i ∧ at_ < x.key.at_ ∧ x.key.at_ ≤ fin ∧ 0 ≤ x.dst ∧ x.dst < n
end Go.Proofs.YtmjljoaakdocaaaGreatDoor
/- Plain: a log of what is done for good; what is wrong with events that are to be committed; the batches of a commit. No program in sight. -/
namespace Go.Proofs.YtmjljoaakdocaaaGreatDoor
open Go Go.RowKit Mem
open List (set_cons_succ set_cons_zero setIfInBounds_toArray cons_append nil_append)
def dupB (l : List Event) : Bool:=!decide ((l.map fun x=>(x.key,x.dst)).Nodup)
def wrongL (n : Nat) (time below : Int) (l : List Event) : Int:=
 if below < time ∨ 1073741825 < below then 18 else if ¬ (∀ x ∈ l,time ≤ x.key.at_ ∧ x.key.at_ < below) then 18
 else if ¬ (∀ x ∈ l,0 ≤ x.dst ∧ x.dst < n) then 10 else if dupB l = true then 13 else 0
structure Fine (n : Nat) (time below : Int) (l : List Event) : Prop where
 ord : time ≤ below
 top : below ≤ 1073741825
 times : ∀ x ∈ l,time ≤ x.key.at_ ∧ x.key.at_ < below
 dsts : ∀ x ∈ l,0 ≤ x.dst ∧ x.dst < n
 once : dupB l = false
theorem dup_yes {l : List Event} {i j : Nat} {x y : Event} (hx : l[i]? = some x) (hy : l[j]? = some y) (hij : i ≠ j) (hk : x.key = y.key) (hd : x.dst = y.dst) : dupB l = true:=by
 unfold dupB
 rw [Bool.not_eq_true',decide_eq_false_iff_not]
 intro hn
 have e1 : (l.map fun x=>(x.key,x.dst))[i]? = some (x.key,x.dst):=by simp [hx]
 have e2 : (l.map fun x=>(x.key,x.dst))[j]? = some (x.key,x.dst):=by simp [hy,hk,hd]
 obtain ⟨a1,a2⟩:=List.getElem?_eq_some_iff.1 e1
 obtain ⟨b1,b2⟩:=List.getElem?_eq_some_iff.1 e2
 exact hij ((List.getElem_inj hn).1 (a2.trans b2.symm))
theorem key_ext {k l : Key} (h1 : k.at_ = l.at_) (h2 : k.src = l.src) (h3 : k.sent = l.sent) (h4 : k.no = l.no) : k = l:=by
 obtain ⟨a,b,c,d⟩:=k;obtain ⟨a',b',c',d'⟩:=l;simp only at h1 h2 h3 h4;subst h1;subst h2;subst h3;subst h4;rfl
theorem up_mid {x y z : Event} (h1 : ¬ evLt y x) (h2 : ¬ evLt z y) (hk : x.key = z.key) (hd : x.dst = z.dst) : x.key = y.key ∧ x.dst = y.dst:=by
 have e1 : x.key.at_ = z.key.at_:=by rw [hk]
 have e2 : x.key.src = z.key.src:=by rw [hk]
 have e3 : x.key.sent = z.key.sent:=by rw [hk]
 have e4 : x.key.no = z.key.no:=by rw [hk]
 unfold evLt at h1 h2
 have g1 : x.key.at_ = y.key.at_:=by omega
 have g2 : x.key.src = y.key.src:=by omega
 have g3 : x.key.sent = y.key.sent:=by omega
 have g4 : x.key.no = y.key.no:=by omega
 exact ⟨key_ext g1 g2 g3 g4,by omega⟩
theorem nodup_adj : ∀ {s : List Event},UpT s → (∀ (q : Nat) x y,s[q]? = some x → s[q + 1]? = some y → ¬ (x.key = y.key ∧ x.dst = y.dst)) → (s.map fun x=>(x.key,x.dst)).Nodup
 | [],_,_=>List.nodup_nil
 | [x],_,_=>by simp
 | x :: y :: s,hp,hq=>by
   have ih:=nodup_adj (s:=y :: s) (List.pairwise_cons.1 hp).2 (fun q a b ha hb=>hq (q + 1) a b (by simpa using ha) (by simpa using hb))
   rw [List.map_cons,List.nodup_cons]
   refine ⟨fun hm=>?_,ih⟩
   obtain ⟨z,hz,e⟩:=List.mem_map.1 hm
   simp only [Prod.mk.injEq] at e
   have h1:=(List.pairwise_cons.1 hp).1 y (by simp)
   have h2 : ¬ evLt z y:=by
    rcases List.mem_cons.1 hz with rfl | hz
    · exact evLt_irrefl _
    · exact (List.pairwise_cons.1 (List.pairwise_cons.1 hp).2).1 z hz
   exact hq 0 x y rfl rfl (up_mid h1 h2 e.1.symm e.2.symm)
theorem dup_no {l : List Event} (hu : UpT l) (h : ∀ (q : Nat) x y,l[q]? = some x → l[q + 1]? = some y → ¬ (x.key = y.key ∧ x.dst = y.dst)) : dupB l = false:=by
 unfold dupB
 rw [Bool.not_eq_false',decide_eq_true_eq]
 exact nodup_adj hu h
def toldL (l : List Event) (lp : Int) : List Event:=l.filter fun x=>decide (x.dst = lp)
def stAt (ss : List State) (lp : Int) : State:=(ss[lp.toNat]?).getD ⟨0,0,0,0⟩
def lpL (c : Cfg) (at_ : Int) (l : List Event) (p : List State × List BatE) (lp : Nat) : List State × List BatE:=
 if (toldL l lp).length = 0 then p else
  (p.1.set lp (batchC c lp (stAt p.1 lp) (toldL l lp)).1,p.2 ++ [⟨at_,lp,toldL l lp,(batchC c lp (stAt p.1 lp) (toldL l lp)).1,(batchC c lp (stAt p.1 lp) (toldL l lp)).2⟩])
def runL (c : Cfg) (at_ : Int) (l : List Event) (ss : List State) : List State × List BatE:=(List.range c.lps.length).foldl (lpL c at_ l) (ss,[])
def sameT (a : Int) (x : Event) : Bool:=decide (x.key.at_ = a)
def groups : Nat → List Event → List (Int × List Event)
 | 0,_=>[]
 | _ + 1,[]=>[]
 | k + 1,x :: l=>(x.key.at_,x :: l.takeWhile (sameT x.key.at_)) :: groups k (l.dropWhile (sameT x.key.at_))
def runs (c : Cfg) : List (Int × List Event) → List State → List State × List BatE
 | [],ss=>(ss,[])
 | g :: gs,ss=>((runs c gs (runL c g.1 g.2 ss).1).1,(runL c g.1 g.2 ss).2 ++ (runs c gs (runL c g.1 g.2 ss).1).2)
def timesL (c : Cfg) (l : List Event) (ss : List State) : List State × List BatE:=runs c (groups l.length l) ss
structure LogE where
 ss : List State
 time : Int
 done : List BatE
def newL (c : Cfg) : LogE:=⟨c.lps.map (·.first),0,[]⟩
def comL (c : Cfg) (g : LogE) (below : Int) (l : List Event) : LogE:=⟨(timesL c (sortT l) g.ss).1,below,g.done ++ (timesL c (sortT l) g.ss).2⟩
def setst (ss : List State) (b : BatE) : List State:=ss.set b.lp.toNat b.thn
structure BRuns (c : Cfg) (ss : List State) (bs : List BatE) (ss' : List State) : Prop where
 fin : bs.foldl setst ss = ss'
 each : ∀ (k : Nat) (b : BatE),bs[k]? = some b → 0 ≤ b.lp ∧ b.lp < c.lps.length ∧ 0 < b.ins.length ∧ (∀ x ∈ b.ins,x.dst = b.lp ∧ x.key.at_ = b.at_) ∧ UpT b.ins ∧
  batchC c b.lp (stAt ((bs.take k).foldl setst ss) b.lp) b.ins = (b.thn,b.sent)
def lpsL (c : Cfg) (at_ : Int) (l : List Event) (ss : List State) (j : Nat) : List State × List BatE:=(List.range j).foldl (lpL c at_ l) (ss,[])
def BefE (a b : BatE) : Prop:=a.at_ < b.at_ ∨ (a.at_ = b.at_ ∧ a.lp < b.lp)
def ruleC (c : Cfg) (lp : Int) (s : State) (l : List Event) : State × List Event:=
 if wrongE c.lps.length lp (once (sortT l)) = 0 then batchC c lp s (once (sortT l)) else (s,[])
end Go.Proofs.YtmjljoaakdocaaaGreatDoor
/- Lists of states; slices.Clone of them. -/
namespace Go.Proofs.YtmjljoaakdocaaaGreatDoor
open Go Go.RowKit Reg Mem
open List (set_cons_succ set_cons_zero setIfInBounds_toArray cons_append nil_append)
theorem elem_Sst : Elem Tryz.prog 116 141 4 32:=⟨_,.agg #[.int .i64 0,.int .i64 0,.int .i64 0,.int .i64 0],Tryz.underlying116,rfl,by kernel_rfl,by kernel_rfl,by kernel_rfl,by kernel_rfl,by omega⟩
end Go.Proofs.YtmjljoaakdocaaaGreatDoor
