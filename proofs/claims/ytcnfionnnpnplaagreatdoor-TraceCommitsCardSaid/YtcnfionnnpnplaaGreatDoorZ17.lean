import Derived.Test.YtcnfionnnpnplaaGreatDoorZ16
import Derived.Test.YtcnfionnnpnplaaGreatDoorZ14
import Derived.Test.YtcnfionnnpnplaaGreatDoorZ09
import Derived.Test.YtcnfionnnpnplaaGreatDoorZ04
import Derived.Test.YtcnfionnnpnplaaGreatDoorZ06
/- Plain: what is sent in a batch; and a configuration that is shared. -/
set_option maxRecDepth 100000
namespace Go.Proofs.YtcnfionnnpnplaaGreatDoor
open Go Go.RowKit Mem
open List (set_cons_succ set_cons_zero setIfInBounds_toArray cons_append nil_append)
section
variable {G : Nat → Prop} {w0 w : World} {L : List Asn} {vs hs : List Value} {c : Cfg}
theorem Mem.St.cfgShare (S : St G w0 w L) (i : Nat) (hi : L[i]? = some (CfgA false vs hs c)) : St G w0 w (L.set i (CfgA true vs hs c)):=
 S.weak hi (fun e=>by cases e) (fun F h=>⟨F,fun _ hb=>hb,h⟩)
end
structure SentOk (n : Nat) (fin lp at_ : Int) (out : List Event) : Prop where
 each : ∀ (i : Nat) (x : Event),out[i]? = some x → x.key.src = lp ∧ x.key.sent = at_ ∧ x.key.no = i ∧ at_ < x.key.at_ ∧ x.key.at_ ≤ fin ∧ 0 ≤ x.dst ∧ x.dst < n
theorem SentOk.nil (n : Nat) (fin lp at_ : Int) : SentOk n fin lp at_ []:=⟨fun i x h=>by simp at h⟩
theorem SentOk.send {n : Nat} {fin lp at_ : Int} {out : List Event} (h : SentOk n fin lp at_ out) (y : Emit) : SentOk n fin lp at_ (sendE n fin lp at_ out y):=by
 unfold sendE
 split
 · rename_i hm
   unfold msgE at hm
   rw [decide_eq_true_eq] at hm
   refine ⟨fun i x hx=>?_⟩
   by_cases hi : i < out.length
   · rw [List.getElem?_append_left hi] at hx;exact h.each i x hx
   · have hi2 : i = out.length:=by have:=(List.getElem?_eq_some_iff.1 hx).1;simp at this;omega
     subst hi2
     rw [List.getElem?_append_right (Nat.le_refl _)] at hx
     simp at hx
     subst hx
     exact ⟨rfl,rfl,rfl,by simp only;omega,hm.2.2.2.2,hm.1,hm.2.1⟩
 · exact h
theorem SentOk.sends {n : Nat} {fin lp at_ : Int} : ∀ (em : List Emit) {out : List Event},SentOk n fin lp at_ out → SentOk n fin lp at_ (em.foldl (sendE n fin lp at_) out)
 | [],_,h=>h
 | y :: em,_,h=>SentOk.sends em (h.send y)
theorem SentOk.ones {p : List Instr} {n : Nat} {fin fuel fan lp at_ : Int} : ∀ (l : List Event) {st : State × List Event},SentOk n fin lp at_ st.2 → SentOk n fin lp at_ (l.foldl (oneE p n fin fuel fan lp at_) st).2
 | [],_,h=>h
 | x :: l,st,h=>SentOk.ones l (st:=oneE p n fin fuel fan lp at_ st x) (SentOk.sends _ h)
theorem batch_sent (c : Cfg) (lp : Int) (s : State) (l : List Event) : SentOk c.lps.length c.fin lp (atE l) (batchC c lp s l).2:=SentOk.ones _ (SentOk.nil _ _ _ _)
theorem batch_len (c : Cfg) (lp : Int) (s : State) (l : List Event) (h : 0 ≤ c.fan) : ((batchC c lp s l).2.length : Int) ≤ c.fan * l.length:=by
 have:=ones_len (p:=progOf c lp) (n:=c.lps.length) (fin:=c.fin) (fuel:=c.fuel) (lp:=lp) (at_:=atE l) h (sortE l) (s,[])
 rw [sortE_len] at this
 have e : (s,([] : List Event)).2.length = 0:=rfl
 rw [e] at this
 unfold batchC batchE
 omega
end Go.Proofs.YtcnfionnnpnplaaGreatDoor
/- Plain: a batch that was done. -/
namespace Go.Proofs.YtcnfionnnpnplaaGreatDoor
open Go Go.RowKit Mem
open List (set_cons_succ set_cons_zero setIfInBounds_toArray cons_append nil_append)
structure BatE where
 at_ : Int
 lp : Int
 ins : List Event
 thn : State
 sent : List Event
theorem twh_mem {α : Type} (p : α → Bool) : ∀ (l : List α),∀ x ∈ l.takeWhile p,p x = true ∧ x ∈ l
 | [],x,h=>by simp at h
 | a :: l,x,h=>by
   by_cases e : p a = true
   · rw [List.takeWhile_cons,if_pos e] at h
     rcases List.mem_cons.1 h with rfl | h
     · exact ⟨e,by simp⟩
     · exact ⟨(twh_mem p l x h).1,List.mem_cons_of_mem _ (twh_mem p l x h).2⟩
   · rw [List.takeWhile_cons,if_neg e] at h;simp at h
end Go.Proofs.YtcnfionnnpnplaaGreatDoor
/- Plain: a log of what is done for good; what is wrong with events that are to be committed; the batches of a commit. No program in sight. -/
namespace Go.Proofs.YtcnfionnnpnplaaGreatDoor
open Go Go.RowKit Mem
open List (set_cons_succ set_cons_zero setIfInBounds_toArray cons_append nil_append)
def dupB (l : List Event) : Bool:=!decide ((l.map fun x=>(x.key,x.dst)).Nodup)
def wrongL (n : Nat) (time below : Int) (l : List Event) : Int:=
 if below < time ∨ 1073741825 < below then 18 else if ¬ (∀ x ∈ l,time ≤ x.key.at_ ∧ x.key.at_ < below) then 18
 else if ¬ (∀ x ∈ l,0 ≤ x.dst ∧ x.dst < n) then 10 else if dupB l = true then 13 else 0
structure Fine (n : Nat) (time below : Int) (l : List Event) : Prop where
 ord : time ≤ below
 top : below ≤ 1073741825
 times : ∀ x ∈ l,time ≤ x.key.at_ ∧ x.key.at_ < below
 dsts : ∀ x ∈ l,0 ≤ x.dst ∧ x.dst < n
 once : dupB l = false
def toldL (l : List Event) (lp : Int) : List Event:=l.filter fun x=>decide (x.dst = lp)
def stAt (ss : List State) (lp : Int) : State:=(ss[lp.toNat]?).getD ⟨0,0,0,0⟩
def lpL (c : Cfg) (at_ : Int) (l : List Event) (p : List State × List BatE) (lp : Nat) : List State × List BatE:=
 if (toldL l lp).length = 0 then p else
  (p.1.set lp (batchC c lp (stAt p.1 lp) (toldL l lp)).1,p.2 ++ [⟨at_,lp,toldL l lp,(batchC c lp (stAt p.1 lp) (toldL l lp)).1,(batchC c lp (stAt p.1 lp) (toldL l lp)).2⟩])
def runL (c : Cfg) (at_ : Int) (l : List Event) (ss : List State) : List State × List BatE:=(List.range c.lps.length).foldl (lpL c at_ l) (ss,[])
def sameT (a : Int) (x : Event) : Bool:=decide (x.key.at_ = a)
def groups : Nat → List Event → List (Int × List Event)
 | 0,_=>[]
 | _ + 1,[]=>[]
 | k + 1,x :: l=>(x.key.at_,x :: l.takeWhile (sameT x.key.at_)) :: groups k (l.dropWhile (sameT x.key.at_))
def runs (c : Cfg) : List (Int × List Event) → List State → List State × List BatE
 | [],ss=>(ss,[])
 | g :: gs,ss=>((runs c gs (runL c g.1 g.2 ss).1).1,(runL c g.1 g.2 ss).2 ++ (runs c gs (runL c g.1 g.2 ss).1).2)
def timesL (c : Cfg) (l : List Event) (ss : List State) : List State × List BatE:=runs c (groups l.length l) ss
structure LogE where
 ss : List State
 time : Int
 done : List BatE
def newL (c : Cfg) : LogE:=⟨c.lps.map (·.first),0,[]⟩
def comL (c : Cfg) (g : LogE) (below : Int) (l : List Event) : LogE:=⟨(timesL c (sortT l) g.ss).1,below,g.done ++ (timesL c (sortT l) g.ss).2⟩
def setst (ss : List State) (b : BatE) : List State:=ss.set b.lp.toNat b.thn
structure BRuns (c : Cfg) (ss : List State) (bs : List BatE) (ss' : List State) : Prop where
 fin : bs.foldl setst ss = ss'
 each : ∀ (k : Nat) (b : BatE),bs[k]? = some b → 0 ≤ b.lp ∧ b.lp < c.lps.length ∧ 0 < b.ins.length ∧ (∀ x ∈ b.ins,x.dst = b.lp ∧ x.key.at_ = b.at_) ∧ UpT b.ins ∧
  batchC c b.lp (stAt ((bs.take k).foldl setst ss) b.lp) b.ins = (b.thn,b.sent)
def lpsL (c : Cfg) (at_ : Int) (l : List Event) (ss : List State) (j : Nat) : List State × List BatE:=(List.range j).foldl (lpL c at_ l) (ss,[])
def BefE (a b : BatE) : Prop:=a.at_ < b.at_ ∨ (a.at_ = b.at_ ∧ a.lp < b.lp)
def ruleC (c : Cfg) (lp : Int) (s : State) (l : List Event) : State × List Event:=
 if wrongE c.lps.length lp (once (sortT l)) = 0 then batchC c lp s (once (sortT l)) else (s,[])
end Go.Proofs.YtcnfionnnpnplaaGreatDoor
/- Plain: a trace: batches that were committed, process by process; what may be committed; all batches in order; the states behind them. No program in sight. -/
namespace Go.Proofs.YtcnfionnnpnplaaGreatDoor
open Go Go.RowKit Mem
open List (set_cons_succ set_cons_zero setIfInBounds_toArray cons_append nil_append)
abbrev TrE:=List (List BatE × State)
def newT (c : Cfg) : TrE:=c.lps.map fun p=>([],p.first)
def putT (t : TrE) (b : BatE) : Option TrE:=
 match t[b.lp.toNat]? with
 | none=>none
 | some p=>match p.1.getLast? with
   | some x=>if b.at_ ≤ x.at_ then none else some (t.set b.lp.toNat (p.1 ++ [b],p.2))
   | none=>some (t.set b.lp.toNat (p.1 ++ [b],p.2))
def putsT : TrE → List BatE → Option TrE
 | t,[]=>some t
 | t,b :: l=>match putT t b with
   | none=>none
   | some t'=>putsT t' l
def inRange (n : Nat) (l : List BatE) : Prop:=∀ b ∈ l,0 ≤ b.lp ∧ b.lp < n
instance (n : Nat) (l : List BatE) : Decidable (inRange n l):=by unfold inRange;infer_instance
def commitT (t : TrE) (l : List BatE) : Int × TrE:=
 if ¬ inRange t.length l then (10,t) else match putsT t l with
  | none=>(18,t)
  | some t'=>(0,t')
def Rise (l : List BatE) : Prop:=l.Pairwise fun a b=>a.lp = b.lp → a.at_ < b.at_
instance (l : List BatE) : Decidable (Rise l):=by unfold Rise;infer_instance
def wrongT (n : Nat) (there l : List BatE) : Int:=if ¬ inRange n l then 10 else if Rise (there ++ l) then 0 else 18
def ofT (there : List BatE) (lp : Int) : List BatE:=there.filter fun b=>decide (b.lp = lp)
def IsT (c : Cfg) (there : List BatE) (t : TrE) : Prop:=t.length = c.lps.length ∧ ∀ (i : Nat) (p : Place),c.lps[i]? = some p → t[i]? = some (ofT there i,p.first)
theorem isT_new (c : Cfg) : IsT c [] (newT c):=⟨by simp [newT],fun i p h=>by simp [newT,h,ofT]⟩
theorem ofT_append (a b : List BatE) (lp : Int) : ofT (a ++ b) lp = ofT a lp ++ ofT b lp:=List.filter_append _ _
theorem ofT_mem {l : List BatE} {lp : Int} {b : BatE} : b ∈ ofT l lp ↔ b ∈ l ∧ b.lp = lp:=by unfold ofT;rw [List.mem_filter,decide_eq_true_eq]
theorem ofT_rise {l : List BatE} (h : Rise l) (lp : Int) : (ofT l lp).Pairwise fun a b=>a.at_ < b.at_:=by
 have h2 : (ofT l lp).Pairwise fun a b=>a.lp = b.lp → a.at_ < b.at_:=h.sublist List.filter_sublist
 refine (List.Pairwise.and_mem.1 h2).imp fun {a b} g=>?_
 have h3:=(ofT_mem.1 g.1).2
 have h4:=(ofT_mem.1 g.2.1).2
 exact g.2.2 (by omega)
theorem last_max {l : List BatE} (h : l.Pairwise fun a b=>a.at_ < b.at_) {x : BatE} (hx : l.getLast? = some x) : ∀ y ∈ l,y.at_ ≤ x.at_:=by
 intro y hy
 obtain ⟨ys,rfl⟩:=List.getLast?_eq_some_iff.1 hx
 rcases List.mem_append.1 hy with hy | hy
 · exact Int.le_of_lt ((List.pairwise_append.1 h).2.2 y hy x (by simp))
 · simp at hy;subst hy;exact Int.le_refl _
theorem rise_snoc {l : List BatE} {b : BatE} (h : Rise l) : Rise (l ++ [b]) ↔ ∀ x ∈ ofT l b.lp,x.at_ < b.at_:=by
 unfold Rise
 rw [List.pairwise_append]
 constructor
 · intro g x hx
   have:=ofT_mem.1 hx
   exact g.2.2 x this.1 b (by simp) this.2
 · intro g
   refine ⟨h,by simp,fun x hx y hy e=>?_⟩
   simp at hy;subst hy
   exact g x (ofT_mem.2 ⟨hx,e⟩)
theorem putT_is {c : Cfg} {there : List BatE} {t : TrE} (h : IsT c there t) (hr : Rise there) {b : BatE} (hb : 0 ≤ b.lp ∧ b.lp < c.lps.length) :
 (Rise (there ++ [b]) ∧ ∃ t',putT t b = some t' ∧ IsT c (there ++ [b]) t') ∨ (¬ Rise (there ++ [b]) ∧ putT t b = none):=by
 obtain ⟨n,hn⟩ : ∃ n : Nat,b.lp = n:=⟨b.lp.toNat,by omega⟩
 have hnl : n < c.lps.length:=by omega
 obtain ⟨p,hp⟩ : ∃ p,c.lps[n]? = some p:=⟨_,List.getElem?_eq_getElem hnl⟩
 have ht:=h.2 n p hp
 have hset : IsT c (there ++ [b]) (t.set n (ofT there n ++ [b],p.first)):=by
  refine ⟨by rw [List.length_set];exact h.1,fun i q hq=>?_⟩
  rw [List.getElem?_set]
  by_cases e : n = i
  · subst e
    rw [hp] at hq;cases hq
    rw [if_pos rfl,if_pos (by rw [h.1];exact hnl),ofT_append]
    unfold ofT
    rw [List.filter_cons_of_pos (by simp [hn])];rfl
  · rw [if_neg e,h.2 i q hq,ofT_append]
    unfold ofT
    rw [List.filter_cons_of_neg (by simp [hn];omega)];simp
 unfold putT
 rw [hn,Int.toNat_natCast,ht]
 simp only
 have hrs:=rise_snoc (b:=b) hr
 rw [hn] at hrs
 cases hl : (ofT there n).getLast? with
 | none=>
   have : ofT there n = []:=List.getLast?_eq_none_iff.1 hl
   exact .inl ⟨hrs.2 (by rw [this];simp),_,rfl,hset⟩
 | some x=>
   have hxm : x ∈ ofT there n:=List.mem_of_getLast? hl
   have hmax:=last_max (ofT_rise hr n) hl
   simp only
   by_cases hx : b.at_ ≤ x.at_
   · rw [if_pos hx]
     exact .inr ⟨fun g=>by have:=hrs.1 g x hxm;omega,rfl⟩
   · rw [if_neg hx]
     exact .inl ⟨hrs.2 fun y hy=>by have:=hmax y hy;omega,_,rfl,hset⟩
theorem rise_sub {l m : List BatE} (h : Rise m) (hs : l.Sublist m) : Rise l:=List.Pairwise.sublist hs h
theorem putsT_is {c : Cfg} : ∀ (l : List BatE) {there : List BatE} {t : TrE},IsT c there t → Rise there → inRange c.lps.length l →
 (Rise (there ++ l) ∧ ∃ t',putsT t l = some t' ∧ IsT c (there ++ l) t') ∨ (¬ Rise (there ++ l) ∧ putsT t l = none)
 | [],there,t,h,hr,_=>.inl ⟨by rw [List.append_nil];exact hr,t,rfl,by rw [List.append_nil];exact h⟩
 | b :: l,there,t,h,hr,hi=>by
   have e : there ++ b :: l = (there ++ [b]) ++ l:=by simp
   rcases putT_is h hr (hi b (by simp)) with ⟨h1,t',h2,h3⟩ | ⟨h1,h2⟩
   · have:=putsT_is l h3 h1 (fun x hx=>hi x (List.mem_cons_of_mem _ hx))
     rw [e]
     simp only [putsT,h2]
     exact this
   · refine .inr ⟨fun g=>h1 (rise_sub g (by rw [e];exact List.sublist_append_left _ _)),?_⟩
     simp only [putsT,h2]
theorem commitT_is {c : Cfg} {there l : List BatE} {t : TrE} (h : IsT c there t) (hr : Rise there) :
 (commitT t l).1 = wrongT c.lps.length there l ∧ (wrongT c.lps.length there l = 0 → IsT c (there ++ l) (commitT t l).2 ∧ Rise (there ++ l)) ∧ (wrongT c.lps.length there l ≠ 0 → (commitT t l).2 = t):=by
 unfold commitT wrongT
 rw [h.1]
 by_cases hi : inRange c.lps.length l
 · rw [if_neg (fun g=>g hi),if_neg (fun g=>g hi)]
   rcases putsT_is l h hr hi with ⟨h1,t',h2,h3⟩ | ⟨h1,h2⟩
   · rw [h2,if_pos h1]
     exact ⟨rfl,fun _=>⟨h3,h1⟩,fun g=>absurd rfl g⟩
   · rw [h2,if_neg h1]
     exact ⟨rfl,fun g=>by simp at g,fun _=>rfl⟩
 · rw [if_pos hi,if_pos hi]
   exact ⟨rfl,fun g=>by simp at g,fun _=>rfl⟩
end Go.Proofs.YtcnfionnnpnplaaGreatDoor
/- Plain: all batches of a trace in order, and the states behind them. No program in sight. -/
namespace Go.Proofs.YtcnfionnnpnplaaGreatDoor
open Go Go.RowKit Mem
open List (set_cons_succ set_cons_zero setIfInBounds_toArray cons_append nil_append)
def leB (a b : BatE) : Prop:=a.at_ < b.at_ ∨ (a.at_ = b.at_ ∧ a.lp ≤ b.lp)
instance (a b : BatE) : Decidable (leB a b):=by unfold leB;infer_instance
def insB (x : BatE) : List BatE → List BatE
 | []=>[x]
 | y :: l=>if leB y x then y :: insB x l else x :: y :: l
def sortB (l : List BatE) : List BatE:=l.foldl (fun s x=>insB x s) []
def UpB (l : List BatE) : Prop:=l.Pairwise leB
theorem leB_trans {a b c : BatE} (h : leB a b) (k : leB b c) : leB a c:=by unfold leB at *;omega
theorem leB_total {a b : BatE} (h : ¬ leB a b) : leB b a:=by unfold leB at *;omega
theorem insB_perm (x : BatE) : ∀ l,(insB x l).Perm (x :: l)
 | []=>.refl _
 | y :: l=>by
   unfold insB
   split
   · exact ((insB_perm x l).cons y).trans (.swap x y l)
   · exact .refl _
theorem insB_up (x : BatE) : ∀ l,UpB l → UpB (insB x l)
 | [],_=>by simp [insB,UpB]
 | y :: l,h=>by
   have h':=List.pairwise_cons.1 h
   unfold insB
   split
   · rename_i hxy
     refine List.pairwise_cons.2 ⟨fun z hz=>?_,insB_up x l h'.2⟩
     rcases List.mem_cons.1 ((insB_perm x l).mem_iff.1 hz) with rfl | hz
     · exact hxy
     · exact h'.1 z hz
   · rename_i hxy
     refine List.pairwise_cons.2 ⟨fun z hz=>?_,h⟩
     rcases List.mem_cons.1 hz with rfl | hz
     · exact leB_total hxy
     · exact leB_trans (leB_total hxy) (h'.1 z hz)
theorem foldB_perm : ∀ (l s : List BatE),(l.foldl (fun s x=>insB x s) s).Perm (l ++ s)
 | [],_=>.refl _
 | x :: l,s=>(foldB_perm l (insB x s)).trans (((insB_perm x s).append_left l).trans List.perm_middle)
theorem foldB_up : ∀ (l s : List BatE),UpB s → UpB (l.foldl (fun s x=>insB x s) s)
 | [],_,h=>h
 | x :: l,_,h=>foldB_up l _ (insB_up x _ h)
theorem sortB_perm (l : List BatE) : (sortB l).Perm l:=(foldB_perm l []).trans (by rw [List.append_nil])
theorem sortB_up (l : List BatE) : UpB (sortB l):=foldB_up l [] List.Pairwise.nil
theorem pw_mem {α : Type} {R : α → α → Prop} : ∀ {l : List α},l.Pairwise R → ∀ {a b : α},a ∈ l → b ∈ l → a = b ∨ R a b ∨ R b a
 | [],_,_,_,h,_=>by simp at h
 | x :: l,h,a,b,ha,hb=>by
   have h':=List.pairwise_cons.1 h
   rcases List.mem_cons.1 ha with ea | ha2
   · rcases List.mem_cons.1 hb with eb | hb2
     · exact .inl (ea.trans eb.symm)
     · exact .inr (.inl (ea ▸ h'.1 b hb2))
   · rcases List.mem_cons.1 hb with eb | hb2
     · exact .inr (.inr (eb ▸ h'.1 a ha2))
     · exact pw_mem h'.2 ha2 hb2
theorem sortB_eq {l m : List BatE} (hr : Rise l) (hp : m.Perm l) (hm : UpB m) : m = sortB l:=by
 refine (hp.trans (sortB_perm l).symm).eq_of_pairwise (fun a b ha _ h k=>?_) hm (sortB_up l)
 have ha2:=hp.mem_iff.1 ha
 rename_i hb
 have hb2:=(sortB_perm l).mem_iff.1 hb
 rcases pw_mem hr ha2 hb2 with e | e | e
 · exact e
 · unfold leB at h k;have:=e (by omega);omega
 · unfold leB at h k;have:=e (by omega);omega
theorem parts_permT (l : List BatE) : ∀ j : Nat,((List.range j).flatMap fun i : Nat=>ofT l i).Perm (l.filter fun b=>decide (0 ≤ b.lp ∧ b.lp < (j : Int)))
 | 0=>by
   have : (l.filter fun b=>decide (0 ≤ b.lp ∧ b.lp < ((0 : Nat) : Int))) = []:=by
    rw [List.filter_eq_nil_iff];intro b _;simp
   rw [this];exact .refl _
 | j + 1=>by
   rw [List.range_succ,List.flatMap_append]
   have hsplit : (l.filter fun b=>decide (0 ≤ b.lp ∧ b.lp < ((j + 1 : Nat) : Int))).Perm ((l.filter fun b=>decide (0 ≤ b.lp ∧ b.lp < (j : Int))) ++ ofT l j):=by
    unfold ofT
    induction l with
    | nil=>exact .refl _
    | cons x l ih=>
      by_cases e1 : x.lp = j
      · rw [List.filter_cons_of_pos (by simp;omega),List.filter_cons_of_neg (by simp;omega),List.filter_cons_of_pos (by simp [e1])]
        exact (ih.cons x).trans List.perm_middle.symm
      · by_cases e2 : 0 ≤ x.lp ∧ x.lp < (j : Int)
        · rw [List.filter_cons_of_pos (by simp;omega),List.filter_cons_of_pos (by simp;omega),List.filter_cons_of_neg (by simp [e1])]
          exact ih.cons x
        · rw [List.filter_cons_of_neg (by simp;omega),List.filter_cons_of_neg (by simp;omega),List.filter_cons_of_neg (by simp [e1])]
          exact ih
   refine List.Perm.trans ?_ hsplit.symm
   simpa using (parts_permT l j).append_right _
theorem isT_map {c : Cfg} {there : List BatE} {t : TrE} (h : IsT c there t) : t.map (·.1) = (List.range c.lps.length).map fun i : Nat=>ofT there i:=by
 apply List.ext_getElem?
 intro i
 rw [List.getElem?_map,List.getElem?_map]
 by_cases hi : i < c.lps.length
 · rw [h.2 i _ (List.getElem?_eq_getElem hi),List.getElem?_range hi];rfl
 · rw [List.getElem?_eq_none (by rw [h.1];omega),List.getElem?_eq_none (by rw [List.length_range];omega)];rfl
theorem isT_perm {c : Cfg} {there : List BatE} {t : TrE} (h : IsT c there t) (hi : inRange c.lps.length there) : (t.flatMap (·.1)).Perm there:=by
 have e : t.flatMap (·.1) = (List.range c.lps.length).flatMap fun i : Nat=>ofT there i:=by
  rw [List.flatMap_def,List.flatMap_def,isT_map h]
 rw [e]
 refine (parts_permT there _).trans ?_
 rw [List.filter_eq_self.2 (fun b hb=>by have:=hi b hb;simp;omega)]
def lastS (p : List BatE × State) : State:=match p.1.getLast? with
 | some x=>x.thn
 | none=>p.2
theorem fold_stateR (r : List BatE) : ∀ {ss : List State},inRange ss.length r.reverse → ∀ (i : Nat) (s : State),ss[i]? = some s → (r.reverse.foldl setst ss)[i]? = some (lastS (ofT r.reverse i,s)):=by
 induction r with
 | nil=>intro ss _ i s h;simpa [ofT,lastS] using h
 | cons b r ih=>
   intro ss hi i s h
   rw [List.reverse_cons] at hi ⊢
   generalize r.reverse = m at *
   rw [List.foldl_append]
   have h1:=ih (ss:=ss) (fun x hx=>hi x (List.mem_append_left _ hx)) i s h
   have hb:=hi b (by simp)
   have hlen : ∀ (bs : List BatE) (ss : List State),(bs.foldl setst ss).length = ss.length:=by
    intro bs
    induction bs with
    | nil=>intro ss;rfl
    | cons b bs ih=>intro ss;rw [List.foldl_cons,ih];simp [setst]
   show ((m.foldl setst ss).set b.lp.toNat b.thn)[i]? = _
   rw [List.getElem?_set,ofT_append]
   by_cases e : b.lp.toNat = i
   · have e2 : b.lp = i:=by omega
     rw [if_pos e,if_pos (by rw [hlen];omega)]
     have : ofT [b] i = [b]:=by unfold ofT;rw [List.filter_cons_of_pos (by simp [e2])];rfl
     rw [this]
     simp [lastS]
   · have e2 : b.lp ≠ i:=by omega
     rw [if_neg e,h1]
     have : ofT [b] i = []:=by unfold ofT;rw [List.filter_cons_of_neg (by simp [e2])];rfl
     rw [this,List.append_nil]
theorem fold_state (m : List BatE) {ss : List State} (hi : inRange ss.length m) (i : Nat) (s : State) (h : ss[i]? = some s) : (m.foldl setst ss)[i]? = some (lastS (ofT m i,s)):=by
 have:=fold_stateR m.reverse (ss:=ss) (by rw [List.reverse_reverse];exact hi) i s h
 rwa [List.reverse_reverse] at this
theorem ofT_sort {l : List BatE} (hr : Rise l) (lp : Int) : ofT (sortB l) lp = ofT l lp:=by
 have hp : (ofT (sortB l) lp).Perm (ofT l lp):=(sortB_perm l).filter _
 refine hp.eq_of_pairwise (le:=fun a b=>a.at_ ≤ b.at_) (fun a b ha _ h k=>?_) ?_ ((ofT_rise hr lp).imp fun h=>Int.le_of_lt h)
 · rename_i hb
   rcases pw_mem (ofT_rise hr lp) (hp.mem_iff.1 ha) hb with e | e | e
   · exact e
   · omega
   · omega
 · have h1 : (ofT (sortB l) lp).Pairwise leB:=(sortB_up l).sublist List.filter_sublist
   refine h1.imp fun {a b} h=>?_
   unfold leB at h;omega
theorem states_is {c : Cfg} {there : List BatE} {t : TrE} (h : IsT c there t) (hr : Rise there) (hi : inRange c.lps.length there) : t.map lastS = (sortB there).foldl setst (c.lps.map (·.first)):=by
 apply List.ext_getElem?
 intro i
 rw [List.getElem?_map]
 by_cases hil : i < c.lps.length
 · obtain ⟨p,hp⟩ : ∃ p,c.lps[i]? = some p:=⟨_,List.getElem?_eq_getElem hil⟩
   rw [h.2 i p hp,fold_state (sortB there) (ss:=c.lps.map (·.first)) (fun b hb=>by rw [List.length_map];exact hi b ((sortB_perm there).mem_iff.1 hb)) i p.first (by rw [List.getElem?_map,hp];rfl),ofT_sort hr]
   rfl
 · have hlen : ∀ (bs : List BatE) (ss : List State),(bs.foldl setst ss).length = ss.length:=by
    intro bs
    induction bs with
    | nil=>intro ss;rfl
    | cons b bs ih=>intro ss;rw [List.foldl_cons,ih];simp [setst]
   rw [List.getElem?_eq_none (by rw [h.1];omega),List.getElem?_eq_none (by rw [hlen,List.length_map];omega)];rfl
end Go.Proofs.YtcnfionnnpnplaaGreatDoor
/- Plain: the events that are there at first, in order. No program in sight. -/
namespace Go.Proofs.YtcnfionnnpnplaaGreatDoor
open Go Go.RowKit Mem
open List (set_cons_succ set_cons_zero setIfInBounds_toArray cons_append nil_append)
def evsOf (c : Cfg) : List Event:=sortE (startsFrom 0 c.starts)
theorem evsOf_len (c : Cfg) : (evsOf c).length = c.starts.length:=by rw [evsOf,sortE_len,startsFrom_len]
structure CfgOk (c : Cfg) : Prop where
 sizes : sizesOk c
 starts : c.starts.length ≤ 256
 progs : ∀ p ∈ c.programs,codeE p = 0
 lps : ∀ p ∈ c.lps,0 ≤ p.program ∧ p.program < c.programs.length
 dst : ∀ s ∈ c.starts,0 ≤ s.dst ∧ s.dst < c.lps.length
 at_ : ∀ s ∈ c.starts,0 ≤ s.at_ ∧ s.at_ ≤ c.fin
end Go.Proofs.YtcnfionnnpnplaaGreatDoor
/- Plain: what holds of a trace ahead of a time, and that later batches do not count. No program in sight. -/
namespace Go.Proofs.YtcnfionnnpnplaaGreatDoor
open Go Go.RowKit Mem
open List (set_cons_succ set_cons_zero setIfInBounds_toArray cons_append nil_append)
def adjUp : List Event → Bool
 | x :: y :: l=>decide (x.key.cmp y.key < 0) && adjUp (y :: l)
 | _=>true
def rightE (c : Cfg) (b : BatE) (s : State) : Bool:=
 decide (wrongE c.lps.length b.lp b.ins = 0) && (b.ins.all fun x=>decide (x.key.at_ = b.at_)) && adjUp b.ins && decide (batchC c b.lp s b.ins = (b.thn,b.sent))
def goodL (c : Cfg) : List BatE → State → Bool
 | [],_=>true
 | b :: l,s=>rightE c b s && goodL c l b.thn
def aheadE (u : Int) (l : List BatE) : List BatE:=l.takeWhile fun b=>decide (b.at_ < u)
def aheadT (u : Int) (t : TrE) : TrE:=t.map fun p=>(aheadE u p.1,p.2)
def holdsQ (c : Cfg) (u : Int) (q : TrE) : Bool:=
 (q.all fun p=>goodL c p.1 p.2) && decide (sortE ((evsOf c ++ q.flatMap fun p=>p.1.flatMap (·.sent)).filter fun x=>decide (x.key.at_ < u)) = sortE (q.flatMap fun p=>p.1.flatMap (·.ins)))
def holdsE (c : Cfg) (u : Int) (t : TrE) : Bool:=holdsQ c u (aheadT u t)
def earlyB (u : Int) (l : List BatE) : List BatE:=l.filter fun b=>decide (b.at_ < u)
end Go.Proofs.YtcnfionnnpnplaaGreatDoor
/- Things put in another order; several slices and several more. Over any program. -/
namespace Go.Proofs.YtcnfionnnpnplaaGreatDoor.Mem
open Go Go.RowKit
open List (set_cons_succ set_cons_zero setIfInBounds_toArray cons_append nil_append)
theorem St.swap2 {G : Nat → Prop} {w0 w : World} {L : List Asn} {A B : Asn} (S : St G w0 w (A :: B :: L)) : St G w0 w (B :: A :: L):=by
 obtain ⟨Fs,hf,hd⟩:=S.ex
 have g : ∀ i : Nat,∀ X : Asn,(B :: A :: L)[i]? = some X → (A :: B :: L)[(match i with | 0=>1 | 1=>0 | i + 2=>i + 2 : Nat)]? = some X:=by
  intro i X h
  match i with
  | 0=>exact h
  | 1=>exact h
  | i + 2=>exact h
 refine ⟨S.keep,fun i=>Fs (match i with | 0=>1 | 1=>0 | i + 2=>i + 2 : Nat),fun i X hi=>hf _ X (g i X hi),fun i j X Y hij hi hj=>?_⟩
 have hi':=g i X hi
 have hj':=g j Y hj
 match i,j,hij with
 | 0,1,_=>
   rcases hd 0 1 Y X (by omega) hj' hi' with ⟨e1,e2⟩ | e
   · exact .inl ⟨e2,e1⟩
   · exact .inr fun x hx hx'=>e x hx' hx
 | 0,j + 2,_=>exact hd 1 (j + 2) X Y (by omega) hi' hj'
 | 1,j + 2,_=>exact hd 0 (j + 2) X Y (by omega) hi' hj'
 | i + 2,j + 2,h=>exact hd (i + 2) (j + 2) X Y (by omega) hi' hj'
 | 0,0,h=>omega
 | i + 1,0,h=>omega
 | i + 1,1,h=>omega
section
variable {G : Nat → Prop} {w0 w w' : World} {L : List Asn} {A A' B C : Asn} {i : Nat}
theorem St.slsAppend {α : Type} {enc : α → List Value} {k : Nat} {vs vs' : List Value} {xss xss' : List (List α)} (S : St G w0 w (Sls false enc k vs xss :: Sls false enc k vs' xss' :: L)) : St G w0 w (Sls false enc k (vs ++ vs') (xss ++ xss') :: L):=
 S.merge _ rfl rfl rfl fun F F' h h'=>by
  refine ⟨⟨by simp [h'.1.1,h.1.1],fun j u ys hu hy=>?_⟩,fun b hb=>hb.elim (h.2 b) (h'.2 b)⟩
  by_cases hj : j < vs.length
  · rw [List.getElem?_append_left hj] at hu
    rw [List.getElem?_append_left (by rw [← h.1.1];exact hj)] at hy
    exact (h.1.2 j u ys hu hy).mono fun _=>.inl
  · rw [List.getElem?_append_right (by omega)] at hu
    rw [List.getElem?_append_right (by have:=h.1.1;omega)] at hy
    rw [← h.1.1] at hy
    exact (h'.1.2 _ u ys hu hy).mono fun _=>.inr
end
end Go.Proofs.YtcnfionnnpnplaaGreatDoor.Mem
/- A batch with where its slices lie. -/
namespace Go.Proofs.YtcnfionnnpnplaaGreatDoor
open Go Go.RowKit Reg Mem
open List (set_cons_succ set_cons_zero setIfInBounds_toArray cons_append nil_append)
theorem own_hd {α : Type} {E : TypeId} {enc : α → List Value} {k : Nat} {v : Value} {xs : List α} {G : Nat → Prop} {w0 w : World} {L : List Asn} (i : Nat) (S : St G w0 w L) (hi : L[i]? = some (Own E enc k v xs)) (h0 : 0 < xs.length) : ∃ R c,v = .slice (some ⟨R,0,none⟩) xs.length c:=by
 obtain ⟨F1,h1,_⟩:=S.get hi
 obtain ⟨R,c,cur,e,_⟩:=h1.some (by omega)
 exact ⟨R,c,e⟩
theorem take_snoc {α : Type} {l : List α} {j : Nat} {x : α} (h : l[j]? = some x) : l.take (j + 1) = l.take j ++ [x]:=by
 rw [List.take_add_one,h];rfl
theorem sacells : ∀ e : State,e.cells.length = 4:=fun _=>rfl
theorem saone : ∀ e : State,∀ u ∈ e.cells,u.oneCell' = true:=fun _=>by simp [State.cells,Value.oneCell']
structure BatV where
 b : BatE
 ai : Option Addr
 ci : Nat
 ao : Option Addr
 co : Nat
def BatV.vi (x : BatV) : Value:=.slice x.ai x.b.ins.length x.ci
def BatV.vo (x : BatV) : Value:=.slice x.ao x.b.sent.length x.co
def BatV.cells (x : BatV) : List Value:=[.int .i64 x.b.at_,.int .i64 x.b.lp,.slice x.ai x.b.ins.length x.ci,.int .i64 x.b.thn.n0,.int .i64 x.b.thn.n1,.int .i64 x.b.thn.n2,.int .i64 x.b.thn.n3,.slice x.ao x.b.sent.length x.co]
theorem bvcells : ∀ x : BatV,x.cells.length = 8:=fun _=>rfl
theorem bvone : ∀ x : BatV,∀ u ∈ x.cells,u.oneCell' = true:=fun _=>by simp [BatV.cells,Value.oneCell']
theorem elem_Bat : Elem Tryz.prog 27 52 8 96:=⟨_,.agg #[.int .i64 0,.int .i64 0,.slice none 0 0,.int .i64 0,.int .i64 0,.int .i64 0,.int .i64 0,.slice none 0 0],Tryz.underlying27,rfl,by kernel_rfl,by kernel_rfl,by kernel_rfl,by kernel_rfl,by omega⟩
end Go.Proofs.YtcnfionnnpnplaaGreatDoor
/- Two shared lists of slices, as one. Over any program. -/
namespace Go.Proofs.YtcnfionnnpnplaaGreatDoor
open Go Go.RowKit Reg Mem
open List (set_cons_succ set_cons_zero setIfInBounds_toArray cons_append nil_append)
theorem Mem.St.mergeT {G : Nat → Prop} {w0 w : World} {L : List Asn} {A B : Asn} (S : St G w0 w (A :: B :: L)) (C : Asn) (_ : A.sh = true) (_ : B.sh = true) (hC : C.sh = true) (h : ∀ F F',A.at_ w F → B.at_ w F' → C.at_ w (fun b=>F b ∨ F' b)) : St G w0 w (C :: L):=by
 obtain ⟨Fs,hf,hd⟩:=S.ex
 have a:=hf 0 A rfl
 have b:=hf 1 B rfl
 refine ⟨S.keep,fun j=>match j with | 0=>fun x=>Fs 0 x ∨ Fs 1 x | j + 1=>Fs (j + 2),fun j D hj=>?_,fun j k D E hjk hj hk=>?_⟩
 · cases j with
   | zero=>simp at hj;subst hj;exact ⟨h _ _ a.1 b.1,fun e=>by rw [hC] at e;cases e⟩
   | succ j=>simp at hj;exact hf (j + 2) D (by simpa using hj)
 · cases k with
   | zero=>omega
   | succ k=>
     simp at hk
     cases j with
     | zero=>
       simp at hj;subst hj
       rcases hd 0 (k + 2) A E (by omega) rfl (by simpa using hk) with ⟨_,e⟩ | e
       · exact .inl ⟨hC,e⟩
       · rcases hd 1 (k + 2) B E (by omega) rfl (by simpa using hk) with ⟨_,e2⟩ | e2
         · exact .inl ⟨hC,e2⟩
         · exact .inr fun x hx hx'=>hx.elim (fun g=>e x g hx') (fun g=>e2 x g hx')
     | succ j=>simp at hj;exact hd (j + 2) (k + 2) D E (by omega) (by simpa using hj) (by simpa using hk)
theorem Mem.St.slsAppendT {G : Nat → Prop} {w0 w : World} {L : List Asn} {α : Type} {enc : α → List Value} {k : Nat} {vs vs' : List Value} {xss xss' : List (List α)} (S : St G w0 w (Sls true enc k vs xss :: Sls true enc k vs' xss' :: L)) : St G w0 w (Sls true enc k (vs ++ vs') (xss ++ xss') :: L):=
 Mem.St.mergeT S _ rfl rfl rfl fun F F' h h'=>by
  refine ⟨⟨by simp [h'.1.1,h.1.1],fun j u ys hu hy=>?_⟩,fun b hb=>hb.elim (h.2 b) (h'.2 b)⟩
  by_cases hj : j < vs.length
  · rw [List.getElem?_append_left hj] at hu
    rw [List.getElem?_append_left (by rw [← h.1.1];exact hj)] at hy
    exact (h.1.2 j u ys hu hy).mono fun _=>.inl
  · rw [List.getElem?_append_right (by omega)] at hu
    rw [List.getElem?_append_right (by have:=h.1.1;omega)] at hy
    rw [← h.1.1] at hy
    exact (h'.1.2 _ u ys hu hy).mono fun _=>.inr
end Go.Proofs.YtcnfionnnpnplaaGreatDoor
/- Many things that lie apart, as one: of which one may be lent. Over any program. -/
namespace Go.Proofs.YtcnfionnnpnplaaGreatDoor.Mem
open Go Go.RowKit Reg
open List (set_cons_succ set_cons_zero setIfInBounds_toArray cons_append nil_append)
def stars : List Asn → Asn
 | []=>pur True
 | A :: As=>sep false A (stars As)
theorem stars_sh : ∀ As : List Asn,(stars As).sh = false
 | []=>rfl
 | _ :: _=>rfl
theorem stars_part : ∀ (As : List Asn) (k : Nat) (A : Asn) (w : World) (F : Nat → Prop),(stars As).at_ w F → As[k]? = some A → ∃ Fk,A.at_ w Fk ∧ (∀ b,Fk b → F b) ∧
 ∀ w' A' (Fk' : Nat → Prop),Keep Fk w w' → A'.at_ w' Fk' → (∀ b,Fk' b → Fk b ∨ w.heap.size ≤ b) → ∃ F',(stars (As.set k A')).at_ w' F' ∧ ∀ b,F' b → F b ∨ w.heap.size ≤ b
 | [],k,A,w,F,_,hk=>by simp at hk
 | A0 :: As,0,A,w,F,h,hk=>by
   simp at hk;subst hk
   obtain ⟨F1,F2,h1,h2,hd,hF⟩:=h
   refine ⟨F1,h1,fun b hb=>(hF b).2 (.inl hb),fun w' A' Fk' hK hA' hn=>?_⟩
   have h2' : (stars As).at_ w' F2:=(stars As).loc h2 fun b hb=>hK.block b ((stars As).lt h2 b hb) (fun h=>hd b h hb)
   refine ⟨fun b=>Fk' b ∨ F2 b,⟨Fk',F2,hA',h2',fun b hb hb2=>?_,fun _=>Iff.rfl⟩,fun b hb=>?_⟩
   · rcases hn b hb with h | h
     · exact hd b h hb2
     · have:=(stars As).lt h2 b hb2;omega
   · rcases hb with hb | hb
     · rcases hn b hb with h | h
       · exact .inl ((hF b).2 (.inl h))
       · exact .inr h
     · exact .inl ((hF b).2 (.inr hb))
 | A0 :: As,k + 1,A,w,F,h,hk=>by
   obtain ⟨F1,F2,h1,h2,hd,hF⟩:=h
   obtain ⟨Fk,g1,g2,g3⟩:=stars_part As k A w F2 h2 (by simpa using hk)
   refine ⟨Fk,g1,fun b hb=>(hF b).2 (.inr (g2 b hb)),fun w' A' Fk' hK hA' hn=>?_⟩
   obtain ⟨F2',k1,k2⟩:=g3 w' A' Fk' hK hA' hn
   have h1' : A0.at_ w' F1:=A0.loc h1 fun b hb=>hK.block b (A0.lt h1 b hb) (fun h=>hd b hb (g2 b h))
   refine ⟨fun b=>F1 b ∨ F2' b,⟨F1,F2',h1',k1,fun b hb hb2=>?_,fun _=>Iff.rfl⟩,fun b hb=>?_⟩
   · rcases k2 b hb2 with h | h
     · exact hd b hb h
     · have:=A0.lt h1 b hb;omega
   · rcases hb with hb | hb
     · exact .inl ((hF b).2 (.inl hb))
     · rcases k2 b hb with h | h
       · exact .inl ((hF b).2 (.inr h))
       · exact .inr h
theorem stars_snoc : ∀ (As : List Asn) (A : Asn) (w : World) (F F' : Nat → Prop),A.at_ w F → (stars As).at_ w F' → (∀ b,F b → ¬ F' b) → (stars (As ++ [A])).at_ w (fun b=>F b ∨ F' b)
 | [],A,w,F,F',h,h',hd=>⟨F,F',h,h',hd,fun _=>Iff.rfl⟩
 | A0 :: As,A,w,F,F',h,⟨F1,F2,h1,h2,hd2,hF⟩,hd=>by
   have ih:=stars_snoc As A w F F2 h h2 (fun b hb hb2=>hd b hb ((hF b).2 (.inr hb2)))
   refine ⟨F1,fun b=>F b ∨ F2 b,h1,ih,fun b hb hb2=>?_,fun b=>?_⟩
   · rcases hb2 with h | h
     · exact hd b h ((hF b).2 (.inl hb))
     · exact hd2 b hb h
   · show (F b ∨ F' b) ↔ (F1 b ∨ (F b ∨ F2 b));rw [hF b];exact ⟨fun h=>h.elim (fun h=>.inr (.inl h)) (fun h=>h.elim .inl (fun h=>.inr (.inr h))),fun h=>h.elim (fun h=>.inr (.inl h)) (fun h=>h.elim .inl (fun h=>.inr (.inr h)))⟩
section
variable {G : Nat → Prop} {w0 w : World} {L As : List Asn} {A : Asn}
theorem St.starLend (S : St G w0 w L) (i : Nat) (hi : L[i]? = some (stars As)) (k : Nat) (hk : As[k]? = some A) :
 ∃ F,A.at_ w F ∧ ∀ w' A',A'.sh = false → St F w w' [A'] → St G w0 w' (L.set i (stars (As.set k A'))):=by
 obtain ⟨F0,h0,hb⟩:=S.stepAt hi (stars_sh As)
 obtain ⟨Fk,g1,g2,g3⟩:=stars_part As k A w F0 h0 hk
 refine ⟨Fk,g1,fun w' A' ho T=>?_⟩
 obtain ⟨Gs,hg,_⟩:=T.ex
 obtain ⟨t1,t2⟩:=hg 0 A' rfl
 obtain ⟨F',k1,k2⟩:=g3 w' A' (Gs 0) T.keep t1 (t2 ho)
 exact hb w' _ ⟨F',T.keep.mono (fun x _ h h'=>h (g2 x h')),k1,k2⟩
theorem St.starNil (S : St G w0 w L) : St G w0 w (stars [] :: L):=S.close_pur trivial
theorem St.starSnoc (S : St G w0 w (A :: stars As :: L)) (ho : A.sh = false) : St G w0 w (stars (As ++ [A]) :: L):=by
 have S1:=S.close_sep ho (stars_sh As)
 have S2:=S1.weak (i:=0) (A':=stars (As ++ [A])) rfl (fun _=>rfl) fun F h=>by
  obtain ⟨F1,F2,h1,h2,hd,hF⟩:=h
  refine ⟨fun b=>F1 b ∨ F2 b,fun b hb=>(hF b).2 hb,stars_snoc As A w F1 F2 h1 h2 hd⟩
 simpa using S2
end
section
variable {G : Nat → Prop} {w0 w w' : World} {L : List Asn} {A A' B B' : Asn} {i j : Nat}
theorem St.stepFs (S : St G w0 w L) (Fs : Nat → Nat → Prop) (hf : ∀ i A,L[i]? = some A → A.at_ w (Fs i) ∧ (A.sh = false → ∀ b,Fs i b → G b ∨ w0.heap.size ≤ b))
 (hd : ∀ i j A B,i < j → L[i]? = some A → L[j]? = some B → (A.sh = true ∧ B.sh = true) ∨ ∀ b,Fs i b → ¬ Fs j b) (hi : L[i]? = some A) (ho : A.sh = false) (w' : World) (A' : Asn) :
 (∃ F',Keep (Fs i) w w' ∧ A'.at_ w' F' ∧ ∀ b,F' b → Fs i b ∨ w.heap.size ≤ b) → St G w0 w' (L.set i A'):=by
 intro ⟨F',hK,hA',hF'⟩
 have hil:=(List.getElem?_eq_some_iff.1 hi).1
 have hnew : ∀ b,F' b → Fs i b ∨ w.heap.size ≤ b:=hF'
 have apart : ∀ j B,j ≠ i → L[j]? = some B → ∀ b,Fs j b → ¬ Fs i b:=by
  intro j B hj hB b hb hb'
  rcases Nat.lt_or_gt_of_ne hj with h | h
  · rcases hd j i B A h hB hi with ⟨_,e⟩ | e
    · rw [ho] at e;cases e
    · exact e b hb hb'
  · rcases hd i j A B h hi hB with ⟨e,_⟩ | e
    · rw [ho] at e;cases e
    · exact e b hb' hb
 refine ⟨S.keep.trans hK (fun x hx hn=>⟨hn,fun hb=>?_⟩),fun j=>if j = i then F' else Fs j,fun j B hj=>?_,fun j k B C hjk hj hk=>?_⟩
 · rcases (hf i A hi).2 ho x hb with h | h
   · exact hn h
   · omega
 · by_cases e : j = i
   · subst e
     rw [List.getElem?_set_self hil] at hj
     cases hj
     simp only [if_true]
     refine ⟨hA',fun _ b hb=>?_⟩
     rcases hnew b hb with h | h
     · exact (hf j A hi).2 ho b h
     · exact .inr (Nat.le_trans S.size h)
   · rw [List.getElem?_set_ne (Ne.symm e)] at hj
     simp only [if_neg e]
     exact ⟨B.loc (hf j B hj).1 (fun b hb=>hK.block b (B.lt (hf j B hj).1 b hb) (apart j B e hj b hb)),(hf j B hj).2⟩
 · by_cases e : j = i
   · subst e
     have e' : k ≠ j:=by omega
     rw [List.getElem?_set_ne (Ne.symm e')] at hk
     simp only [if_true,if_neg e']
     refine .inr fun b hb hb'=>?_
     rcases hnew b hb with h | h
     · exact apart k C e' hk b hb' h
     · have:=C.lt (hf k C hk).1 b hb';omega
   · rw [List.getElem?_set_ne (Ne.symm e)] at hj
     by_cases e' : k = i
     · subst e'
       simp only [if_true,if_neg e]
       refine .inr fun b hb hb'=>?_
       rcases hnew b hb' with h | h
       · exact apart j B e hj b hb h
       · have:=B.lt (hf j B hj).1 b hb;omega
     · rw [List.getElem?_set_ne (Ne.symm e')] at hk
       simp only [if_neg e,if_neg e']
       exact hd j k B C hjk hj hk
theorem St.lendR (S : St G w0 w L) (i j : Nat) (hi : L[i]? = some A) (hj : L[j]? = some B) (hij : i ≠ j) (ho : A.sh = false) (hs : B'.sh = true) (hB : ∀ F,B.at_ w F → B'.at_ w F) :
 ∃ F,St F w w [A,B'] ∧ ∀ w' A',A'.sh = false → St F w w' [A'] → St G w0 w' (L.set i A'):=by
 obtain ⟨Fs,hf,hd⟩:=S.ex
 refine ⟨Fs i,⟨Keep.refl _ _,fun k=>if k = 0 then Fs i else Fs j,fun k C hk=>?_,fun k k' C D hkk hk hk'=>?_⟩,fun w' A' ho' T=>?_⟩
 · match k,hk with
   | 0,hk=>cases hk;exact ⟨(hf i A hi).1,fun _ b hb=>.inl hb⟩
   | 1,hk=>cases hk;exact ⟨hB _ (hf j B hj).1,fun e=>by rw [hs] at e;cases e⟩
 · match k,k',hk,hk',hkk with
   | 0,1,hk,hk',_=>
     cases hk;cases hk'
     refine .inr ?_
     simp only [if_true]
     rw [if_neg (by decide)]
     rcases Nat.lt_or_gt_of_ne hij with h | h
     · rcases hd i j A B h hi hj with ⟨e,_⟩ | e
       · rw [ho] at e;cases e
       · exact e
     · rcases hd j i B A h hj hi with ⟨_,e⟩ | e
       · rw [ho] at e;cases e
       · exact fun b hb hb'=>e b hb' hb
   | k + 2,_,hk,_,_=>simp at hk
   | 0,k + 2,_,hk,_=>simp at hk
   | 1,k + 2,_,hk,_=>simp at hk
   | 1,0,_,_,h=>omega
   | 0,0,_,_,h=>omega
   | 1,1,_,_,h=>omega
 · obtain ⟨Gs,hg,_⟩:=T.ex
   obtain ⟨g1,g2⟩:=hg 0 A' rfl
   exact S.stepFs Fs hf hd hi ho w' A' ⟨Gs 0,T.keep,g1,g2 ho'⟩
theorem stars_take : ∀ (As : List Asn) (k : Nat) (A B : Asn) (w : World) (F : Nat → Prop),(stars As).at_ w F → As[k]? = some (sep false A B) → ∃ F1 F2,(stars (As.set k A)).at_ w F1 ∧ B.at_ w F2 ∧ (∀ b,F1 b → ¬ F2 b) ∧ ∀ b,F b ↔ F1 b ∨ F2 b
 | [],k,A,B,w,F,_,hk=>by simp at hk
 | A0 :: As,0,A,B,w,F,h,hk=>by
   simp at hk;subst hk
   obtain ⟨F1,F2,⟨F3,F4,h3,h4,hd3,hF3⟩,h2,hd,hF⟩:=h
   refine ⟨fun b=>F3 b ∨ F2 b,F4,⟨F3,F2,h3,h2,fun b hb hb2=>hd b ((hF3 b).2 (.inl hb)) hb2,fun _=>Iff.rfl⟩,h4,fun b hb hb4=>?_,fun b=>?_⟩
   · rcases hb with hb | hb
     · exact hd3 b hb hb4
     · exact hd b ((hF3 b).2 (.inr hb4)) hb
   · rw [hF b,hF3 b];exact ⟨fun h=>h.elim (fun h=>h.elim (fun h=>.inl (.inl h)) .inr) (fun h=>.inl (.inr h)),fun h=>h.elim (fun h=>h.elim (fun h=>.inl (.inl h)) .inr) (fun h=>.inl (.inr h))⟩
 | A0 :: As,k + 1,A,B,w,F,h,hk=>by
   obtain ⟨F1,F2,h1,h2,hd,hF⟩:=h
   obtain ⟨F5,F6,h5,h6,hd5,hF5⟩:=stars_take As k A B w F2 h2 (by simpa using hk)
   refine ⟨fun b=>F1 b ∨ F5 b,F6,⟨F1,F5,h1,h5,fun b hb hb5=>hd b hb ((hF5 b).2 (.inl hb5)),fun _=>Iff.rfl⟩,h6,fun b hb hb6=>?_,fun b=>?_⟩
   · rcases hb with hb | hb
     · exact hd b hb ((hF5 b).2 (.inr hb6))
     · exact hd5 b hb hb6
   · rw [hF b,hF5 b];exact ⟨fun h=>h.elim (fun h=>.inl (.inl h)) (fun h=>h.elim (fun h=>.inl (.inr h)) .inr),fun h=>h.elim (fun h=>h.elim .inl (fun h=>.inr (.inl h))) (fun h=>.inr (.inr h))⟩
theorem St.starTake {As : List Asn} {k : Nat} (S : St G w0 w (stars As :: L)) (hk : As[k]? = some (sep false A B)) (hB : B.sh = false) : St G w0 w (stars (As.set k A) :: B :: L):=by
 have S2:=S.weak (i:=0) (A':=sep false (stars (As.set k A)) B) rfl (fun _=>stars_sh As) fun F h=>by
  obtain ⟨F1,F2,h1,h2,h3,h4⟩:=stars_take As k A B w F h hk
  exact ⟨F,fun _ hb=>hb,F1,F2,h1,h2,h3,h4⟩
 simp only [set_cons_zero] at S2
 exact S2.open_sep (stars_sh _) hB
def rd (A : Asn) : Asn:=⟨true,A.at_,A.loc,A.lt⟩
theorem star_get {As : List Asn} {k : Nat} (h : ∃ F,(rd (stars As)).at_ w F) (hk : As[k]? = some A) : ∃ F,A.at_ w F:=by
 obtain ⟨F,h⟩:=h
 obtain ⟨Fk,g1,_⟩:=stars_part As k A w F h hk
 exact ⟨Fk,g1⟩
end
end Go.Proofs.YtcnfionnnpnplaaGreatDoor.Mem
/- Of many things that lie apart one is taken out whole, and put back. Over any program. -/
namespace Go.Proofs.YtcnfionnnpnplaaGreatDoor.Mem
open Go Go.RowKit Reg
open List (set_cons_succ set_cons_zero setIfInBounds_toArray cons_append nil_append)
theorem stars_pull : ∀ (As : List Asn) (k : Nat) (B : Asn) (w : World) (F : Nat → Prop),(stars As).at_ w F → As[k]? = some B → ∃ F1 F2,(stars (As.set k (pur True))).at_ w F1 ∧ B.at_ w F2 ∧ (∀ b,F1 b → ¬ F2 b) ∧ ∀ b,F b ↔ F1 b ∨ F2 b
 | [],k,B,w,F,_,hk=>by simp at hk
 | A0 :: As,0,B,w,F,h,hk=>by
   simp at hk;subst hk
   obtain ⟨F1,F2,h1,h2,hd,hF⟩:=h
   refine ⟨F2,F1,⟨fun _=>False,F2,⟨trivial,fun _=>id⟩,h2,fun _ h=>h.elim,fun b=>⟨.inr,fun h=>h.elim False.elim id⟩⟩,h1,fun b hb hb2=>hd b hb2 hb,fun b=>?_⟩
   rw [hF b];exact Or.comm
 | A0 :: As,k + 1,B,w,F,h,hk=>by
   obtain ⟨F1,F2,h1,h2,hd,hF⟩:=h
   obtain ⟨F5,F6,h5,h6,hd5,hF5⟩:=stars_pull As k B w F2 h2 (by simpa using hk)
   refine ⟨fun b=>F1 b ∨ F5 b,F6,⟨F1,F5,h1,h5,fun b hb hb5=>hd b hb ((hF5 b).2 (.inl hb5)),fun _=>Iff.rfl⟩,h6,fun b hb hb6=>?_,fun b=>?_⟩
   · rcases hb with hb | hb
     · exact hd b hb ((hF5 b).2 (.inr hb6))
     · exact hd5 b hb hb6
   · rw [hF b,hF5 b];exact or_assoc.symm
theorem stars_push : ∀ (As : List Asn) (k : Nat) (A B : Asn) (w : World) (F1 F2 : Nat → Prop),(stars As).at_ w F1 → B.at_ w F2 → As[k]? = some A → (∀ b,F1 b → ¬ F2 b) → ∃ F,(stars (As.set k B)).at_ w F ∧ ∀ b,F b → F1 b ∨ F2 b
 | [],k,A,B,w,F1,F2,_,_,hk,_=>by simp at hk
 | A0 :: As,0,A,B,w,F,FB,h,hB,hk,hd0=>by
   simp at hk;subst hk
   obtain ⟨F1,F2,h1,h2,hd,hF⟩:=h
   exact ⟨fun b=>FB b ∨ F2 b,⟨FB,F2,hB,h2,fun b hb hb2=>hd0 b ((hF b).2 (.inr hb2)) hb,fun _=>Iff.rfl⟩,fun b hb=>hb.elim .inr fun h=>.inl ((hF b).2 (.inr h))⟩
 | A0 :: As,k + 1,A,B,w,F,FB,h,hB,hk,hd0=>by
   obtain ⟨F1,F2,h1,h2,hd,hF⟩:=h
   obtain ⟨F5,h5,h6⟩:=stars_push As k A B w F2 FB h2 hB (by simpa using hk) (fun b hb=>hd0 b ((hF b).2 (.inr hb)))
   refine ⟨fun b=>F1 b ∨ F5 b,⟨F1,F5,h1,h5,fun b hb hb5=>?_,fun _=>Iff.rfl⟩,fun b hb=>?_⟩
   · rcases h6 b hb5 with h | h
     · exact hd b hb h
     · exact hd0 b ((hF b).2 (.inl hb)) h
   · rcases hb with h | h
     · exact .inl ((hF b).2 (.inl h))
     · rcases h6 b h with h | h
       · exact .inl ((hF b).2 (.inr h))
       · exact .inr h
section
variable {G : Nat → Prop} {w0 w : World} {L As : List Asn} {A B : Asn}
theorem St.starPull (S : St G w0 w (stars As :: L)) (k : Nat) (hk : As[k]? = some B) (hB : B.sh = false) : St G w0 w (B :: stars (As.set k (pur True)) :: L):=by
 have S2:=S.weak (i:=0) (A':=sep false (stars (As.set k (pur True))) B) rfl (fun _=>stars_sh As) fun F h=>by
  obtain ⟨F1,F2,h1,h2,h3,h4⟩:=stars_pull As k B w F h hk
  exact ⟨F,fun _ hb=>hb,F1,F2,h1,h2,h3,h4⟩
 simp only [set_cons_zero] at S2
 exact (S2.open_sep (stars_sh _) hB).swap2
theorem St.starPush (S : St G w0 w (B :: stars As :: L)) (k : Nat) (hk : As[k]? = some A) (hB : B.sh = false) : St G w0 w (stars (As.set k B) :: L):=by
 have S1:=S.swap2.close_sep (stars_sh _) hB
 have S2:=S1.weak (i:=0) (A':=stars (As.set k B)) rfl (fun _=>rfl) fun F h=>by
  obtain ⟨F1,F2,h1,h2,hd,hF⟩:=h
  obtain ⟨F',h3,h4⟩:=stars_push As k A B w F1 F2 h1 h2 hk hd
  exact ⟨F',fun b hb=>(hF b).2 (h4 b hb),h3⟩
 simpa using S2
end
end Go.Proofs.YtcnfionnnpnplaaGreatDoor.Mem
/- Lists of states; slices.Clone of them. -/
namespace Go.Proofs.YtcnfionnnpnplaaGreatDoor
open Go Go.RowKit Reg Mem
open List (set_cons_succ set_cons_zero setIfInBounds_toArray cons_append nil_append)
theorem elem_Sst : Elem Tryz.prog 64 50 4 32:=⟨_,.agg #[.int .i64 0,.int .i64 0,.int .i64 0,.int .i64 0],Tryz.underlying64,rfl,by kernel_rfl,by kernel_rfl,by kernel_rfl,by kernel_rfl,by omega⟩
theorem clone_Sst {ad : Option Addr} {n c : Nat} {xs : List _} (w : World) (F : Nat → Prop) (h : (Sl true State.cells 4 (.slice ad n c) xs).at_ w F) (hn : xs.length ≤ 4294967296) :
 Calls Tryz.prog 81 #[.slice ad n c] w fun e w'=>∃ ad' c',e = .returned (.slice ad' xs.length c') ∧ (0 < xs.length → ∃ R,ad' = some ⟨R,0,none⟩) ∧ St (fun _=>False) w w' [Own 50 State.cells 4 (.slice ad' xs.length c') xs]:=by
 have S : St (fun _=>False) w w [Sl true State.cells 4 (.slice ad n c) xs]:=(St.init _ w).share rfl rfl h
 have hq : ∀ (w : World) (a : Option Addr) (n c n' c' : Nat),(binOp .eql 64 (.slice a n c) (.slice none n' c')).run Tryz.prog w = .ok (.bool a.isNone) w:=fun w a n c n' c'=>Lib.run_eql_slice_nil w _ _ a n c n' c' Tryz.underlying64
 cases ad with
 | none=>
   have hx : xs = []:=by
    obtain ⟨a,c',e,h1,h2,_⟩:=h.1
    simp only [Value.slice.injEq] at e
    obtain ⟨rfl,rfl,rfl⟩:=e
    exact List.eq_nil_of_length_eq_zero (by have:=h2 rfl;omega)
   subst hx
   go_enter Tryz.func81,Tryz.ntmps81
   go_wp2_with first | ((with_reducible refine tot_done ?ht ?_);(case ht=>kernel_rfl))
   go_ret
   exact ⟨_,_,rfl,fun h=>absurd h (by simp),((S.nil 50 State.cells 4).pick [0] rfl)⟩
 | some a0=>
   go_enter Tryz.func81,Tryz.ntmps81
   go_wp2_with first | ((with_reducible apply wps_build0 (T:=64) (E:=50) State.cells 4 S);(case hr=>intro w;kernel_rfl);clear S;intro bz wz S) | ((with_reducible apply wps_appends elem_Sst sacells saone (by decide) S 0 (j:=1));(case hx|hy|hi|hj=>rfl);(case hl=>first | omega | (simp;omega));clear S;intro az nz cz wz hnz S;simp only [set_cons_zero] at S) | ((with_reducible refine tot_done ?ht ?_);(case ht=>kernel_rfl))
   go_ret
   obtain rfl : nz = xs.length:=by have:=hnz.out;simp at this;omega
   simp only [nil_append] at S
   refine ⟨_,_,rfl,fun h0=>?_,S.pick [0] rfl⟩
   obtain ⟨F,hF⟩:=S.get (i:=0) rfl
   rcases hF.1.2 with ⟨_,e⟩ | ⟨g,cap,cur,e,_⟩
   · omega
   · simp only [Value.slice.injEq] at e;exact ⟨g,e.1⟩
end Go.Proofs.YtcnfionnnpnplaaGreatDoor
/- A slice that is owned is cut; its last element cleared. Over any program. -/
namespace Go.Proofs.YtcnfionnnpnplaaGreatDoor.Mem
open Go Go.RowKit Reg
open List (set_cons_succ set_cons_zero setIfInBounds_toArray cons_append nil_append)
section
variable {P : Program} {ops : Array Oper} {rest : List Oper} {a : Act} {Q : Exit → Act → World → Prop} {d : Option Tmp} {tt : TypeId} {p : String} {af : Array Edge} {gd : Option (Nat × Bool)} {x y : Operand}
variable {G : Nat → Prop} {w0 w w' : World} {L : List Asn}
theorem wps_tail {T E : TypeId} {k R n c l m : Nat} {lo : Operand} (hT : P.underlying T = some (.slice E)) (hE : ∀ w,(sizeOf E).run P w = .ok k w) (hx : a.eval x = .slice (some ⟨R,0,none⟩) n c) (hlo : a.eval lo = .int .i64 l) (hm : n = l + m) (h1 : 0 < m) (h2 : n ≤ c)
 (next : wpList P ops Q rest (a.put d (.slice (some ⟨R,l * k,none⟩) m (c - l))) w) (hgd : gOk gd ops a = true:=by with_unfolding_all rfl) :
 wpList P ops Q ({ dst:=d,op:=.slice T x (some lo) none none,type:=tt,pos:=p,after:=af,guard:=gd } :: rest) a w:=
 wpList_ok hgd fun K hK=>by
  have hr:=run_sliceAt_sl (P:=P) (w:=w) hT (hE w) (some ⟨R,0,none⟩) n c l n (some (.int .i64 l)) none (.inr rfl) (.inl ⟨rfl,rfl⟩) (by omega) h2
  rw [if_neg (by omega),show n - l = m by omega] at hr
  simp only [Option.map_some,add_none,Nat.zero_add] at hr
  unfold Oper.wp execOp
  simp only [Option.map_none,Option.map_some,hx,hlo,hr,Sem.run_bind,Sem.run_pure,Result.andThen_ok]
  exact hK _ _ next
theorem wps_clear1 {α : Type} {T E : TypeId} {enc : α → List Value} {k bytes R n c c' m : Nat} {xs : List α} (el : Elem P T E k bytes) (hk : ∀ x,(enc x).length = k) (hone : ∀ x,∀ u ∈ enc x,u.oneCell' = true) (z0 : α) (hz : zeroIs P E k (enc z0)) (S : St G w0 w L) (i : Nat)
 (hi : L[i]? = some (Own E enc k (.slice (some ⟨R,0,none⟩) n c) xs)) (o : Nat) (hx : a.eval x = .slice (some ⟨R,o,none⟩) 1 c') (ho : o = m * k) (hm : xs.length = m + 1)
 (next : ∀ w',St G w0 w' (L.set i (Own E enc k (.slice (some ⟨R,0,none⟩) n c) (xs.set m z0))) → wpList P ops Q rest (a.put d (.tuple #[])) w') (hgd : gOk gd ops a = true:=by with_unfolding_all rfl) :
 wpList P ops Q ({ dst:=d,op:=.call { callee:=.builtin .clear,args:=#[x],argTypes:=#[T] },type:=tt,pos:=p,after:=af,guard:=gd } :: rest) a w:=
 wpList_ok hgd fun K hK=>by
  obtain ⟨F,hF⟩:=S.get hi
  obtain ⟨cur,hO,hn⟩:=own_at hF
  obtain ⟨ei,z,h⟩:=el
  obtain ⟨i',z',g1,g2,g3,g4,g5⟩:=hz
  have e1 : ei = i':=by have:=h.info;rw [g1] at this;exact (Option.some.inj this).symm
  subst e1
  have e2 : z = z':=by have:=h.zero;rw [g2] at this;exact (Option.some.inj this).symm
  subst e2
  have hfit:=hO.fit (i:=m) (by omega)
  obtain ⟨w',hr,hb,hKp⟩:=run_clear_one h (tt:=tt) (R:=R) (o:=o) (c:=c') (w:=w) hO.heap (by rw [ho];exact hfit) (by rw [g4];exact hone z0)
  unfold Oper.wp execOp
  simp [resolve,invoke,builtin,hx,hr,Result.andThen]
  refine hK _ _ (next _ (own_put hk S i hi (by omega) z0 hO ?_ hKp))
  rw [hb,g4,ho]
theorem wps_cutown {α : Type} {T E : TypeId} {enc : α → List Value} {k R n c u : Nat} {hi' : Operand} {xs : List α} (hk : ∀ x,(enc x).length = k) (hT : P.underlying T = some (.slice E)) (hE : ∀ w,(sizeOf E).run P w = .ok k w) (S : St G w0 w L) (i : Nat)
 (hi : L[i]? = some (Own E enc k (.slice (some ⟨R,0,none⟩) n c) xs)) (hx : a.eval x = .slice (some ⟨R,0,none⟩) n c) (hu : a.eval hi' = .int .i64 u) (h1 : u ≤ xs.length)
 (next : St G w0 w (L.set i (Own E enc k (.slice (some ⟨R,0,none⟩) u c) (xs.take u))) → wpList P ops Q rest (a.put d (.slice (some ⟨R,0,none⟩) u c)) w) (hgd : gOk gd ops a = true:=by with_unfolding_all rfl) :
 wpList P ops Q ({ dst:=d,op:=.slice T x none (some hi') none,type:=tt,pos:=p,after:=af,guard:=gd } :: rest) a w:=
 wpList_ok hgd fun K hK=>by
  obtain ⟨F0,hF0⟩:=S.get hi
  obtain ⟨cur,hO,hn⟩:=own_at hF0
  have hle:=hO.le
  have hr:=run_sliceAt_sl (P:=P) (w:=w) hT (hE w) (some ⟨R,0,none⟩) n c 0 u none (some (.int .i64 u)) (.inl ⟨rfl,rfl⟩) (.inr rfl) (Nat.zero_le _) (by omega)
  have e : (if c = 0 then (some ⟨R,0,none⟩ : Option Addr) else (some ⟨R,0,none⟩ : Option Addr).map (·.add (0 * k))) = some ⟨R,0,none⟩:=by simp [add_none]
  rw [e,Nat.sub_zero,Nat.sub_zero] at hr
  unfold Oper.wp execOp
  simp only [Option.map_none,Option.map_some,hx,hu,hr,Sem.run_bind,Sem.run_pure,Result.andThen_ok]
  refine hK _ _ (next (S.weak hi (fun _=>rfl) fun F hF=>⟨F,fun _ hb=>hb,?_,fun x=>by rw [hF.2 x];rfl⟩))
  obtain ⟨cur,hO,hn⟩:=own_at hF
  have:=(hO.cut hk u h1).own hk
  rwa [show (xs.take u).length = u by rw [List.length_take];omega] at this
end
end Go.Proofs.YtcnfionnnpnplaaGreatDoor.Mem
