import Derived.Test.YtmjljoaakdocaaaGreatDoorY03
import Derived.RangeFuncNested
import Derived.RangeFuncBound
import Derived.RangeFuncCalls
import Derived.RangeFuncLeaves
import Derived.OrdersIn
import Derived.OwnWalkIn
import Derived.TacticsInMore
import Derived.LoopNIn
import Derived.LoopIn
import Derived.Test.YtmjljoaakdocaaaGreatDoorY04
import Derived.RangeFuncSeq
import Derived.Test.YtmjljoaakdocaaaGreatDoorY12
import Derived.Test.YtmjljoaakdocaaaGreatDoorY07
import Derived.Deep.CutRange
/- Regions in a round of a range over a function (or in an iterator), walked as regions anywhere. Over any program. -/
set_option maxHeartbeats 16000000
set_option maxRecDepth 100000
namespace Go.Proofs.YtmjljoaakdocaaaGreatDoor.Mem
open Go Go.RowKit Reg
open List (set_cons_succ set_cons_zero setIfInBounds_toArray cons_append nil_append)
def Wide (F : Fence) : Prop:=F = Fence.wide ∨ ∃ r,F = Fence.wide.inRound r
theorem Wide.fn {F : Fence} (h : Wide F) (f : FuncId) : F.fn f:=by rcases h with rfl | ⟨r,rfl⟩ <;> exact trivial
theorem Wide.depth {F : Fence} (h : Wide F) : F.depth = none:=by rcases h with rfl | ⟨r,rfl⟩ <;> rfl
theorem Wide.calls {F : Fence} {n : Nat} {P : Program} {f : FuncId} {args : Array Value} {w : World} {R : Ending → World → Prop} (hF : Wide F) (h : Calls P f args w R) : CallsIn F n P f args w R:=by
 rcases hF with rfl | ⟨r,rfl⟩
 · exact callsIn_wide.2 h
 · exact CallsIn.inRound r (callsIn_wide.2 h)
theorem Wide.rows {F : Fence} {n : Nat} {P : Program} {row : String} {args : Array Value} {w : World} {R : Value → World → Prop} (hF : Wide F) (h : Rows P row args w R) : RowsIn F n P row args w R:=by
 rcases hF with rfl | ⟨r,rfl⟩
 · intro c cs _
   obtain ⟨v,w',hR,hs⟩:=h c cs
   exact ⟨v,w',hR,stepsIn_wide.2 hs⟩
 · intro c cs _
   obtain ⟨v,w',hR,hs⟩:=h c cs
   exact ⟨v,w',hR,stepsIn_wide.2 hs⟩
def Only (K : Act → World → Prop) : Exit → Act → World → Prop
 | .normal,a,w=>K a w
 | _,_,_=>False
theorem only_lets {K : Act → World → Prop} : ¬ LetsOut (Only K):=fun ⟨_,_,h⟩=>h
def noDefer (o : Oper) : Bool:=match o.op with | .defer _=>false | _=>true
section
variable {F : Fence} {n : Nat} {P : Program} {ops : Array Oper} {Q : Exit → Act → World → Prop} {md : Region.Mode} {K : Act → World → Prop}
theorem oper_in (hF : Wide F) {o : Oper} (hd : noDefer o = true) {a : Act} {w : World} {K' : Act → World → Prop} (h : o.wp P a w K' (Only K)) : o.wpIn F n P a w K' Q:=by
 refine ⟨fun f _=>hF.fn f,?_⟩
 have hs : o.semAt F.round a.eval = execOp a.eval o:=Oper.semAt_eq _ _ _ (fun c e=>by simp [noDefer,e] at hd)
 rw [hs]
 have hdp : ¬ (F.depth.isSome = true):=by rw [hF.depth];simp
 unfold Oper.wp at h
 generalize (execOp a.eval o).run P w = r at *
 cases r with
 | ok x w'=>
   cases x <;> simp only [Oper.upon,Oper.uponIn] at h ⊢ <;>
    first
     | exact h
     | exact h.elim
     | exact ⟨fun e=>(hdp e).elim,hF.calls (h.mono fun e w'' he=>by cases e <;> first | exact he | exact he.elim | exact absurd he only_lets)⟩
     | exact ⟨fun e=>(hdp e).elim,hF.rows h⟩
 | halt x w'=>cases x <;> simp only [Oper.upon,Oper.uponIn] at h ⊢ <;> exact h.elim
theorem list_in (hF : Wide F) (hQ : ∀ a w,K a w → Q .normal a w) : ∀ (l : List Oper),l.all noDefer = true → ∀ (a : Act) (w : World),wpList P ops (Only K) l a w → wpListIn F n P ops Q l a w
 | [],_,a,w,h=>hQ a w h
 | o :: rest,hd,a,w,h=>by
   simp only [List.all_cons,Bool.and_eq_true] at hd
   unfold wpListIn
   unfold wpList at h
   split
   · rename_i hw
     rw [if_pos hw] at h
     rcases h with h | ⟨_,h⟩
     · exact Oper.wpIn_mono (fun a w=>list_in hF hQ rest hd.2 a w) (oper_in hF hd.1 h)
     · exact absurd h only_lets
   · rename_i hw
     rw [if_neg hw] at h
     exact ⟨fun f _=>hF.fn f,list_in hF hQ rest hd.2 _ _ h⟩
theorem any_in (hF : Wide F) (hQ : ∀ a w,K a w → Q .normal a w) (hd : ops.all noDefer = true) : ∀ (fuel : Nat) (listed : Array Bool) (a : Act) (w : World),wpAny P md ops (Only K) fuel listed a w → wpAnyIn F n P md ops Q fuel listed a w
 | 0,_,a,w,h=>⟨h.1,hQ a w h.2⟩
 | f + 1,listed,a,w,h=>by
   refine ⟨fun e=>hQ a w (h.1 e),fun i hi=>?_⟩
   have:=h.2 i hi
   unfold wpOpIn
   unfold wpOp at this
   cases ho : ops[i]? with
   | none=>simp only [ho] at this ⊢;exact any_in hF hQ hd f _ a w this
   | some o=>
     simp only [ho] at this ⊢
     have hdo : noDefer o = true:=by
      rw [Array.all_eq_true] at hd
      obtain ⟨h1,h2⟩:=Array.getElem?_eq_some_iff.1 ho
      rw [← h2];exact hd i h1
     split
     · rename_i hw
       rw [if_pos hw] at this
       rcases this with h | ⟨_,h⟩
       · exact Oper.wpIn_mono (fun a w=>any_in hF hQ hd f _ a w) (oper_in hF hdo h)
       · exact absurd h only_lets
     · rename_i hw
       rw [if_neg hw] at this
       exact ⟨fun f _=>hF.fn f,any_in hF hQ hd f _ _ _ this⟩
theorem wpi_list {id : Nat} {l : List Oper} {a : Act} {w : World} (hF : Wide F) (hd : l.all noDefer = true) (h : wpList P l.toArray (Only (Q .normal)) l a w) : (Code.region id l.toArray false).wpIn F n P Q a w:=
 wpIn_region_lit (list_in hF (fun _ _ h=>h) l hd a w h)
theorem wpi_text {G : Nat → Prop} {w0 w : World} {L : List Asn} {id : Nat} {l : List Oper} {a : Act} (S : St G w0 w L) (hF : Wide F) (hd : l.all noDefer = true) (hm : P.follows .mixedOrders = true) (hB : textB P l.toArray = true)
 (next : ∀ w',St G w0 w' L → wpList P l.toArray (Tot (allNeeds l.toArray) (Only (Q .normal))) l a w') : (Code.region id l.toArray true).wpIn F n P Q a w:=by
 have h:=next _ (S.ext (keep_drew w))
 simp only [textB,Bool.and_eq_true] at hB
 refine wpIn_region_any hm (any_in hF (K:=Q .normal) (fun _ _ h=>h) (by simpa [Array.all_eq_true',List.all_eq_true] using hd) _ _ _ _ (any_tot _ _ _ _ (?_ : wpAny P .any l.toArray (Tot (allNeeds l.toArray) (Only (Q .normal))) _ _ _ _)))
 have hc : Closed .any l.toArray (Array.replicate l.toArray.size false):=fun j oj _ hl=>by
  rw [Array.getD_eq_getD_getElem?] at hl
  by_cases hj : j < l.toArray.size
  · rw [Array.getElem?_replicate,if_pos hj] at hl;cases hl
  · rw [Array.getElem?_replicate,if_neg hj] at hl;cases hl
 have:=any_text hB.1.1 hB.1.2 l 0 (Array.replicate l.toArray.size false) a { w with drawn:=w.drawn + 1 } (by simp) hc (by simpa using hB.2) h
 simpa using this
end
end Go.Proofs.YtmjljoaakdocaaaGreatDoor.Mem
/- A range over a function, in states: the iterator's contract, and the law for the statement. Over any program. -/
namespace Go.Proofs.YtmjljoaakdocaaaGreatDoor.Mem
open Go Go.RowKit Reg
open List (set_cons_succ set_cons_zero setIfInBounds_toArray cons_append nil_append)
def LoopA (l D : Nat) (r : Loop) : Asn where
 sh:=false
 at_:=fun w F=>w.heap[l]? = some (.loop r) ∧ w.heap[D]? = some (.deferred (some [])) ∧ l ≠ D ∧ ∀ b,F b ↔ b = l ∨ b = D
 loc:=fun h hb=>⟨(hb _ ((h.2.2.2 _).2 (.inl rfl))).trans h.1,(hb _ ((h.2.2.2 _).2 (.inr rfl))).trans h.2.1,h.2.2⟩
 lt:=fun h b hb=>by
  rcases (h.2.2.2 b).1 hb with rfl | rfl
  · exact (Array.getElem?_eq_some_iff.1 h.1).1
  · exact (Array.getElem?_eq_some_iff.1 h.2.1).1
def DefA (D : Nat) : Asn where
 sh:=false
 at_:=fun w F=>w.heap[D]? = some (.deferred (some [])) ∧ ∀ b,F b ↔ b = D
 loc:=fun h hb=>⟨(hb _ ((h.2 _).2 rfl)).trans h.1,h.2⟩
 lt:=fun h b hb=>by obtain rfl:=(h.2 b).1 hb;exact (Array.getElem?_eq_some_iff.1 h.1).1
section
variable {G : Nat → Prop} {w0 w w' : World} {L L' : List Asn} {A A' : Asn} {i : Nat}
theorem St.sub (S : St G w0 w L) (f : Nat → Nat) (hi : ∀ i j,i < L'.length → j < L'.length → f i = f j → i = j) (h : ∀ i A,L'[i]? = some A → L[f i]? = some A) : St G w0 w L':=by
 obtain ⟨Fs,hf,hd⟩:=S.ex
 refine ⟨S.keep,fun i=>Fs (f i),fun i A hA=>hf _ A (h i A hA),fun i j A B hij hA hB=>?_⟩
 have h1:=(List.getElem?_eq_some_iff.1 hA).1
 have h2:=(List.getElem?_eq_some_iff.1 hB).1
 rcases Nat.lt_or_gt_of_ne (fun e : f i = f j=>by have:=hi i j h1 h2 e;omega) with hlt | hlt
 · exact hd _ _ A B hlt (h i A hA) (h j B hB)
 · rcases hd _ _ B A hlt (h j B hB) (h i A hA) with ⟨e1,e2⟩ | e
   · exact .inl ⟨e2,e1⟩
   · exact .inr fun x hx hx'=>e x hx' hx
theorem St.rot (S : St G w0 w (A :: L)) : St G w0 w (L ++ [A]):=by
 refine S.sub (fun i=>if i < L.length then i + 1 else 0) (fun i j h1 h2 e=>?_) (fun i B h=>?_)
 · simp only [List.length_append,List.length_cons,List.length_nil] at h1 h2
   split at e <;> split at e <;> omega
 · have hl:=(List.getElem?_eq_some_iff.1 h).1
   simp only [List.length_append,List.length_cons,List.length_nil] at hl
   split
   · rename_i hlt;rw [List.getElem?_append_left hlt] at h;simpa using h
   · obtain rfl : i = L.length:=by omega
     rw [List.getElem?_append_right (Nat.le_refl _)] at h;simpa using h
theorem St.unrot (S : St G w0 w (L ++ [A])) : St G w0 w (A :: L):=by
 refine S.sub (fun i=>if i = 0 then L.length else i - 1) (fun i j h1 h2 e=>?_) (fun i B h=>?_)
 · simp only [List.length_cons] at h1 h2
   split at e <;> split at e <;> omega
 · have hl:=(List.getElem?_eq_some_iff.1 h).1
   simp only [List.length_cons] at hl
   split
   · subst i;simpa using h
   · obtain ⟨k,rfl⟩ : ∃ k,i = k + 1:=⟨i - 1,by omega⟩
     simp only [Nat.add_sub_cancel,List.getElem?_cons_succ] at h ⊢
     rw [List.getElem?_append_left (by omega)];exact h
theorem keep_putObj (w : World) (l : Nat) (o : Obj) : Keep (fun b=>b = l) w (w.putObj l o):=
 ⟨rfl,rfl,rfl,by simp,fun b _ hb=>World.putObj_heap_other hb,Nat.le_refl _⟩
theorem St.loopSet {l D : Nat} {r : Loop} (S : St G w0 w (L ++ [LoopA l D r])) (r' : Loop) : St G w0 (w.putObj l (.loop r')) (L ++ [LoopA l D r']):=by
 have S1:=S.unrot
 have S2 : St G w0 (w.putObj l (.loop r')) ((LoopA l D r :: L).set 0 (LoopA l D r')):=S1.step (i:=0) rfl rfl fun F h=>by
  have hl:=(Array.getElem?_eq_some_iff.1 h.1).1
  exact ⟨F,(keep_putObj w l _).mono (fun x _ hn e=>hn ((h.2.2.2 x).2 (.inl e))),⟨World.putObj_heap_same hl,(World.putObj_heap_other (Ne.symm h.2.2.1)).trans h.2.1,h.2.2⟩,fun _ h=>.inl h⟩
 exact St.rot S2
theorem St.loopGet {l D : Nat} {r : Loop} (S : St G w0 w (L ++ [LoopA l D r])) : w.heap[l]? = some (.loop r):=by
 obtain ⟨F,h⟩:=S.unrot.get (i:=0) rfl;exact h.1
theorem St.loopNew (S : St G w0 w L) (r : Loop) : St G w0 ((w.alloc (.deferred (some []))).alloc (.loop r)) (L ++ [LoopA (w.heap.size + 1) w.heap.size r]):=by
 refine St.rot (S.grow (F:=fun b=>b = w.heap.size + 1 ∨ b = w.heap.size) ((keep_alloc w _).trans (keep_alloc _ _) (fun _ _ h=>⟨h,h⟩)) ⟨?_,?_,by omega,fun _=>Iff.rfl⟩ (fun b hb=>by omega))
 · have:=World.alloc_heap_new (w.alloc (.deferred (some []))) (.loop r);rwa [World.size_alloc] at this
 · exact (Below.heap_alloc _ _ _ (by simp)).trans (World.alloc_heap_new w _)
theorem St.loopEnd {l D : Nat} {r : Loop} (S : St G w0 w (L ++ [LoopA l D r])) : St G w0 w (DefA D :: L):=
 S.unrot.weak (i:=0) rfl (fun _=>rfl) fun _ h=>⟨fun b=>b = D,fun b hb=>(h.2.2.2 b).2 (.inr hb),h.2.1,fun _=>Iff.rfl⟩
theorem St.taken {D : Nat} (S : St G w0 w (DefA D :: L)) : w.heap[D]? = some (.deferred (some [])) ∧ St G w0 (w.putObj D (.deferred none)) L:=by
 obtain ⟨F,h⟩:=S.get (i:=0) rfl
 refine ⟨h.1,?_⟩
 have S2 : St G w0 (w.putObj D (.deferred none)) ((DefA D :: L).set 0 (pur True)):=S.step (i:=0) rfl rfl fun _ h=>
  ⟨fun _=>False,(keep_putObj w D _).mono (fun x _ hn e=>hn ((h.2 x).2 e)),⟨trivial,fun _ h=>h⟩,fun _ h=>h.elim⟩
 exact St.tail S2
end
def IterC (P : Program) (gf : FuncId) (lb : Array Value) (T : List Asn) {α : Type} (xs : List α) (Made : α → Array Value → List Asn → Prop) : Prop:=
 ∀ (l : Nat) (G : Nat → Prop) (w0 W : World) (Φ Ψ : Nat → List Asn → Prop) (L : List Asn),
  (∀ (j : Nat) (x : α) (args : Array Value) (N L : List Asn) (W : World),xs[j]? = some x → Made x args N → Φ j L → St G w0 W (N ++ (T ++ L)) →
    YieldAt Fence.wide 0 P l args W fun e W'=>∃ L',St G w0 W' (T ++ L') ∧ ((e = .returned (.bool true) ∧ Φ (j + 1) L') ∨ (e = .returned (.bool false) ∧ Ψ (j + 1) L'))) →
  Φ 0 L → St G w0 W (T ++ L) →
  Calls P gf (#[.func (.yield l) #[] #[]] ++ lb) W fun e W'=>(∃ v,e = .returned v) ∧ ∃ L',St G w0 W' (T ++ L') ∧ (Φ xs.length L' ∨ ∃ j,j ≤ xs.length ∧ Ψ j L')
def roundQ (G : Nat → Prop) (w0 : World) (T : List Asn) (X : Asn) (Φ : List Asn → Prop) (Ψ : Code → List Asn → Prop) : Exit → Act → World → Prop
 | .normal,_,W=>∃ L,Φ L ∧ St G w0 W (T ++ (L ++ [X]))
 | .ret,_,W=>∃ L,Ψ .ret L ∧ St G w0 W (T ++ (L ++ [X]))
 | .exit id,_,W=>∃ L,Ψ (.exit id) L ∧ St G w0 W (T ++ (L ++ [X]))
 | .goto t,_,W=>∃ L,Ψ (.goto t) L ∧ St G w0 W (T ++ (L ++ [X]))
 | .panic _,_,_=>False
 | .outgrown,_,_=>False
section
variable {P : Program} {G : Nat → Prop} {w0 w : World} {L T : List Asn} {gf : FuncId} {lb : Array Value} {α : Type} {xs : List α} {Made : α → Array Value → List Asn → Prop}
 {g : Operand} {ps : Array Tmp} {assign body : Code} {Q : Exit → Act → World → Prop} {a : Act}
theorem wps_range (hI : IterC P gf lb T xs Made) (S : St G w0 w (T ++ L)) (hg : a.eval g = .func (.func gf) #[] lb) (eg : ∀ args w,(callFunc gf args).run P w = .ok (.enter gf args) w)
 (Φ : Nat → List Asn → Prop) (Ψ : Code → Nat → List Asn → Prop) (h0 : Φ 0 L) (hps : ∀ x args N,Made x args N → args.size = ps.size)
 (hround : ∀ (l D : Nat) (r : Loop) (j : Nat) (x : α) (args : Array Value) (N L : List Asn) (W : World),xs[j]? = some x → Made x args N → Φ j L → St G w0 W (N ++ (T ++ (L ++ [LoopA l D r]))) →
   assign.wpIn (Fence.wide.inRound l) 0 P (Exit.then (fun a₁ W₁=>∃ M,St G w0 W₁ (M ++ [LoopA l D r]) ∧
    ∀ (r' : Loop) (W₂ : World),St G w0 W₂ (M ++ [LoopA l D r']) → body.wpIn (Fence.wide.inRound l) 0 P (roundQ G w0 T (LoopA l D r') (Φ (j + 1)) (fun c=>Ψ c (j + 1))) a₁ W₂) (fun _ _ _=>False))
    { tmps:=(ps.zip args).foldl (fun t (p,v)=>t.setIfInBounds p v) a.tmps,defers:=[] } W)
 (hdone : ∀ (D : Nat) (W : World) (L : List Asn),Φ xs.length L → St G w0 W (DefA D :: (T ++ L)) → Q .normal { a with defers:={ target:=.collected D,args:=#[] } :: a.defers } W)
 (hstop : ∀ (D : Nat) (c : Code) (j : Nat) (W : World) (L : List Asn),j ≤ xs.length → Ψ c j L → St G w0 W (DefA D :: (T ++ L)) → c.wp P Q { a with defers:={ target:=.collected D,args:=#[] } :: a.defers } W) :
 (Code.rangeFunc g ps assign body).wp P Q a w:=by
 refine (wpIn_wide (n:=0)).1 (wpIn_rangeFunc fun fn _=>?_)
 obtain ⟨rec,hrec⟩ : ∃ rec : LoopState → Option Code → Loop,rec = fun st pe=>{ state:=st,pending:=pe,fn,tmps:=a.tmps,params:=ps,assign,body,defers:=w.heap.size }:=⟨_,rfl⟩
 have S1:=S.loopNew (rec .ready none)
 obtain ⟨l,D,hl,hD⟩ : ∃ l D,l = w.heap.size + 1 ∧ D = w.heap.size:=⟨_,_,rfl,rfl⟩
 obtain ⟨W1,hW1⟩ : ∃ W1,(w.alloc (.deferred (some []))).alloc (.loop (rec .ready none)) = W1:=⟨_,rfl⟩
 rw [hW1,← hl,← hD] at S1
 refine ⟨l,[{ target:=.collected D,args:=#[] }],W1,{ target:=.fn (.func gf) lb,args:=#[.func (.yield l) #[] #[]] },W1,gf,#[.func (.yield l) #[] #[]] ++ lb,W1,?_,?_,fun _ _=>trivial,?_,fun e=>by simp [Fence.wide] at e,?_⟩
 · rw [← hW1,hrec,hl,hD];exact run_enterLoop_outer _ _ _ _ _
 · simp only [resolve,hg];simp [go_sem]
 · simp [invoke,go_sem,eg]
 refine callsIn_wide.2 ((hI l G w0 W1 (fun j M=>∃ L,M = L ++ [LoopA l D (rec .ready none)] ∧ Φ j L) (fun j M=>∃ c L,M = L ++ [LoopA l D (rec .done (some c))] ∧ Ψ c j L) (L ++ [LoopA l D (rec .ready none)]) ?_ ⟨L,rfl,h0⟩ (by rw [← List.append_assoc];exact S1)).mono ?_)
 · rintro j x args N _ W hx hm ⟨L,rfl,hp⟩ S
   have e1 : ∀ r,N ++ (T ++ (L ++ [LoopA l D r])) = (N ++ (T ++ L)) ++ [LoopA l D r]:=fun r=>by simp
   have hy:=run_yield (P:=P) (args:=args) (St.loopGet (by rw [← e1];exact S)) (by rw [hrec];exact hps x args N hm)
   refine ⟨_,_,_,_,hy,roundIn_of_wpIn trivial ?_⟩
   rw [hrec]
   refine wpIn_mono (hround l D _ j x args N L W hx hm hp S) ?_
   rintro e a1 W2 hq
   cases e with
   | normal=>
     obtain ⟨M,S2,hb⟩:=hq
     refine ⟨_,run_beginRound S2.loopGet (by rw [hrec]),?_⟩
     have S3:=S2.loopSet { rec .ready none with state:=.busy }
     refine wpIn_mono (hb _ _ S3) ?_
     have e2 : ∀ (L : List Asn) r,T ++ (L ++ [LoopA l D r]) = (T ++ L) ++ [LoopA l D r]:=fun L r=>by simp
     have fin : ∀ (jump : Option Code) (L : List Asn) (W3 : World),St G w0 W3 (T ++ (L ++ [LoopA l D { rec .ready none with state:=.busy }])) →
      (Instr.endRound l jump).run P W3 = .ok (.bool jump.isNone) (W3.putObj l (.loop (rec (if jump.isNone then .ready else .done) jump))) ∧ St G w0 (W3.putObj l (.loop (rec (if jump.isNone then .ready else .done) jump))) (T ++ (L ++ [LoopA l D (rec (if jump.isNone then .ready else .done) jump)])):=by
      intro jump L W3 S4
      rw [e2] at S4
      refine ⟨?_,by rw [e2];exact S4.loopSet _⟩
      have:=run_endRound (P:=P) jump S4.loopGet
      rw [hrec] at this ⊢
      exact this
     rintro e a3 W3 hp3
     cases e with
     | normal=>
       obtain ⟨L3,hp3,S4⟩:=hp3
       obtain ⟨hr,S5⟩:=fin none L3 W3 S4
       exact ⟨_,_,hr,_,S5,.inl ⟨rfl,L3,by rw [hrec];rfl,hp3⟩⟩
     | ret=>
       obtain ⟨L3,hp3,S4⟩:=hp3
       obtain ⟨hr,S5⟩:=fin (some .ret) L3 W3 S4
       exact ⟨_,_,hr,_,S5,.inr ⟨rfl,.ret,L3,by rw [hrec];rfl,hp3⟩⟩
     | exit id=>
       obtain ⟨L3,hp3,S4⟩:=hp3
       obtain ⟨hr,S5⟩:=fin (some (.exit id)) L3 W3 S4
       exact ⟨_,_,hr,_,S5,.inr ⟨rfl,.exit id,L3,by rw [hrec];rfl,hp3⟩⟩
     | goto t=>
       obtain ⟨L3,hp3,S4⟩:=hp3
       obtain ⟨hr,S5⟩:=fin (some (.goto t)) L3 W3 S4
       exact ⟨_,_,hr,_,S5,.inr ⟨rfl,.goto t,L3,by rw [hrec];rfl,hp3⟩⟩
     | panic ch=>exact hp3.elim
     | outgrown=>exact hp3.elim
   | exit id=>exact hq.elim
   | goto t=>exact hq.elim
   | ret=>exact hq.elim
   | panic ch=>exact hq.elim
   | outgrown=>exact hq.elim
 · rintro e W2 ⟨⟨v,rfl⟩,M,S2,⟨L2,rfl,hp⟩ | ⟨j,hj,c,L2,rfl,hp⟩⟩
   · rw [← List.append_assoc] at S2
     exact ⟨none,_,by have:=run_endLoop (P:=P) S2.loopGet (by rw [hrec];simp);rw [hrec] at this;exact this,hdone D _ L2 hp (S2.loopSet _).loopEnd⟩
   · rw [← List.append_assoc] at S2
     exact ⟨some c,_,by have:=run_endLoop (P:=P) S2.loopGet (by rw [hrec];simp);rw [hrec] at this;exact this,(wpIn_wide (n:=0)).2 (hstop D c j _ L2 hj hp (S2.loopSet _).loopEnd)⟩
theorem calls_marks {f : FuncId} {fn : Func} {c : Code} {args : Array Value} {w : World} {R : Ending → World → Prop} (hf : P.funcs[f]? = some fn) (hb : fn.body = some c)
 (h : c.wp P (bodyPostM Fence.wide 0 P fn R) { tmps:=args ++ Array.replicate (fn.ntmps - args.size) undef,defers:=[] } w) : Calls P f args w R:=
 callsIn_wide.1 (callsIn_of_wp_marks (n:=0) hf hb trivial ((wpIn_wide (n:=0)).2 h))
end
end Go.Proofs.YtmjljoaakdocaaaGreatDoor.Mem
/- A region in the text's order that calls yield. Over any program. -/
namespace Go.Proofs.YtmjljoaakdocaaaGreatDoor.Mem
open Go Go.RowKit Reg
open List (set_cons_succ set_cons_zero setIfInBounds_toArray cons_append nil_append)
section
variable {P : Program} {ops : Array Oper} {Q : Exit → Act → World → Prop} {K : Act → World → Prop}
theorem list_in_tail {F : Fence} {n : Nat} (hF : Wide F) {tl : List Oper} (hQ : ∀ a w,K a w → wpListIn F n P ops Q tl a w) : ∀ (l : List Oper),l.all noDefer = true → ∀ (a : Act) (w : World),wpList P ops (Only K) l a w → wpListIn F n P ops Q (l ++ tl) a w
 | [],_,a,w,h=>hQ a w h
 | o :: rest,hd,a,w,h=>by
   simp only [List.all_cons,Bool.and_eq_true] at hd
   rw [cons_append]
   unfold wpListIn
   unfold wpList at h
   split
   · rename_i hw
     rw [if_pos hw] at h
     rcases h with h | ⟨_,h⟩
     · exact Oper.wpIn_mono (fun a w=>list_in_tail hF hQ rest hd.2 a w) (oper_in hF hd.1 h)
     · exact absurd h only_lets
   · rename_i hw
     rw [if_neg hw] at h
     exact ⟨fun f _=>hF.fn f,list_in_tail hF hQ rest hd.2 _ _ h⟩
theorem wp_region_yl {id : Nat} {l : List Oper} {a : Act} {w : World} (y : Nat) {pre tl : List Oper} (h1 : l.take y = pre) (h2 : l.drop y = tl) (hd : pre.all noDefer = true)
 (h : ∀ K : Act → World → Prop,(∀ a w,wpListIn Fence.wide 0 P l.toArray Q tl a w → K a w) → wpList P l.toArray (Only K) pre a w) : (Code.region id l.toArray false).wp P Q a w:=by
 refine (wpIn_wide (n:=0)).1 (wpIn_region_lit ?_)
 have:=list_in_tail (F:=Fence.wide) (n:=0) (Q:=Q) (.inl rfl) (fun _ _ h=>h) pre hd a w (h _ fun _ _ h=>h)
 rw [← h1,← h2,List.take_append_drop] at this
 exact this
theorem yield_in {l : Nat} {o : Oper} {tl : List Oper} {x : Operand} {ars : Array Operand} {ts : Array TypeId} {d : Option Tmp} {argl : List Value} {a : Act} {w : World} {R : Ending → World → Prop}
 (ho : o.op = .call { callee:=.value x,args:=ars,argTypes:=ts }) (hdst : o.dst = d) (hg : o.guard = none) (hx : a.eval x = .func (.yield l) #[] #[]) (has : ars.toList.map a.eval = argl) (hY : YieldAt Fence.wide 0 P l argl.toArray w R)
 (hR : ∀ e w',R e w' → ∃ v,e = .returned v ∧ wpListIn Fence.wide 0 P ops Q tl (a.put d v) w') : wpListIn Fence.wide 0 P ops Q (o :: tl) a w:=by
 have has2 : ars.map a.eval = argl.toArray:=by rw [← Array.toList_inj];simpa using has
 obtain ⟨fn,tmps,assign,body,hy,hround⟩:=hY
 unfold wpListIn
 have hw : Region.wanted o (yielded ops a.tmps) = true:=by unfold Region.wanted;rw [hg]
 rw [if_pos hw]
 refine ⟨fun _ _=>trivial,?_⟩
 have hs : o.semAt Fence.wide.round a.eval = execOp a.eval o:=Oper.semAt_eq _ _ _ (fun c e=>by rw [ho] at e;cases e)
 rw [hs]
 have hrun : (execOp a.eval o).run P w = .ok (.round l fn tmps assign body) w:=by
  obtain ⟨dst,op,type,pos,af,guard⟩:=o
  simp only at ho
  subst ho
  simp only [execOp,resolve,hx,has2]
  simp [go_sem,invoke,hy]
 rw [hrun,Oper.uponIn_round]
 refine ⟨fun e=>by simp [Fence.wide] at e,hround.mono fun e w' he=>?_⟩
 obtain ⟨v,rfl,hk⟩:=hR e w' he
 rw [hdst]
 exact hk
theorem list_only {l : List Oper} {a : Act} {w : World} (hd : l.all noDefer = true) (h : ∀ K : Act → World → Prop,(∀ a w,Q .normal a w → K a w) → wpList P ops (Only K) l a w) : wpListIn Fence.wide 0 P ops Q l a w:=
 list_in (.inl rfl) (fun _ _ h=>h) l hd a w (h _ fun _ _ h=>h)
end
end Go.Proofs.YtmjljoaakdocaaaGreatDoor.Mem
/- A range over a function that goes through a map's keys, in an order that nobody knows ahead. Over any program. -/
namespace Go.Proofs.YtmjljoaakdocaaaGreatDoor.Mem
open Go Go.RowKit Reg
open List (set_cons_succ set_cons_zero setIfInBounds_toArray cons_append nil_append)
section
variable {G : Nat → Prop} {w0 w : World} {L : List Asn} {A B : Asn}
theorem St.swapLast (S : St G w0 w (L ++ [A,B])) : St G w0 w (L ++ [B,A]):=by
 refine S.sub (fun i=>if i = L.length then L.length + 1 else if i = L.length + 1 then L.length else i) (fun i j h1 h2 e=>?_) (fun i C h=>?_)
 · simp only [List.length_append,List.length_cons,List.length_nil] at h1 h2
   by_cases a1 : i = L.length <;> by_cases a2 : i = L.length + 1 <;> by_cases b1 : j = L.length <;> by_cases b2 : j = L.length + 1 <;> simp [a1,a2,b1,b2] at e <;> omega
 · have hl:=(List.getElem?_eq_some_iff.1 h).1
   simp only [List.length_append,List.length_cons,List.length_nil] at hl
   split
   · subst i;rw [List.getElem?_append_right (by omega)] at h ⊢;simp at h;subst h;simp
   · split
     · subst i;rw [List.getElem?_append_right (by omega)] at h ⊢;simp at h;subst h;simp
     · rw [List.getElem?_append_left (by omega)] at h ⊢;exact h
end
def IterK (P : Program) (gf : FuncId) (lb : Array Value) (T : List Asn) {κ : Type} (ks : List κ) (Made : κ → Array Value → Prop) : Prop:=
 ∀ (l : Nat) (G : Nat → Prop) (w0 W : World) (Φ : List κ → List Asn → Prop) (L : List Asn),
  (∀ (pre : List κ) (x : κ) (args : Array Value) (L : List Asn) (A : Asn) (W : World),(∃ rest,(pre ++ x :: rest).Perm ks) → Made x args → A.sh = false → Φ pre L → St G w0 W (T ++ (L ++ [A])) →
    YieldAt Fence.wide 0 P l args W fun e W'=>∃ L',St G w0 W' (T ++ (L' ++ [A])) ∧ e = .returned (.bool true) ∧ Φ (pre ++ [x]) L') →
  Φ [] L → St G w0 W (T ++ L) →
  Calls P gf (#[.func (.yield l) #[] #[]] ++ lb) W fun e W'=>(∃ v,e = .returned v) ∧ ∃ L' all,all.Perm ks ∧ St G w0 W' (T ++ L') ∧ Φ all L'
def roundK (G : Nat → Prop) (w0 : World) (T : List Asn) (A X : Asn) (Φ : List Asn → Prop) : Exit → Act → World → Prop
 | .normal,_,W=>∃ L,Φ L ∧ St G w0 W (T ++ (L ++ [A,X]))
 | _,_,_=>False
section
variable {P : Program} {G : Nat → Prop} {w0 w : World} {L T : List Asn} {gf : FuncId} {lb : Array Value} {κ : Type} {ks : List κ} {Made : κ → Array Value → Prop}
 {g : Operand} {ps : Array Tmp} {assign body : Code} {Q : Exit → Act → World → Prop} {a : Act}
theorem wps_rangeK (hI : IterK P gf lb T ks Made) (S : St G w0 w (T ++ L)) (hg : a.eval g = .func (.func gf) #[] lb) (eg : ∀ args w,(callFunc gf args).run P w = .ok (.enter gf args) w)
 (Φ : List κ → List Asn → Prop) (h0 : Φ [] L) (hps : ∀ x args,Made x args → args.size = ps.size)
 (hround : ∀ (l D : Nat) (r : Loop) (pre : List κ) (x : κ) (args : Array Value) (L : List Asn) (A : Asn) (W : World),(∃ rest,(pre ++ x :: rest).Perm ks) → Made x args → A.sh = false → Φ pre L → St G w0 W (T ++ (L ++ [A,LoopA l D r])) →
   assign.wpIn (Fence.wide.inRound l) 0 P (Exit.then (fun a₁ W₁=>∃ M,St G w0 W₁ (M ++ [LoopA l D r]) ∧
    ∀ (r' : Loop) (W₂ : World),St G w0 W₂ (M ++ [LoopA l D r']) → body.wpIn (Fence.wide.inRound l) 0 P (roundK G w0 T A (LoopA l D r') (Φ (pre ++ [x]))) a₁ W₂) (fun _ _ _=>False))
    { tmps:=(ps.zip args).foldl (fun t (p,v)=>t.setIfInBounds p v) a.tmps,defers:=[] } W)
 (hdone : ∀ (D : Nat) (W : World) (L : List Asn) (all : List κ),all.Perm ks → Φ all L → St G w0 W (DefA D :: (T ++ L)) → Q .normal { a with defers:={ target:=.collected D,args:=#[] } :: a.defers } W) :
 (Code.rangeFunc g ps assign body).wp P Q a w:=by
 refine (wpIn_wide (n:=0)).1 (wpIn_rangeFunc fun fn _=>?_)
 obtain ⟨rec,hrec⟩ : ∃ rec : LoopState → Option Code → Loop,rec = fun st pe=>{ state:=st,pending:=pe,fn,tmps:=a.tmps,params:=ps,assign,body,defers:=w.heap.size }:=⟨_,rfl⟩
 have S1:=S.loopNew (rec .ready none)
 obtain ⟨l,D,hl,hD⟩ : ∃ l D,l = w.heap.size + 1 ∧ D = w.heap.size:=⟨_,_,rfl,rfl⟩
 obtain ⟨W1,hW1⟩ : ∃ W1,(w.alloc (.deferred (some []))).alloc (.loop (rec .ready none)) = W1:=⟨_,rfl⟩
 rw [hW1,← hl,← hD] at S1
 refine ⟨l,[{ target:=.collected D,args:=#[] }],W1,{ target:=.fn (.func gf) lb,args:=#[.func (.yield l) #[] #[]] },W1,gf,#[.func (.yield l) #[] #[]] ++ lb,W1,?_,?_,fun _ _=>trivial,?_,fun e=>by simp [Fence.wide] at e,?_⟩
 · rw [← hW1,hrec,hl,hD];exact run_enterLoop_outer _ _ _ _ _
 · simp only [resolve,hg];simp [go_sem]
 · simp [invoke,go_sem,eg]
 refine callsIn_wide.2 ((hI l G w0 W1 (fun pre M=>∃ L,M = L ++ [LoopA l D (rec .ready none)] ∧ Φ pre L) (L ++ [LoopA l D (rec .ready none)]) ?_ ⟨L,rfl,h0⟩ (by rw [← List.append_assoc];exact S1)).mono ?_)
 · rintro pre x args _ A W hx hm hA ⟨L,rfl,hp⟩ S
   have e0 : ∀ r,T ++ (L ++ [LoopA l D r] ++ [A]) = (T ++ L) ++ [LoopA l D r,A]:=fun r=>by simp
   have e1 : ∀ r,(T ++ L) ++ [A,LoopA l D r] = (T ++ L ++ [A]) ++ [LoopA l D r]:=fun r=>by simp
   rw [e0] at S
   have S0:=S.swapLast
   have hy:=run_yield (P:=P) (args:=args) (St.loopGet (by rw [← e1];exact S0)) (by rw [hrec];exact hps x args hm)
   refine ⟨_,_,_,_,hy,roundIn_of_wpIn trivial ?_⟩
   rw [hrec]
   refine wpIn_mono (hround l D _ pre x args L A W hx hm hA hp (by rw [← List.append_assoc];exact S0)) ?_
   rintro e a1 W2 hq
   cases e with
   | normal=>
     obtain ⟨M,S2,hb⟩:=hq
     refine ⟨_,run_beginRound S2.loopGet (by rw [hrec]),?_⟩
     have S3:=S2.loopSet { rec .ready none with state:=.busy }
     refine wpIn_mono (hb _ _ S3) ?_
     rintro e a3 W3 hp3
     cases e with
     | normal=>
       obtain ⟨L3,hp3,S4⟩:=hp3
       have e2 : ∀ r,T ++ (L3 ++ [A,LoopA l D r]) = (T ++ L3 ++ [A]) ++ [LoopA l D r]:=fun r=>by simp
       rw [e2] at S4
       have hr:=run_endRound (P:=P) none S4.loopGet
       have S5:=S4.loopSet (rec .ready none)
       rw [hrec] at hr
       rw [← e2] at S5
       have e3 : T ++ (L3 ++ [A,LoopA l D (rec .ready none)]) = (T ++ L3) ++ [A,LoopA l D (rec .ready none)]:=by simp
       rw [e3] at S5
       have S6:=S5.swapLast
       refine ⟨_,_,hr,L3 ++ [LoopA l D (rec .ready none)],?_,rfl,L3,by rw [hrec],hp3⟩
       have e4 : T ++ (L3 ++ [LoopA l D (rec .ready none)] ++ [A]) = (T ++ L3) ++ [LoopA l D (rec .ready none),A]:=by simp
       rw [e4]
       rw [hrec] at S6 ⊢
       exact S6
     | ret=>exact hp3.elim
     | exit id=>exact hp3.elim
     | goto t=>exact hp3.elim
     | panic ch=>exact hp3.elim
     | outgrown=>exact hp3.elim
   | exit id=>exact hq.elim
   | goto t=>exact hq.elim
   | ret=>exact hq.elim
   | panic ch=>exact hq.elim
   | outgrown=>exact hq.elim
 · rintro e W2 ⟨⟨v,rfl⟩,M,all,hall,S2,L2,rfl,hp⟩
   rw [← List.append_assoc] at S2
   exact ⟨none,_,by have:=run_endLoop (P:=P) S2.loopGet (by rw [hrec];simp);rw [hrec] at this;exact this,hdone D _ L2 all hall hp (S2.loopSet _).loopEnd⟩
end
end Go.Proofs.YtmjljoaakdocaaaGreatDoor.Mem
/- What a function whose body holds a range over a function wants beside the law. Over any program. -/
namespace Go.Proofs.YtmjljoaakdocaaaGreatDoor
open Go Go.RowKit Reg Mem
open List (set_cons_succ set_cons_zero setIfInBounds_toArray cons_append nil_append)
section
variable {P : Program} {fn : Func} {R : Ending → World → Prop} {G : Nat → Prop} {w0 w : World} {L : List Asn} {a : Act} {tmps : Array Value} {r1 : ResultVar} {v1 : Value}
theorem results1 (h : fn.results = #[r1]) (h1 : ResV P w tmps r1 v1) : (results fn tmps).run P w = .ok v1 w:=by
 cases r1 <;> simp only [ResV,Array.getD_eq_getD_getElem?] at h1
 · simp [results,h,h1]
 · obtain ⟨b1,p1,l1⟩:=h1;simp [results,h,p1,asAddr,l1]
theorem leaves_ret {v : Value} (hd : a.defers = []) (hr : (results fn a.tmps).run P w = .ok v w) (hR : R (.returned v) w) : bodyPostM Fence.wide 0 P fn R .ret a w:=by
 show LeavesInM _ _ _ _ _ _ a.defers _ _
 rw [hd]
 exact ⟨v,hr,hR⟩
theorem leaves_ret1 {D : Nat} (S : St G w0 w (DefA D :: L)) (hd : a.defers = [{ target:=.collected D,args:=#[] }]) (h : ∀ w',St G w0 w' L → ∃ v,(results fn a.tmps).run P w' = .ok v w' ∧ R (.returned v) w') : bodyPostM Fence.wide 0 P fn R .ret a w:=by
 show LeavesInM _ _ _ _ _ _ a.defers _ _
 rw [hd]
 exact ⟨by simp,.inl ⟨D,_,rfl,run_takeDeferred S.taken.1,h _ S.taken.2⟩⟩
end
theorem calls_enter {P : Program} {f : FuncId} {fn : Func} {c : Code} (hf : P.funcs[f]? = some fn) (hname : (fn.name == "runtime.NumGoroutine") = false) (hb : fn.body = some c) (args : Array Value) (w : World) : (callFunc f args).run P w = .ok (.enter f args) w := by
 have h1 : fn.name ≠ "runtime.NumGoroutine" := by simpa using hname
 simp [callFunc,hf,h1,hb]
theorem Mem.St.lastSplit {G : Nat → Prop} {w0 w : World} {L : List Asn} {X : Asn} (S : St G w0 w L) (h : L.getLast? = some X) : St G w0 w (L.dropLast ++ [X]):=by
 obtain ⟨ys,rfl⟩:=List.getLast?_eq_some_iff.1 h
 simpa using S
theorem wpi_list_k {F : Fence} {n : Nat} {P : Program} {Q : Exit → Act → World → Prop} {id : Nat} {l : List Oper} {a : Act} {w : World} (hF : Mem.Wide F) (hd : l.all noDefer = true)
 (h : ∀ K : Act → World → Prop,(∀ a w,Q .normal a w → K a w) → wpList P l.toArray (Only K) l a w) : (Code.region id l.toArray false).wpIn F n P Q a w:=wpi_list hF hd (h _ fun _ _ h=>h)
theorem wpi_text_k {F : Fence} {n : Nat} {P : Program} {Q : Exit → Act → World → Prop} {G : Nat → Prop} {w0 w : World} {L : List Asn} {id : Nat} {l : List Oper} {a : Act} (S : St G w0 w L) (hF : Mem.Wide F) (hd : l.all noDefer = true) (hm : P.follows .mixedOrders = true) (hB : textB P l.toArray = true)
 (h : ∀ K : Act → World → Prop,(∀ a w,Q .normal a w → K a w) → ∀ w',St G w0 w' L → wpList P l.toArray (Tot (allNeeds l.toArray) (Only K)) l a w') : (Code.region id l.toArray true).wpIn F n P Q a w:=wpi_text S hF hd hm hB (h _ fun _ _ h=>h)
theorem wpi_at {F : Fence} {n : Nat} {P : Program} {ops : Array Oper} {Q : Exit → Act → World → Prop} {l : List Oper} {a : Act} {w : World} (hF : Mem.Wide F) (hd : l.all noDefer = true)
 (h : ∀ K : Act → World → Prop,(∀ a w,Q .normal a w → K a w) → wpList P ops (Only K) l a w) : wpListIn F n P ops Q l a w:=list_in hF (fun _ _ h=>h) l hd a w (h _ fun _ _ h=>h)
def shr (A : Asn) : Asn where
 sh:=true
 at_:=A.at_
 loc:=A.loc
 lt:=A.lt
end Go.Proofs.YtmjljoaakdocaaaGreatDoor
/- The walks of maps.Keys and its iterator, of slices.AppendSeq and Collect: a map's keys, in some order. -/
namespace Go.Proofs.YtmjljoaakdocaaaGreatDoor
open Go Go.RowKit Reg Mem
open List (set_cons_succ set_cons_zero setIfInBounds_toArray cons_append nil_append)
def keyedI : Keyed Tryz.prog 3 intE:=
 ⟨[.int .i64],by kernel_rfl,fun _=>rfl,fun a b=>by
   simp only [intE,ceqs,ceq,Bool.and_true]
   rw [Bool.eq_iff_iff];simp⟩
theorem wholeI (k : Int) : whole Tryz.prog 3 (intE k) = .int .i64 k:=by kernel_rfl
theorem mkeys_calls (M : Nat) (w : World) : Calls Tryz.prog 99 #[.map (some M)] w fun e w'=>∃ b,e = .returned (.func (.func 146) #[] #[.pointer (some ⟨b,0,none⟩)]) ∧ St (fun _=>False) w w' [Blk false b #[.map (some M)] 133]:=by
 have S:=St.init (fun _=>False) w
 go_enter Tryz.func99,Tryz.ntmps99
 go_wp2_with first | ((with_reducible apply wps_box1 (v:=.map _) S);(case hx|h1=>rfl);clear S;intro bz wz S)
 go_ret
 exact ⟨_,rfl,S⟩
theorem tells_keys {es : Array MapEntry} {clock : Nat} {l : List (Int × Value)} (ht : Tells Tryz.prog 3 intE es clock l) : es.toList.map (·.key) = (l.map (·.1)).map fun k=>Value.int .i64 k:=by
 apply List.ext_getElem?
 intro i
 have:=congrArg (fun q=>q[i]?) ht.same
 simp only [List.getElem?_map] at this ⊢
 cases he : es.toList[i]? with
 | none=>
   rw [he] at this
   cases hl : l[i]? with
   | none=>rfl
   | some p=>rw [hl] at this;simp at this
 | some e=>
   rw [he] at this
   cases hl : l[i]? with
   | none=>rw [hl] at this;simp at this
   | some p=>
     rw [hl] at this
     simp only [Option.map_some,Option.some.injEq,Prod.mk.injEq] at this ⊢
     rw [this.1,wholeI]
def leftE (r n : Nat) (w : World) : Nat:=match w.heap[r]? with | some (.mapIter _ _ seen _)=>n - seen.size | _=>0
structure Came (es : Array MapEntry) (l : List (Int × Value)) (seen : Array Nat) (pre : List Int) (rest : List MapEntry) : Prop where
 split : ∃ got : List MapEntry,(got ++ rest).Perm es.toList ∧ got.map (·.born) = seen.toList ∧ got.map (·.key) = pre.map fun k=>Value.int .i64 k
theorem came_start (es : Array MapEntry) (l : List (Int × Value)) : Came es l #[] [] es.toList:=⟨[],by simp,rfl,rfl⟩
theorem came_next {es : Array MapEntry} {clock : Nat} {l : List (Int × Value)} {seen : Array Nat} {pre : List Int} {rest : List MapEntry} (ht : Tells Tryz.prog 3 intE es clock l) (h : Came es l seen pre rest) {e : MapEntry} (he : e ∈ es.toList) (hn : e.born ∉ seen) :
 ∃ (k : Int) (rest' : List MapEntry),e.key = .int .i64 k ∧ Came es l (seen.push e.born) (pre ++ [k]) rest' ∧ rest.length = rest'.length + 1 ∧ ∃ r,(pre ++ k :: r).Perm (l.map (·.1)):=by
 obtain ⟨got,h1,h2,h3⟩:=h.split
 have hr : e ∈ rest:=by
  have:=h1.symm.subset he
  rcases List.mem_append.1 this with h | h
  · exact absurd (by rw [← Array.mem_toList_iff,← h2];exact List.mem_map.2 ⟨e,h,rfl⟩) hn
  · exact h
 obtain ⟨a,b,rfl⟩:=List.append_of_mem hr
 have hk : ∃ k,e.key = .int .i64 k:=by
  have : (e.key,e.val) ∈ es.toList.map (fun e=>(e.key,e.val)):=List.mem_map.2 ⟨e,he,rfl⟩
  rw [ht.same] at this
  obtain ⟨p,hp,e1⟩:=List.mem_map.1 this
  rw [Prod.mk.injEq] at e1
  exact ⟨p.1,by rw [← e1.1,wholeI]⟩
 obtain ⟨k,hk⟩:=hk
 have hp : (got ++ [e] ++ (a ++ b)).Perm es.toList:=by
  refine List.Perm.trans ?_ h1
  rw [List.append_assoc]
  show (got ++ e :: (a ++ b)).Perm _
  exact (List.perm_middle.symm).append_left got
 have hkeys:=tells_keys ht
 refine ⟨k,a ++ b,hk,⟨got ++ [e],hp,by simp [h2],by simp [h3,hk]⟩,by simp;omega,?_⟩
 -- the keys of what is left
 have hall : ∀ x ∈ a ++ b,∃ k : Int,x.key = .int .i64 k:=fun x hx=>by
  have hx2 : x ∈ es.toList:=hp.subset (List.mem_append_right _ hx)
  have : x.key ∈ es.toList.map (·.key):=List.mem_map.2 ⟨x,hx2,rfl⟩
  rw [hkeys] at this
  obtain ⟨k,_,e1⟩:=List.mem_map.1 this
  exact ⟨k,e1.symm⟩
 obtain ⟨r,hr⟩ : ∃ r : List Int,(a ++ b).map (·.key) = r.map fun k=>Value.int .i64 k:=by
  have key : ∀ L : List MapEntry,(∀ x ∈ L,∃ k : Int,x.key = .int .i64 k) → ∃ r : List Int,L.map (·.key) = r.map fun k=>Value.int .i64 k:=by
   intro L
   induction L with
   | nil=>intro _;exact ⟨[],rfl⟩
   | cons y L ih=>
     intro hL
     obtain ⟨k,hk⟩:=hL y (by simp)
     obtain ⟨r,hr⟩:=ih fun x hx=>hL x (by simp [hx])
     exact ⟨k :: r,by simp [hk,hr]⟩
  exact key _ hall
 refine ⟨r,?_⟩
 have hperm : ((pre ++ k :: r).map fun k=>Value.int .i64 k).Perm ((l.map (·.1)).map fun k=>Value.int .i64 k):=by
  rw [← hkeys,List.map_append,List.map_cons,← hr,← h3,← hk]
  have:=hp.map (·.key)
  simpa using this
 have inj : ∀ x y : Int,Value.int .i64 x = Value.int .i64 y → x = y:=fun x y h=>by cases h;rfl
 have back : ∀ L : List Int,(L.map fun k=>Value.int .i64 k).map (fun v=>match v with | .int _ n=>n | _=>0) = L:=fun L=>by
  rw [List.map_map];exact (List.map_congr_left fun _ _=>rfl).trans (List.map_id L)
 have:=hperm.map (fun v=>match v with | .int _ n=>n | _=>0)
 rw [back,back] at this
 exact this
theorem came_done {es : Array MapEntry} {clock : Nat} {l : List (Int × Value)} {seen : Array Nat} {pre : List Int} {rest : List MapEntry} (ht : Tells Tryz.prog 3 intE es clock l) (h : Came es l seen pre rest) (hd : ∀ e ∈ es.toList,e.born ∈ seen) : pre.Perm (l.map (·.1)):=by
 obtain ⟨got,h1,h2,h3⟩:=h.split
 have hnil : rest = []:=by
  cases rest with
  | nil=>rfl
  | cons x r=>
    have hx : x ∈ es.toList:=h1.subset (by simp)
    have:=hd x hx
    rw [← Array.mem_toList_iff,← h2] at this
    have hb:=(h1.map (·.born)).nodup_iff.2 ht.born
    rw [List.map_append,List.nodup_append] at hb
    exact absurd rfl (hb.2.2 _ this _ (by simp))
 subst hnil
 rw [List.append_nil] at h1
 have hkeys:=tells_keys ht
 have hp:=h1.map (·.key)
 rw [h3,hkeys] at hp
 have back : ∀ L : List Int,(L.map fun k=>Value.int .i64 k).map (fun v=>match v with | .int _ n=>n | _=>0) = L:=fun L=>by
  rw [List.map_map];exact (List.map_congr_left fun _ _=>rfl).trans (List.map_id L)
 have:=hp.map (fun v=>match v with | .int _ n=>n | _=>0)
 rw [back,back] at this
 exact this
theorem get_lastK (A B I : Asn) (L : List Asn) : ([A,B] ++ (L ++ [I]))[2 + L.length]? = some I:=by
 rw [List.getElem?_append_right (by simp),List.getElem?_append_right (by simp)];simp
theorem set_lastK (A B I I' : Asn) (L : List Asn) : ([A,B] ++ (L ++ [I])).set (2 + L.length) I' = [A,B] ++ (L ++ [I']):=by
 rw [List.set_append_right _ _ (by simp),List.set_append_right _ _ (by simp)];simp
theorem left_of {M r clock c0 n : Nat} {seen : Array Nat} {L : List Asn} {G : Nat → Prop} {w0 w : World} {A B : Asn} (S : St G w0 w ([A,B] ++ (L ++ [IterE r M clock seen c0]))) : leftE r n w = n - seen.size:=by
 obtain ⟨F,hF⟩:=S.get (get_lastK _ _ _ _)
 unfold leftE
 rw [hF.1]
def MadeI (k : Int) (args : Array Value) : Prop:=args = #[.int .i64 k]
def KsRel (b M r : Nat) (es : Array MapEntry) (clock : Nat) (l : List (Int × Value)) (G : Nat → Prop) (w0 : World) (Φ : List Int → List Asn → Prop) (wr : World) : Prop:=
 ∃ (seen : Array Nat) (pre : List Int) (rest : List MapEntry) (L : List Asn),Hid (Came es l seen pre rest) ∧ Φ pre L ∧ St G w0 wr ([Blk true b #[.map (some M)] 133,MapE true M es clock] ++ (L ++ [IterE r M clock seen clock]))
theorem mkeys1_iter (b M : Nat) (es : Array MapEntry) (clock : Nat) (l : List (Int × Value)) (ht : Tells Tryz.prog 3 intE es clock l) :
 IterK Tryz.prog 146 #[.pointer (some ⟨b,0,none⟩)] [Blk true b #[.map (some M)] 133,MapE true M es clock] (l.map (·.1)) MadeI:=by
 intro y G w0 W Φ L hY h0 S
 simp only [cons_append,nil_append] at S
 show Calls Tryz.prog 146 #[.func (.yield y) #[] #[],.pointer (some ⟨b,0,none⟩)] W _
 have HT:=Lib.hid ht
 clear ht
 have HY:=Lib.hid hY
 clear hY
 go_enter Tryz.func146,Tryz.ntmps146
 go_wp2_with first | ((with_reducible apply wps_rangeE Tryz.underlying133 S 1 rfl);(case hx=>rfl);clear S;intro r wz S) | ((with_reducible apply wps_load S 0);(case hx|hi|hu=>rfl);(case hT=>decide +kernel))
 have S2 : St G w0 wz ([Blk true b #[.map (some M)] 133,MapE true M es clock] ++ (L ++ [IterE r M clock #[] clock])):=by
  have:=S.rot
  simpa using this
 clear S
 go_frame
 go_loopw [3] (fun _ wr=>KsRel b M r es clock l G w0 Φ wr) (fun _ wr=>leftE r es.size wr)
 case atStart=>exact ⟨#[],[],_,L,Lib.hid (came_start es l),h0,S2⟩
 case round=>
  clear S2 h0
  obtain ⟨seen,pre,rest,L,HC,hΦ,S⟩:=hrel
  have HΦ:=Lib.hid hΦ
  clear hΦ
  have HLF:=Lib.hid (left_of (n:=es.size) S)
  go_wp2_with first | ((with_reducible refine wps_nextE S (2 + L.length) 1 (get_lastK _ _ _ _) rfl HT.out.old (Nat.le_refl _) ?hx ?hdone ?hmore);(case hx=>rfl))
  case hdone=>
   intro hd
   go_wp2_with first | ((with_reducible apply wps_load S 0);(case hx|hi|hu=>rfl);(case hT=>decide +kernel))
   go_end0
   have S3 : St G w0 wr (([Blk true b #[.map (some M)] 133,MapE true M es clock] ++ L) ++ [IterE r M clock seen clock]):=by simpa using S
   exact ⟨⟨_,rfl⟩,L,pre,came_done HT.out HC.out hd,St.tail S3.unrot,HΦ.out⟩
  case hmore=>
   intro e w2 he hs S2
   obtain ⟨k,rest',hk,hC2,hlen,hperm⟩:=came_next HT.out HC.out he hs
   rw [set_lastK] at S2
   have HK:=Lib.hid hk
   have HC2:=Lib.hid hC2
   have HP:=Lib.hid hperm
   have HE:=Lib.hid he
   have hle : seen.size < es.size:=by
    obtain ⟨got,g1,g2,g3⟩:=hC2.split
    have h1:=g1.length_eq
    have h2:=congrArg List.length g2
    simp at h1 h2
    omega
   clear hk hC2 hperm he hs
   go_upto_region 3 with first | ((with_reducible refine wps_entryE S2 (2 + L.length) 1 (get_lastK _ _ _ _) rfl HE.out HT.out.born ?hx ?next);(case hx=>rfl))
   refine wp_region_yl 2 rfl rfl rfl fun K hK=>?_
   simp only [List.take_succ_cons,List.take_zero]
   simp only [List.drop_succ_cons,List.drop_zero] at hK
   go_wp2_with first | ((with_reducible apply wps_load S 0);(case hx|hi|hu=>rfl);(case hT=>decide +kernel))
   refine hK _ _ ?_
   clear hK K
   (try simp only [Act.put]);(try simp only [setIfInBounds_toArray]);(try simp only [set_cons_succ]);(try simp only [set_cons_zero])
   refine yield_in (l:=y) rfl rfl rfl rfl rfl (HY.out pre k _ L (IterE r M clock (seen.push e.born) clock) _ HP.out (by show (#[e.key] : Array Value) = _;rw [HK.out]) rfl HΦ.out S2) ?_
   rintro e2 w' ⟨L',S,rfl,hΦ'⟩
   refine ⟨_,rfl,?_⟩
   refine list_only rfl fun K hK=>?_
   go_wp2_with first | ((with_reducible apply wps_load S 0);(case hx|hi|hu=>rfl);(case hT=>decide +kernel))
   refine hK _ _ ?_
   clear hK K
   have HΦ':=Lib.hid hΦ'
   clear hΦ'
   go_wp2_with first | ((with_reducible apply wps_load S 0);(case hx|hi|hu=>rfl);(case hT=>decide +kernel))
   go_roundw
   case rel=>exact ⟨_,_,_,_,_,_,_,_,_,⟨_,_,rest',L',HC2,HΦ'.out,S⟩,rfl⟩
   case measure=>
    rw [HLF.out,left_of S]
    rw [Array.size_push]
    omega
def ApPhi (bs : Nat) (n : Nat) (pre : List Int) (L : List Asn) : Prop:=
 ∃ v,pre.length ≤ n ∧ L = [Mem.Own 3 intE 1 v pre,Blk false bs #[v] 92]
theorem zip_one9K (p : Tmp) (v : Value) (t : Array Value) : (#[p].zip #[v]).foldl (fun t (p,v)=>t.setIfInBounds p v) t = t.setIfInBounds p v:=by simp
def CollPost (l : List (Int × Value)) (w : World) (e : Ending) (w' : World) : Prop:=
 ∃ ad c all,e = .returned (.slice ad l.length c) ∧ all.Perm (l.map (·.1)) ∧ St (fun _=>False) w w' [Mem.Own 3 intE 1 (.slice ad l.length c) all]
theorem appseq_calls (b M : Nat) (es : Array MapEntry) (clock : Nat) (l : List (Int × Value)) (ht : Tells Tryz.prog 3 intE es clock l) (hn : l.length ≤ 65536) (w : World) (F F2 : Nat → Prop) (h1 : (Blk true b #[.map (some M)] 133).at_ w F) (h2 : (MapE true M es clock).at_ w F2) :
 Calls Tryz.prog 184 #[.slice none 0 0,.func (.func 146) #[] #[.pointer (some ⟨b,0,none⟩)]] w (CollPost l w):=by
 have S : St (fun _=>False) w w [Blk true b #[.map (some M)] 133,MapE true M es clock]:=((St.init _ w).share (A:=MapE true M es clock) rfl rfl h2).share (A:=Blk true b #[.map (some M)] 133) rfl rfl h1
 clear h1 h2
 have HN:=Lib.hid hn
 refine calls_marks Tryz.func184 rfl ?_
 simp only [Tryz.ntmps184,List.size_toArray,List.length_cons,List.length_nil,Nat.reduceAdd,Nat.reduceSub,Array.replicate_succ,Array.replicate_zero,List.push_toArray,List.append_toArray,nil_append,cons_append]
 go_wp2_with first | ((with_reducible apply wps_box1 (E:=92) (v:=.slice none 0 0) S);(case hx|h1=>rfl);clear S;intro bs wz S)
 replace S:=(S.nil 3 intE 1).pick [2,3,0,1] rfl
 simp only [pick,nth] at S
 refine wps_rangeK (mkeys1_iter b M es clock l ht) S rfl (calls_enter Tryz.func146 (by kernel_rfl) rfl) (ApPhi bs l.length) ⟨_,Nat.zero_le _,rfl⟩ (fun x args h=>by unfold MadeI at h;rw [h];rfl) ?round ?done
 case round=>
  rintro lp D r pre x args L A W ⟨rest,hperm⟩ hm hA ⟨ov,hpl,rfl⟩ S
  unfold MadeI at hm
  subst hm
  simp only [zip_one9K,setIfInBounds_toArray,set_cons_succ,set_cons_zero,cons_append,nil_append] at S ⊢
  have hlt : pre.length < l.length:=by have:=hperm.length_eq;simp at this;omega
  obtain ⟨a3,c3,rfl,_⟩:=(S.ownsl intE_len 2 rfl).elim fun _ h=>h.form
  have hpl2 : pre.length < 65536:=by omega
  clear hperm hpl
  gi_wp2_with first
   | (refine wpi_at (.inr ⟨_,rfl⟩) rfl fun K hK=>?_
      go_wp2_with first | ((with_reducible refine tot_done ?ht ?_);(case ht=>kernel_rfl))
      refine hK _ _ ?_
      (try simp only [Act.put]);(try simp only [setIfInBounds_toArray]);(try simp only [set_cons_succ]);(try simp only [set_cons_zero])
      clear hK K)
  refine ⟨_,S.lastSplit rfl,fun r' W2 S=>?_⟩
  simp only [List.dropLast,cons_append,nil_append] at S
  refine wpIn_block (wpi_list_k (.inr ⟨_,rfl⟩) rfl fun K2 hK2=>?_)
  go_wp2_with first | ((with_reducible apply wps_load S 3);(case hx|hi|hu=>rfl);(case hT=>decide +kernel)) | ((with_reducible apply wps_build11 (T:=92) (E:=3) S);(case hx=>rfl);(case hr=>intro w;kernel_rfl);clear S;intro bz wz S) | ((with_reducible apply wps_append1 elem_Int intE_len intE_one (by decide) S 3 (j:=0) (e:=x));(case hx|hy|hi|hj|he=>rfl);(case hl=>omega);clear S;intro az nz cz wz hnz S;simp only [set_cons_succ,set_cons_zero] at S) | ((with_reducible apply wps_store (u:=(.slice az nz cz)) S 4);(case hx|hy|hi|h1=>rfl);(case hn=>exact nle rfl);(case hT=>decide +kernel);clear S;intro wz S;simp only [set_cons_succ,set_cons_zero,setIfInBounds_toArray] at S)
  refine hK2 _ _ ?_
  clear hK2 K2
  exact ⟨_,⟨_,by rw [List.length_append];simp;omega,rfl⟩,S.pick [1,2,3,4,5,6] rfl⟩
 case done=>
  rintro D W L all hall ⟨ov,hpl,rfl⟩ S
  simp only [cons_append,nil_append] at S
  obtain ⟨a3,c3,rfl,_⟩:=(S.ownsl intE_len 3 rfl).elim fun _ h=>h.form
  have hll : all.length = l.length:=by have:=hall.length_eq;simpa using this
  rw [hll] at S
  have HA:=Lib.hid hall
  clear hall hll hpl
  go_wp2_with first | ((with_reducible apply wps_load S 4);(case hx|hi|hu=>rfl);(case hT=>decide +kernel))
  refine leaves_ret1 S rfl fun w' S=>⟨_,results1 rfl (res_tmp rfl),a3,c3,all,rfl,HA.out,S.pick [2] rfl⟩
end Go.Proofs.YtmjljoaakdocaaaGreatDoor
