import Derived.Orders
import Derived.Still
import Derived.Laws.Sem
import Derived.Tactics
import Derived.KernelRfl
/- A region that draws its order is walked in the order of the text, if a closed test over its operations says that each two of them that stand in no order may change places. No condition but that test. -/
namespace Go.Proofs.YtmjljoaakdocaaaGreatDoor
theorem nle {n m : Nat} (h : Nat.ble n m = true) : n ≤ m:=Nat.le_of_ble_eq_true h
end Go.Proofs.YtmjljoaakdocaaaGreatDoor
namespace Go.Proofs.YtmjljoaakdocaaaGreatDoor.Reg
open Go
structure Ext (w w2 : World) : Prop where
 le : w.heap.size ≤ w2.heap.size
 old : ∀ b,b < w.heap.size → w2.heap[b]? = w.heap[b]?
theorem Ext.refl (w : World) : Ext w w:=⟨Nat.le_refl _,fun _ _=>rfl⟩
section
variable (P : Program)
def Free {α : Type} (s : Sem α) : Prop:=∀ w r w',s.run P w = .ok r w' → w' = w ∧ ∀ w2,s.run P w2 = .ok r w2
def Reads {α : Type} (s : Sem α) : Prop:=∀ w r w',s.run P w = .ok r w' → w' = w ∧ ∀ w2,Ext w w2 → s.run P w2 = .ok r w2
def Grows {α : Type} (s : Sem α) : Prop:=∀ w r w',s.run P w = .ok r w' → Ext w w'
variable {P}
theorem Free.reads {α : Type} {s : Sem α} (h : Free P s) : Reads P s:=fun w r w' e=>⟨(h w r w' e).1,fun w2 _=>(h w r w' e).2 w2⟩
theorem Reads.grows {α : Type} {s : Sem α} (h : Reads P s) : Grows P s:=fun w r w' e=>by rw [(h w r w' e).1];exact Ext.refl _
theorem Free.pure {α : Type} (a : α) : Free P (Pure.pure a : Sem α):=fun w r w' e=>by cases e;exact ⟨rfl,fun _=>rfl⟩
theorem Free.halt {α : Type} (h : Halt) : Free P (Sem.halt h : Sem α):=fun w r w' e=>by cases e
theorem Free.stuck {α : Type} (s : String) : Free P (Go.stuck s : Sem α):=Free.halt _
theorem Free.unsupported {α : Type} (s : Unsupported) : Free P (Go.unsupported s : Sem α):=Free.halt _
theorem Free.program : Free P Go.program:=fun w r w' e=>by cases e;exact ⟨rfl,fun _=>rfl⟩
theorem Free.bind {α β : Type} {x : Sem α} {f : α → Sem β} (hx : Free P x) (hf : ∀ a,Free P (f a)) : Free P (x >>= f):=by
 intro w r w' e
 rw [Sem.run_bind] at e
 cases hr : x.run P w with
 | halt h w1=>rw [hr] at e;cases e
 | ok a w1=>
   rw [hr] at e
   obtain ⟨rfl,h2⟩:=hx _ _ _ hr
   obtain ⟨rfl,h3⟩:=hf a _ _ _ e
   exact ⟨rfl,fun w2=>by rw [Sem.run_bind,h2 w2];exact h3 w2⟩
theorem Reads.bind {α β : Type} {x : Sem α} {f : α → Sem β} (hx : Reads P x) (hf : ∀ a,Reads P (f a)) : Reads P (x >>= f):=by
 intro w r w' e
 rw [Sem.run_bind] at e
 cases hr : x.run P w with
 | halt h w1=>rw [hr] at e;cases e
 | ok a w1=>
   rw [hr] at e
   obtain ⟨rfl,h2⟩:=hx _ _ _ hr
   obtain ⟨rfl,h3⟩:=hf a _ _ _ e
   exact ⟨rfl,fun w2 he=>by rw [Sem.run_bind,h2 w2 he];exact h3 w2 he⟩
theorem Ext.trans {a b c : World} (h : Ext a b) (h' : Ext b c) : Ext a c:=
 ⟨Nat.le_trans h.le h'.le,fun x hx=>(h'.old x (Nat.lt_of_lt_of_le hx h.le)).trans (h.old x hx)⟩
theorem Grows.bind {α β : Type} {x : Sem α} {f : α → Sem β} (hx : Grows P x) (hf : ∀ a,Grows P (f a)) : Grows P (x >>= f):=by
 intro w r w' e
 rw [Sem.run_bind] at e
 cases hr : x.run P w with
 | halt h w1=>rw [hr] at e;cases e
 | ok a w1=>
   rw [hr] at e
   exact (hx _ _ _ hr).trans (hf a _ _ _ e)
theorem Free.ite {α : Type} {c : Prop} [Decidable c] {x y : Sem α} (hx : Free P x) (hy : Free P y) : Free P (if c then x else y):=by split <;> assumption
theorem Reads.ite {α : Type} {c : Prop} [Decidable c] {x y : Sem α} (hx : Reads P x) (hy : Reads P y) : Reads P (if c then x else y):=by split <;> assumption
def Dies {α : Type} (s : Sem α) : Prop:=∀ w r w',s.run P w ≠ .ok r w'
theorem Free.dies {α : Type} {s : Sem α} (h : Dies (P:=P) s) : Free P s:=fun w r w' e=>absurd e (h w r w')
theorem Dies.bind {α β : Type} {x : Sem α} {f : α → Sem β} (hf : ∀ a,Dies (P:=P) (f a)) : Dies (P:=P) (x >>= f):=by
 intro w r w' e
 rw [Sem.run_bind] at e
 cases hr : x.run P w with
 | halt h w1=>rw [hr] at e;cases e
 | ok a w1=>rw [hr] at e;exact hf a _ _ _ e
theorem Dies.goPanic {α : Type} (v : Value) : Dies (P:=P) (Go.goPanic v : Sem α):=fun w r w' e=>by cases e
theorem Dies.runtimePanic {α : Type} (x : RuntimeError) : Dies (P:=P) (Go.runtimePanic x : Sem α):=by
 unfold Go.runtimePanic
 refine Dies.bind fun p=>?_
 cases x <;> first | exact Dies.goPanic _ | (refine Dies.bind fun _=>?_;first | exact Dies.goPanic _ | (refine Dies.bind fun _=>?_;exact Dies.goPanic _))
theorem Dies.boundsPanic {α : Type} (k : IntKind) (x y : Int) (c : BoundsCode) : Dies (P:=P) (Go.boundsPanic k x y c : Sem α):=by
 unfold Go.boundsPanic
 dsimp only
 split <;> exact Dies.bind fun _=>Dies.runtimePanic _
theorem Free.runtimePanic {α : Type} (x : RuntimeError) : Free P (Go.runtimePanic x : Sem α):=Free.dies (Dies.runtimePanic x)
theorem Free.boundsPanic {α : Type} (k : IntKind) (x y : Int) (c : BoundsCode) : Free P (Go.boundsPanic k x y c : Sem α):=Free.dies (Dies.boundsPanic k x y c)
theorem Free.typeInfo (t : TypeId) : Free P (Go.typeInfo t):=by
 unfold Go.typeInfo
 refine Free.program.bind fun p=>?_
 cases p.info? t <;> first | exact Free.pure _ | exact Free.stuck _
theorem Free.underlying (t : TypeId) : Free P (Go.underlying t):=by
 unfold Go.underlying
 refine Free.program.bind fun p=>?_
 cases p.underlying t <;> first | exact Free.pure _ | exact Free.stuck _
theorem Free.sizeOf (t : TypeId) : Free P (Go.sizeOf t):=by
 unfold Go.sizeOf
 exact (Free.typeInfo t).bind fun _=>Free.pure _
theorem Free.zeroValue (t : TypeId) : Free P (Go.zeroValue t):=by
 unfold Go.zeroValue
 refine (Free.typeInfo t).bind fun i=>?_
 cases i.zero <;> first | exact Free.pure _ | exact Free.unsupported _
theorem Free.isAgg (t : TypeId) : Free P (Go.isAgg t):=by
 unfold Go.isAgg
 refine (Free.underlying t).bind fun d=>?_
 cases d <;> exact Free.pure _
theorem Free.part (t : TypeId) (cs : Array Value) (off : Nat) : Free P (Go.part t cs off):=by
 unfold Go.part
 refine (Free.isAgg t).bind fun b=>?_
 refine Free.ite ((Free.sizeOf t).bind fun _=>Free.pure _) ?_
 cases cs[off]? <;> first | exact Free.pure _ | exact Free.stuck _
theorem Free.asIntOf (v : Value) : Free P (Go.asIntOf v):=by
 cases v <;> try exact Free.stuck _
 · exact Free.pure _
 · rename_i a;cases a <;> first | exact Free.stuck _ | exact Free.unsupported _
theorem Free.asBool (v : Value) : Free P (Go.asBool v):=by cases v <;> first | exact Free.pure _ | exact Free.stuck _
theorem Free.asAgg (v : Value) : Free P (Go.asAgg v):=by cases v <;> first | exact Free.pure _ | exact Free.stuck _
theorem Free.sureAddr (v : Value) : Free P (Instr.sureAddr v):=by
 cases v <;> try exact Free.stuck _
 rename_i a;cases a <;> first | exact Free.stuck _ | exact Free.pure _
theorem Free.asAddr (v : Value) : Free P (Go.asAddr v):=by
 cases v <;> try exact Free.stuck _
 rename_i a
 cases a with
 | none=>exact Free.runtimePanic .nilDeref
 | some a=>exact Free.pure _
theorem Free.mapM {α β : Type} {f : α → Sem β} (hf : ∀ a,Free P (f a)) (l : List α) : Free P (l.mapM f):=by
 induction l with
 | nil=>rw [List.mapM_nil];exact Free.pure _
 | cons a l ih=>rw [List.mapM_cons];exact (hf a).bind fun _=>ih.bind fun _=>Free.pure _
theorem Free.map {α β : Type} {f : α → β} {x : Sem α} (hx : Free P x) : Free P (f <$> x):=by
 rw [← bind_pure_comp];exact hx.bind fun _=>Free.pure _
theorem Free.amapM {α β : Type} {f : α → Sem β} (hf : ∀ a,Free P (f a)) (l : Array α) : Free P (l.mapM f):=by
 rw [Array.mapM_eq_mapM_toList]
 exact (Free.mapM hf _).map
theorem Free.loop {α β : Type} {f : α → β → Sem (ForInStep β)} (hf : ∀ a b,Free P (f a b)) (l : List α) (b : β) : Free P (forIn l b f):=by
 induction l generalizing b with
 | nil=>exact Free.pure _
 | cons a l ih=>
   rw [List.forIn_cons]
   refine (hf a b).bind fun s=>?_
   cases s with
   | done b=>exact Free.pure _
   | yield b=>exact ih b
theorem Free.aloop {α β : Type} {f : α → β → Sem (ForInStep β)} (hf : ∀ a b,Free P (f a b)) (l : Array α) (b : β) : Free P (forIn l b f):=by
 rw [← Array.forIn_toList];exact Free.loop hf _ _
theorem Free.rloop {β : Type} {f : Nat → β → Sem (ForInStep β)} (hf : ∀ a b,Free P (f a b)) (r : Std.Legacy.Range) (b : β) : Free P (forIn r b f):=by
 rw [Std.Legacy.Range.forIn_eq_forIn_range'];exact Free.loop hf _ _
theorem Free.build (t : TypeId) (ps : Array (Nat × Value)) : Free P (Instr.build t ps):=by
 unfold Instr.build
 refine (Free.zeroValue t).bind fun z=>(Free.underlying t).bind fun d=>?_
 split
 · refine (Free.amapM (fun f=>(Free.sizeOf _).bind fun _=>Free.pure _) _).bind fun n=>?_
   split <;> first | with_reducible exact Free.pure _ | exact Free.stuck _
 · refine (Free.sizeOf _).bind fun n=>?_
   split <;> first | with_reducible exact Free.pure _ | exact Free.stuck _
 · exact Free.stuck _
theorem Free.field (t : TypeId) (x : Value) (i : Nat) : Free P (Instr.field t x i):=by
 unfold Instr.field
 repeat' first | with_reducible exact Free.pure _ | with_reducible exact Free.stuck _ | exact Free.underlying _ | exact Free.part _ _ _ | exact Free.asAgg _ | refine Free.bind ?_ fun _=>?_ | split
theorem Free.index (t : TypeId) (x i : Value) : Free P (Instr.index t x i):=by
 unfold Instr.index
 repeat' first | with_reducible exact Free.pure _ | with_reducible exact Free.stuck _ | with_reducible exact Free.boundsPanic _ _ _ _ | exact Free.underlying _ | exact Free.sizeOf _ | exact Free.part _ _ _ | exact Free.asAgg _ | exact Free.asIntOf _ | refine Free.bind ?_ fun _=>?_ | split
theorem Free.extract (x : Value) (i : Nat) : Free P (Instr.extract x i):=by
 unfold Instr.extract
 repeat' first | with_reducible exact Free.pure _ | with_reducible exact Free.stuck _ | split
theorem Free.indexAt (t : TypeId) (x i : Value) : Free P (Instr.indexAt t x i):=by
 unfold Instr.indexAt
 repeat' first | with_reducible exact Free.pure _ | with_reducible exact Free.stuck _ | with_reducible exact Free.unsupported _ | with_reducible exact Free.boundsPanic _ _ _ _ | exact Free.underlying _ | exact Free.sizeOf _ | exact Free.sureAddr _ | exact Free.asIntOf _ | refine Free.bind ?_ fun _=>?_ | split | (dsimp only;split)
theorem Free.sliceBound (x : Value) (y : Nat) (c : BoundsCode) : Free P (Instr.sliceBound x y c):=by
 unfold Instr.sliceBound
 repeat' first | with_reducible exact Free.pure _ | with_reducible exact Free.boundsPanic _ _ _ _ | exact Free.asIntOf _ | refine Free.bind ?_ fun _=>?_ | split
theorem Free.sliceBounds (b : Bool) (l c : Nat) (x y z : Option Value) : Free P (Instr.sliceBounds b l c x y z):=by
 unfold Instr.sliceBounds
 repeat' first | with_reducible exact Free.pure _ | with_reducible exact Free.stuck _ | exact Free.sliceBound _ _ _ | refine Free.bind ?_ fun _=>?_ | split
theorem Free.slice (t : TypeId) (x : Value) (a b c : Option Value) : Free P (Instr.slice t x a b c):=by
 unfold Instr.slice
 repeat' first | with_reducible exact Free.pure _ | with_reducible exact Free.stuck _ | exact Free.underlying _ | exact Free.sizeOf _ | exact Free.asAddr _ | exact Free.sliceBounds _ _ _ _ _ _ | refine Free.bind ?_ fun _=>?_ | split
theorem Free.sliceAt (t : TypeId) (x : Value) (a b c : Option Value) : Free P (Instr.sliceAt t x a b c):=by
 unfold Instr.sliceAt
 repeat' first | with_reducible exact Free.pure _ | with_reducible exact Free.stuck _ | exact Free.slice _ _ _ _ _ | exact Free.underlying _ | exact Free.sizeOf _ | exact Free.sureAddr _ | exact Free.sliceBounds _ _ _ _ _ _ | refine Free.bind ?_ fun _=>?_ | split
theorem Free.intArith (op : BinOp) (k : IntKind) (x y : Int) : Free P (Op.intArith op k x y):=by
 unfold Op.intArith
 repeat' first | with_reducible exact Free.pure _ | with_reducible exact Free.stuck _ | split
theorem Free.intDiv (op : BinOp) (k : IntKind) (x y : Int) : Free P (Op.intDiv op k x y):=by
 unfold Op.intDiv
 repeat' first | with_reducible exact Free.pure _ | with_reducible exact Free.stuck _ | with_reducible exact Free.runtimePanic _ | split
theorem Free.intCmp (op : BinOp) (x y : Int) : Free P (Op.intCmp op x y):=by
 unfold Op.intCmp
 repeat' first | with_reducible exact Free.pure _ | with_reducible exact Free.stuck _ | split
theorem Free.intBits (op : BinOp) (k : IntKind) (x y : Int) : Free P (Op.intBits op k x y):=by
 unfold Op.intBits
 dsimp only
 repeat' first | with_reducible exact Free.pure _ | with_reducible exact Free.stuck _ | split
theorem Free.shift (op : BinOp) (k k' : IntKind) (x y : Int) : Free P (Op.shift op k x k' y):=by
 unfold Op.shift
 dsimp only
 repeat' first | with_reducible exact Free.pure _ | with_reducible exact Free.stuck _ | with_reducible exact Free.runtimePanic _ | split
theorem Free.stringOp (op : BinOp) (x y : ByteArray) : Free P (Op.stringOp op x y):=by
 unfold Op.stringOp
 dsimp only
 repeat' first | with_reducible exact Free.pure _ | with_reducible exact Free.stuck _ | with_reducible exact Free.unsupported _ | split
theorem Free.unary (op : UnOp) (x : Value) : Free P (Op.unary op x):=by
 unfold Op.unary
 repeat' first | with_reducible exact Free.pure _ | with_reducible exact Free.stuck _ | with_reducible exact Free.unsupported _ | exact Free.intArith _ _ _ _ | exact Free.intBits _ _ _ _ | split
theorem Free.makeInterface (t : TypeId) (x : Value) : Free P (Instr.makeInterface t x):=by
 unfold Instr.makeInterface
 repeat' first | with_reducible exact Free.pure _ | with_reducible exact Free.stuck _ | exact Free.underlying _ | refine Free.bind ?_ fun _=>?_ | split
theorem Free.followBlind (l : List FieldStep) : ∀ (t : TypeId) (x : Option Value),Free P (Go.followBlind l t x):=by
 induction l with
 | nil=>intro t x;exact Free.pure _
 | cons s l ih=>
   intro t x
   unfold Go.followBlind
   repeat' first | with_reducible exact Free.pure _ | with_reducible exact Free.stuck _ | exact Free.underlying _ | exact Free.part _ _ _ | exact ih _ _ | refine Free.bind ?_ fun _=>?_ | split
theorem Free.nilAhead (n : Nat) : ∀ (t : TypeId) (v : Value) (s : String),Free P (Go.nilAhead n t v s):=by
 induction n with
 | zero=>intro t v s;exact Free.pure _
 | succ n ih=>
   intro t v s
   unfold Go.nilAhead
   repeat' first | with_reducible exact Free.pure _ | with_reducible exact Free.stuck _ | exact Free.underlying _ | exact Free.typeInfo _ | exact Free.followBlind _ _ _ | exact ih _ _ _ | refine Free.bind ?_ fun _=>?_ | split
def flat1 : Value → Bool
 | .int _ _ | .bool _ | .string _=>true
 | _=>false
def flat : Value → Bool
 | .int _ _ | .bool _ | .string _ | .tuple _=>true
 | .agg cs=>cs.all flat1
 | _=>false
theorem flat_of_flat1 {v : Value} (h : flat1 v = true) : flat v = true:=by cases v <;> simp_all [flat1,flat]
theorem part_flat {t : TypeId} {cs : Array Value} {off : Nat} {w w' : World} {v : Value} (hc : cs.all flat1 = true) (h : (Go.part t cs off).run P w = .ok v w') : flat v = true:=by
 unfold Go.part at h
 rw [Sem.run_bind] at h
 cases hr : (Go.isAgg t).run P w with
 | halt h1 w1=>rw [hr] at h;cases h
 | ok b w1=>
   rw [hr] at h
   simp only [Result.andThen_ok] at h
   split at h
   · rw [Sem.run_bind] at h
     cases hr2 : (Go.sizeOf t).run P w1 with
     | halt h1 w2=>rw [hr2] at h;cases h
     | ok n w2=>
       rw [hr2] at h
       cases h
       simp only [flat,Array.all_eq_true_iff_forall_mem] at hc ⊢
       intro x hx
       exact hc x (by
        obtain ⟨i,hi,e⟩:=Array.mem_iff_getElem.1 hx
        rw [Array.getElem_extract] at e
        exact e ▸ Array.getElem_mem _)
   · split at h
     · rename_i v' hv
       cases h
       exact flat_of_flat1 (by simpa using (Array.all_eq_true_iff_forall_mem.1 hc) _ (Array.mem_of_getElem? hv))
     · cases h
theorem Free.bind_of {α β : Type} {x : Sem α} {f : α → Sem β} (Q : α → Prop) (hx : Free P x) (hq : ∀ w a w',x.run P w = .ok a w' → Q a) (hf : ∀ a,Q a → Free P (f a)) : Free P (x >>= f):=by
 intro w r w' e
 rw [Sem.run_bind] at e
 cases hr : x.run P w with
 | halt h w1=>rw [hr] at e;cases e
 | ok a w1=>
   rw [hr] at e
   obtain ⟨rfl,h2⟩:=hx _ _ _ hr
   obtain ⟨rfl,h3⟩:=hf a (hq _ _ _ hr) _ _ _ e
   exact ⟨rfl,fun w2=>by rw [Sem.run_bind,h2 w2];exact h3 w2⟩
theorem flat_agg {cs : Array Value} (h : flat (.agg cs) = true) : cs.all flat1 = true:=h
theorem Free.equalIn (d : Nat) : ∀ (t : TypeId) (x y : Value),flat x = true → flat y = true → Free P (Op.equalIn d t x y):=by
 induction d with
 | zero=>intro t x y _ _;exact Free.unsupported _
 | succ d ih=>
   intro t x y hx hy
   unfold Op.equalIn
   refine (Free.underlying t).bind fun desc=>?_
   split <;> first
    | exact Free.pure _ | exact Free.stuck _ | (simp only [flat,Bool.false_eq_true] at hx;done) | (simp only [flat,Bool.false_eq_true] at hy;done)
    | (split <;> first | with_reducible exact Free.pure _ | with_reducible exact Free.stuck _)
    | skip
   · rename_i xs ys
     refine Free.program.bind fun p=>Free.ite (Free.unsupported _) ?_
     refine Free.bind (Free.aloop (fun f b=>Free.ite ?_ (Free.pure _)) _ _) fun r=>?_
     · exact Free.bind_of (fun v=>flat v = true) (Free.part _ _ _) (fun _ _ _ h=>part_flat (flat_agg hx) h) fun a ha=>
        Free.bind_of (fun v=>flat v = true) (Free.part _ _ _) (fun _ _ _ h=>part_flat (flat_agg hy) h) fun b hb=>
         (ih _ _ _ ha hb).bind fun r=>Free.ite (Free.pure _) (Free.pure _)
     · dsimp only;split <;> exact Free.pure _
   · rename_i xs ys
     refine (Free.sizeOf _).bind fun n=>Free.bind (Free.rloop (fun f b=>?_) _ _) fun r=>?_
     · exact Free.bind_of (fun v=>flat v = true) (Free.part _ _ _) (fun _ _ _ h=>part_flat (flat_agg hx) h) fun a ha=>
        Free.bind_of (fun v=>flat v = true) (Free.part _ _ _) (fun _ _ _ h=>part_flat (flat_agg hy) h) fun b hb=>
         (ih _ _ _ ha hb).bind fun r=>Free.ite (Free.pure _) (Free.pure _)
     · dsimp only;split <;> exact Free.pure _
theorem Free.eqGuardIn (d : Nat) : ∀ (t : TypeId) (x y : Value),flat x = true → flat y = true → Free P (Op.eqGuardIn d t x y):=by
 induction d with
 | zero=>intro t x y _ _;exact Free.unsupported _
 | succ d ih=>
   intro t x y hx hy
   unfold Op.eqGuardIn
   refine (Free.underlying t).bind fun desc=>?_
   split
   · exact Free.pure _
   · refine Free.bind (Free.aloop (fun f b=>Free.ite ?_ (Free.pure _)) _ _) fun r=>?_
     · exact Free.bind_of (fun v=>flat v = true) (Free.part _ _ _) (fun _ _ _ h=>part_flat (flat_agg hx) h) fun a ha=>
        Free.bind_of (fun v=>flat v = true) (Free.part _ _ _) (fun _ _ _ h=>part_flat (flat_agg hy) h) fun b hb=>
         (ih _ _ _ ha hb).bind fun r=>Free.ite (Free.pure _) (Free.pure _)
     · dsimp only;split <;> exact Free.pure _
   · refine (Free.sizeOf _).bind fun n=>Free.bind (Free.rloop (fun f b=>?_) _ _) fun r=>?_
     · exact Free.bind_of (fun v=>flat v = true) (Free.part _ _ _) (fun _ _ _ h=>part_flat (flat_agg hx) h) fun a ha=>
        Free.bind_of (fun v=>flat v = true) (Free.part _ _ _) (fun _ _ _ h=>part_flat (flat_agg hy) h) fun b hb=>
         (ih _ _ _ ha hb).bind fun r=>Free.ite (Free.pure _) (Free.pure _)
     · dsimp only;split <;> exact Free.pure _
   · exact Free.pure _
theorem Free.eqGuard (op : BinOp) (t : TypeId) (x y : Operand) (a b : Value) (ha : flat a = true) (hb : flat b = true) : Free P (Go.eqGuard op t x y a b):=by
 unfold Go.eqGuard
 repeat' first | with_reducible exact Free.pure _ | with_reducible exact Free.unsupported _ | (simp only [flat,Bool.false_eq_true] at ha;done) | exact Free.program | exact Free.eqGuardIn _ _ _ _ ha hb | refine Free.bind ?_ fun _=>?_ | split
theorem Free.binOp (op : BinOp) (t : TypeId) (a b : Value) (ha : flat a = true) (hb : flat b = true) : Free P (Go.binOp op t a b):=by
 have he : Free P (Op.equal t a b):=Free.equalIn _ _ _ _ ha hb
 unfold Go.binOp
 repeat' first | with_reducible exact Free.pure _ | with_reducible exact Free.stuck _ | with_reducible exact Free.unsupported _ | (simp only [flat,Bool.false_eq_true] at ha;done) | (simp only [flat,Bool.false_eq_true] at hb;done) | exact Free.shift _ _ _ _ _ | exact Free.intArith _ _ _ _ | exact Free.intDiv _ _ _ _ | exact Free.intBits _ _ _ _ | exact Free.intCmp _ _ _ | exact Free.stringOp _ _ _ | exact he.bind fun _=>Free.pure _ | split
def isNil : Value → Bool
 | .pointer none | .slice none _ _ | .map none | .nilFunc=>true
 | _=>false
def nilable : Option TypeDesc → Bool
 | some (.pointer _) | some (.slice _) | some (.map ..) | some (.func ..)=>true
 | _=>false
theorem run_underlying_eq {t : TypeId} {w : World} {d : TypeDesc} {w' : World} (h : (Go.underlying t).run P w = .ok d w') : P.underlying t = some d:=by
 unfold Go.underlying at h
 simp only [Go.program,Sem.run_bind,Sem.run,Result.andThen_ok] at h
 split at h
 · rename_i d' hd;cases h;exact hd
 · cases h
theorem Free.equalNil (d : Nat) (t : TypeId) (x y : Value) (ht : nilable (P.underlying t) = true) (hy : isNil x = true ∨ isNil y = true) : Free P (Op.equalIn d t x y):=by
 cases d with
 | zero=>exact Free.unsupported _
 | succ d=>
   unfold Op.equalIn
   refine Free.bind_of (fun d=>nilable (some d) = true) (Free.underlying t) (fun w a w' h=>by rw [run_underlying_eq h] at ht;exact ht) fun desc hd=>?_
   split <;> first
    | exact Free.pure _ | exact Free.stuck _ | (simp only [nilable,Bool.false_eq_true] at hd;done) | (simp only [isNil,Bool.false_eq_true,or_self] at hy;done)
    | (split <;> first | with_reducible exact Free.pure _ | with_reducible exact Free.stuck _)
    | skip
theorem Free.eqGuardNil (op : BinOp) (t : TypeId) (x y : Operand) (a b : Value) (hy : isNil a = true ∨ isNil b = true) : Free P (Go.eqGuard op t x y a b):=by
 unfold Go.eqGuard
 repeat' first | with_reducible exact Free.pure _ | with_reducible exact Free.unsupported _ | (simp only [isNil,Bool.false_eq_true,or_self] at hy;done) | refine Free.bind ?_ fun _=>?_ | split
theorem Free.binNil (op : BinOp) (t : TypeId) (a b : Value) (hop : op = .eql ∨ op = .neq) (ht : nilable (P.underlying t) = true) (hy : isNil a = true ∨ isNil b = true) : Free P (Go.binOp op t a b):=by
 have he : Free P (Op.equal t a b):=Free.equalNil _ _ _ _ ht hy
 unfold Go.binOp
 rcases hop with rfl | rfl
 all_goals
  repeat' first | contradiction | with_reducible exact Free.pure _ | with_reducible exact Free.stuck _ | with_reducible exact Free.unsupported _ | (simp only [isNil,Bool.false_eq_true,or_self] at hy;done) | exact he.bind fun _=>Free.pure _ | split
theorem Free.fieldAt (t : TypeId) (x : Value) (i : Nat) (hi : ∀ fs f,P.underlying t = some (.struct fs) → fs[i]? = some f → P.cellsOf f.type ≠ 0) : Free P (Instr.fieldAt t x i):=by
 unfold Instr.fieldAt
 refine Free.bind_of (fun d=>P.underlying t = some d) (Free.underlying t) (fun w a w' h=>run_underlying_eq h) fun d hd=>?_
 split
 · split
   · rename_i fs f hf
     refine (Free.sureAddr x).bind fun a=>Free.bind ?_ fun _=>Free.pure _
     unfold Go.fieldPlace
     have hne:=hi _ _ hd hf
     refine Free.bind_of (fun n=>n ≠ 0) (Free.sizeOf _) (fun w n w' h=>?_) fun n hn=>?_
     · unfold Go.sizeOf Go.typeInfo at h
       unfold Program.cellsOf at hne
       simp only [Go.program,Sem.run_bind,Sem.run,Result.andThen_ok] at h
       cases hinf : P.info? f.type with
       | none=>rw [hinf] at h;cases h
       | some inf=>
         rw [hinf] at h hne
         cases h
         exact hne
     · rw [if_neg hn];exact Free.pure _
   · exact Free.stuck _
 · exact Free.stuck _
theorem Free.len (ts : Array TypeId) (ty : TypeId) (args : Array Value) (ht : ∀ t,ts[0]? = some t → (P.underlying t = some .string ∨ (∃ e,P.underlying t = some (.slice e)) ∨ ∃ n e,P.underlying t = some (.array n e))) : Free P (Builtin.len_ ts ty args):=by
 unfold Builtin.len_
 split
 · rename_i t x heq
   have ht':=ht t (Prod.mk.inj heq).1
   refine Free.bind_of (fun d=>P.underlying t = some d) (Free.underlying t) (fun w a w' h=>run_underlying_eq h) fun d hd=>?_
   rw [hd] at ht'
   split <;> first | with_reducible exact Free.pure _ | with_reducible exact Free.stuck _ | simp at ht'
 · exact Free.stuck _
def FreeOp (P : Program) (o : Oper) (ρ : Operand → Value) : Prop:=∀ w r w',(execOp ρ o).run P w = .ok r w' → (∃ v,r = .value v) ∧ w' = w ∧ ∀ w2,(execOp ρ o).run P w2 = .ok r w2
def ReadOp (P : Program) (o : Oper) (ρ : Operand → Value) : Prop:=∀ w r w',(execOp ρ o).run P w = .ok r w' → (∃ v,r = .value v) ∧ w' = w ∧ ∀ w2,Ext w w2 → (execOp ρ o).run P w2 = .ok r w2
def GrowOp (P : Program) (o : Oper) (ρ : Operand → Value) : Prop:=∀ w r w',(execOp ρ o).run P w = .ok r w' → (∃ v,r = .value v) ∧ Ext w w'
theorem run_value {s : Sem Value} {w w' : World} {r : Next} (h : (do pure (.value (← s)) : Sem Next).run P w = .ok r w') : ∃ v,r = .value v ∧ s.run P w = .ok v w':=by
 rw [Sem.run_bind] at h
 cases hr : s.run P w with
 | halt _ _=>rw [hr] at h;cases h
 | ok v w1=>rw [hr] at h;cases h;exact ⟨v,rfl,rfl⟩
theorem FreeOp.of {o : Oper} {ρ : Operand → Value} {s : Sem Value} (he : execOp ρ o = (do pure (.value (← s)) : Sem Next)) (hs : Free P s) : FreeOp P o ρ:=by
 intro w r w' h
 rw [he] at h
 obtain ⟨v,rfl,h1⟩:=run_value h
 obtain ⟨rfl,h2⟩:=hs _ _ _ h1
 exact ⟨⟨v,rfl⟩,rfl,fun w2=>by rw [he,Sem.run_bind,h2 w2];rfl⟩
theorem ReadOp.of {o : Oper} {ρ : Operand → Value} {s : Sem Value} (he : execOp ρ o = (do pure (.value (← s)) : Sem Next)) (hs : Reads P s) : ReadOp P o ρ:=by
 intro w r w' h
 rw [he] at h
 obtain ⟨v,rfl,h1⟩:=run_value h
 obtain ⟨rfl,h2⟩:=hs _ _ _ h1
 exact ⟨⟨v,rfl⟩,rfl,fun w2 hw=>by rw [he,Sem.run_bind,h2 w2 hw];rfl⟩
theorem GrowOp.of {o : Oper} {ρ : Operand → Value} {s : Sem Value} (he : execOp ρ o = (do pure (.value (← s)) : Sem Next)) (hs : Grows P s) : GrowOp P o ρ:=by
 intro w r w' h
 rw [he] at h
 obtain ⟨v,rfl,h1⟩:=run_value h
 exact ⟨⟨v,rfl⟩,hs _ _ _ h1⟩
theorem FreeOp.read {o : Oper} {ρ : Operand → Value} (h : FreeOp P o ρ) : ReadOp P o ρ:=fun w r w' e=>⟨(h w r w' e).1,(h w r w' e).2.1,fun w2 _=>(h w r w' e).2.2 w2⟩
theorem ReadOp.grow {o : Oper} {ρ : Operand → Value} (h : ReadOp P o ρ) : GrowOp P o ρ:=fun w r w' e=>⟨(h w r w' e).1,(h w r w' e).2.1 ▸ Ext.refl _⟩
def constNil : Operand → Bool
 | .const v=>isNil v
 | _=>false
def nilSide (op : BinOp) (x y : Operand) : Bool:=(op == .eql || op == .neq) && (constNil x || constNil y)
def tmpsOf (l : List Operand) : List Tmp:=l.filterMap fun | .tmp t=>some t | _=>none
def needs (o : Oper) : List Tmp:=
 match o.op with
 | .binOp op _ x y _=>if nilSide op x y then [] else tmpsOf [x,y]
 | .convert _ _ x=>tmpsOf [x]
 | _=>[]
def flatConst : Operand → Bool
 | .const v=>flat v
 | .tmp _=>true
 | _=>false
def textual : Option TypeDesc → Bool
 | some .string | some (.slice _) | some (.array ..)=>true
 | _=>false
def intOnly : Option TypeDesc → Bool
 | some (.int _)=>true
 | _=>false
def freeB (P : Program) (o : Oper) : Bool:=
 match o.op with
 | .move _ | .assign _ | .pick .. | .build .. | .nilCheck _ | .unOp .. | .makeInterface .. | .makeFunc .. | .field .. | .indexAddr .. | .index .. | .slice .. | .extract ..=>true
 | .fieldAddr s _ i=>match P.underlying s with
   | some (.struct fs)=>match fs[i]? with | some f=>P.cellsOf f.type != 0 | none=>true
   | _=>true
 | .binOp op t x y _=>
   if nilSide op x y then nilable (P.underlying t)
   else flatConst x && flatConst y
 | .convert s t x=>intOnly (P.underlying s) && intOnly (P.underlying t) && flatConst x
 | .call { callee:=.builtin .len,argTypes,.. }=>match argTypes[0]? with | some t=>textual (P.underlying t) | none=>true
 | _=>false
theorem mem_tmpsOf {l : List Operand} {t : Tmp} (h : Operand.tmp t ∈ l) : t ∈ tmpsOf l:=List.mem_filterMap.2 ⟨_,h,rfl⟩
theorem freeOp_of {o : Oper} {ρ : Operand → Value} (h : freeB P o = true) (hn : ∀ t ∈ needs o,flat (ρ (.tmp t)) = true) (hc : ∀ v,ρ (.const v) = v) : FreeOp P o ρ:=by
 obtain ⟨dst,op,type,pos,after,guard⟩:=o
 have fl : ∀ {l : List Operand} {x : Operand},x ∈ l → (∀ t ∈ tmpsOf l,flat (ρ (.tmp t)) = true) → flatConst x = true → flat (ρ x) = true:=fun {l x} hx hl hf=>by
  cases x with
  | tmp t=>exact hl t (mem_tmpsOf hx)
  | const v=>rw [hc];exact hf
  | global g=>cases hf
  | func f=>cases hf
 cases op <;> try (simp only [freeB,Bool.false_eq_true] at h;done)
 case move x=>exact fun w r w' e=>by cases e;exact ⟨⟨_,rfl⟩,rfl,fun _=>rfl⟩
 case assign x=>exact fun w r w' e=>by cases e;exact ⟨⟨_,rfl⟩,rfl,fun _=>rfl⟩
 case pick c a b=>
  refine FreeOp.of (s:=do pure (if ← asBool (ρ c) then ρ a else ρ b)) ?_ ((Free.asBool _).bind fun _=>Free.pure _)
  simp only [execOp,bind_assoc,pure_bind]
 case build t ps=>exact FreeOp.of rfl (Free.build _ _)
 case unOp op t x=>exact FreeOp.of rfl (Free.unary _ _)
 case makeInterface t x=>exact FreeOp.of rfl (Free.makeInterface _ _)
 case makeFunc f a b=>exact FreeOp.of rfl (Free.pure _)
 case field t x i=>exact FreeOp.of rfl (Free.field _ _ _)
 case indexAddr t x i=>exact FreeOp.of rfl (Free.indexAt _ _ _)
 case index t x i=>exact FreeOp.of rfl (Free.index _ _ _)
 case slice t x a b c=>exact FreeOp.of rfl (Free.sliceAt _ _ _ _ _)
 case extract x i=>exact FreeOp.of rfl (Free.extract _ _)
 case fieldAddr t x i=>
  refine FreeOp.of rfl (Free.fieldAt _ _ _ fun fs f h1 h2=>?_)
  simp only [freeB,h1,h2,bne_iff_ne] at h
  exact h
 case nilCheck x=>
  simp only [FreeOp,execOp]
  intro w r w' e
  have main : ∀ s : Sem Next,Free P s → (∀ w r w',s.run P w = .ok r w' → ∃ v,r = .value v) → s.run P w = .ok r w' → (∃ v,r = .value v) ∧ w' = w ∧ ∀ w2,s.run P w2 = .ok r w2:=
   fun s hs hv he=>⟨hv _ _ _ he,hs _ _ _ he⟩
  revert e
  split
  · exact main _ (Free.runtimePanic _) fun w r w' h=>absurd h (Dies.runtimePanic _ _ _ _)
  · exact main _ (Free.runtimePanic _) fun w r w' h=>absurd h (Dies.runtimePanic _ _ _ _)
  · exact main _ (Free.runtimePanic _) fun w r w' h=>absurd h (Dies.runtimePanic _ _ _ _)
  · split
    · exact main _ (Free.runtimePanic _) fun w r w' h=>absurd h (Dies.runtimePanic _ _ _ _)
    · refine main _ (Free.program.bind fun p=>(Free.nilAhead _ _ _ _).bind fun b=>Free.ite ((Free.unsupported _).bind fun _=>Free.pure _) (Free.pure _)) fun w r w' h=>?_
      simp only [Go.program,Sem.run_bind,Sem.run,Result.andThen_ok] at h
      cases hr : (Go.nilAhead _ _ _ _).run P w with
      | halt _ _=>rw [hr] at h;cases h
      | ok b w1=>
        rw [hr] at h
        simp only [Result.andThen_ok] at h
        split at h
        · cases h
        · cases h;exact ⟨_,rfl⟩
    · exact main _ (Free.pure _) fun w r w' h=>by cases h;exact ⟨_,rfl⟩
  · exact main _ (Free.pure _) fun w r w' h=>by cases h;exact ⟨_,rfl⟩
 case binOp op t x y yt=>
  refine FreeOp.of rfl ?_
  by_cases hN : nilSide op x y = true
  · simp only [freeB,hN,if_true] at h
    simp only [nilSide,Bool.and_eq_true,Bool.or_eq_true,beq_iff_eq] at hN
    have hy : isNil (ρ x) = true ∨ isNil (ρ y) = true:=by
     rcases hN.2 with h1 | h1
     · cases x <;> simp_all [constNil]
     · cases y <;> simp_all [constNil]
    exact (Free.eqGuardNil _ _ _ _ _ _ hy).bind fun _=>Free.binNil _ _ _ _ hN.1 h hy
  · simp only [freeB,hN,if_false,Bool.and_eq_true,Bool.false_eq_true] at h
    simp only [needs,hN,if_false,Bool.false_eq_true] at hn
    have hx:=fl (x:=x) (l:=[x,y]) (by simp) hn h.1
    have hy:=fl (x:=y) (l:=[x,y]) (by simp) hn h.2
    exact (Free.eqGuard _ _ _ _ _ _ hx hy).bind fun _=>Free.binOp _ _ _ _ hx hy
 case convert src dst x=>
  refine FreeOp.of rfl ?_
  simp only [freeB,Bool.and_eq_true] at h
  have hx:=fl (x:=x) (l:=[x]) (by simp) hn h.2
  unfold Go.convert
  refine Free.bind_of (fun d=>P.underlying src = some d) (Free.underlying src) (fun w a w' h=>run_underlying_eq h) fun d1 h1=>?_
  refine Free.bind_of (fun d=>P.underlying dst = some d) (Free.underlying dst) (fun w a w' h=>run_underlying_eq h) fun d2 h2=>?_
  rw [h1,h2] at h
  cases d1 <;> simp only [intOnly,Bool.false_eq_true,false_and] at h
  cases d2 <;> simp only [Bool.false_eq_true,false_and,and_false] at h
  cases hv : ρ x <;> rw [hv] at hx <;> simp only [flat,Bool.false_eq_true] at hx <;> first | exact Free.pure _ | exact Free.unsupported _
 case call c=>
  obtain ⟨callee,args,argTypes⟩:=c
  cases callee <;> try (simp only [freeB,Bool.false_eq_true] at h;done)
  rename_i b
  cases b <;> try (simp only [freeB,Bool.false_eq_true] at h;done)
  refine FreeOp.of rfl (Free.len _ _ _ fun t ht=>?_)
  simp only [freeB,ht] at h
  cases hd : P.underlying t with
  | none=>rw [hd] at h;cases h
  | some d=>rw [hd] at h;cases d <;> simp_all [textual]
theorem Ext.cell {w w2 : World} (h : Ext w w2) {a : Addr} {v : Value} (hc : w.cell? a = some v) : w2.cell? a = some v:=by
 unfold World.cell? at *
 have hb : a.block < w.heap.size:=by
  rcases Nat.lt_or_ge a.block w.heap.size with h1 | h1
  · exact h1
  · rw [Array.getElem?_eq_none h1] at hc;cases hc
 rw [h.old _ hb];exact hc
theorem Ext.some {w w2 : World} (h : Ext w w2) {b : Nat} {o : Obj} (hc : w.heap[b]? = some o) : w2.heap[b]? = some o:=by
 have hb : b < w.heap.size:=(Array.getElem?_eq_some_iff.1 hc).1
 rw [h.old _ hb];exact hc
theorem Ext.seen {w w2 : World} (h : Ext w w2) {at_ : Addr} {u : TypeId} {k : Addr} {x : Array Value × TypeId × (Nat × Nat) × Nat × Value × List (Nat × Nat × List UInt8)}
 (hs : w.seen P at_ u k false = .ok x) : w2.seen P at_ u k false = .ok x:=by
 have : w.heap[at_.block]? = w2.heap[at_.block]? ∨ w.heap[at_.block]? = none:=by
  rcases Nat.lt_or_ge at_.block w.heap.size with h1 | h1
  · exact .inl (h.old _ h1).symm
  · exact .inr (Array.getElem?_eq_none h1)
 rcases this with h1 | h1
 · unfold World.seen at *;rw [← h1];exact hs
 · exfalso
   revert hs
   unfold World.seen
   rw [h1]
   simp only [bind,Except.bind]
   repeat' (first | (intro hs;cases hs;done) | split)
theorem Reads.load (a : Addr) : Reads P (Go.load a):=by
 intro w r w' e
 rw [run_load] at e
 split at e
 · rename_i v hv
   cases e
   exact ⟨rfl,fun w2 h=>by rw [run_load,h.cell hv]⟩
 · rename_i hv
   split at e
   · rename_i v t hf
     cases e
     refine ⟨rfl,fun w2 h=>?_⟩
     unfold World.farLoad at hf
     split at hf
     · rename_i at_ u hb
       split at hf
       · rename_i r2 hr2
         cases hf
         have hb2:=h.some hb
         have hc2 : w2.cell? a = none:=by unfold World.cell?;rw [hb2]
         rw [run_load,hc2]
         unfold World.farLoad
         rw [hb2]
         dsimp only
         have hv2 : w2.viewLoad P at_ u a ((Mode.plain) == .atomic) = .ok (r,t):=by
          unfold World.viewLoad at hr2 ⊢
          have e0 : ((Mode.plain) == Mode.atomic) = false:=rfl
          rw [e0] at hr2 ⊢
          cases hs : w.seen P at_ u a false with
          | error x=>rw [hs] at hr2;cases hr2
          | ok x=>rw [h.seen hs];rw [hs] at hr2;exact hr2
         rw [hv2]
       · cases hf
     · cases hf
   · cases e
theorem Reads.loadCellsFrom (a : Addr) (n : Nat) : ∀ (i : Nat) (acc : Array Value),Reads P (Go.loadCellsFrom a i n acc):=by
 induction n with
 | zero=>intro i acc;exact (Free.pure _).reads
 | succ n ih=>intro i acc;exact (Reads.load _).bind fun _=>ih _ _
theorem Reads.loadVar (t : TypeId) (a : Addr) : Reads P (Go.loadVar t a):=by
 unfold Go.loadVar
 refine (Free.isAgg t).reads.bind fun b=>Reads.ite ?_ (Reads.load a)
 exact (Free.sizeOf t).reads.bind fun n=>(Reads.loadCellsFrom a n 0 #[]).bind fun _=>(Free.pure _).reads
theorem Reads.loadAt (t : TypeId) (v : Value) : Reads P (Instr.loadAt t v):=(Free.sureAddr v).reads.bind fun a=>Reads.loadVar t a
theorem Grows.newObj (o : Obj) : Grows P (Go.newObj o):=by
 intro w r w' e
 simp only [Go.newObj,Sem.run] at e
 cases e
 exact ⟨by simp,fun b hb=>by simp [Array.getElem?_push,Nat.ne_of_lt hb]⟩
theorem Grows.newVar (t : TypeId) (v : Value) : Grows P (Go.newVar t v):=(Grows.newObj _).bind fun _=>(Free.pure _).reads.grows
theorem Grows.alloc (t : TypeId) : Grows P (Instr.alloc t true (.tuple #[])):=by
 unfold Instr.alloc
 exact (Free.zeroValue t).reads.grows.bind fun z=>(Grows.newVar t z).bind fun _=>(Free.pure _).reads.grows
theorem Grows.box (t : TypeId) (v : Value) : Grows P (Instr.box t v):=(Grows.newVar t v).bind fun _=>(Free.pure _).reads.grows
theorem Grows.buildSlice (t : TypeId) (n : Nat) (ps : Array (Nat × Value)) : Grows P (Instr.buildSlice t n ps):=by
 unfold Instr.buildSlice
 have fr : ∀ {α : Type} {s : Sem α},Free P s → Grows P s:=fun h=>h.reads.grows
 refine (fr (Free.underlying t)).bind fun d=>?_
 split
 · refine (fr (Free.sizeOf _)).bind fun sz=>?_
   dsimp only
   repeat' first | exact fr (Free.unsupported _) | exact fr (Free.stuck _) | exact fr (Free.pure _) | exact fr (Free.zeroValue _) | exact Grows.newObj _ | refine Grows.bind ?_ fun _=>?_ | split
 · exact fr (Free.stuck _)
def readB (P : Program) (o : Oper) : Bool:=freeB P o || (match o.op with | .load ..=>true | _=>false)
def growB (P : Program) (o : Oper) : Bool:=readB P o || (match o.op with | .alloc _ | .box .. | .buildSlice ..=>true | _=>false)
theorem readOp_of {o : Oper} {ρ : Operand → Value} (h : readB P o = true) (hn : ∀ t ∈ needs o,flat (ρ (.tmp t)) = true) (hc : ∀ v,ρ (.const v) = v) : ReadOp P o ρ:=by
 simp only [readB,Bool.or_eq_true] at h
 rcases h with h | h
 · exact (freeOp_of h hn hc).read
 · obtain ⟨dst,op,type,pos,after,guard⟩:=o
   cases op <;> try (simp only [Bool.false_eq_true] at h;done)
   exact ReadOp.of rfl (Reads.loadAt _ _)
theorem growOp_of {o : Oper} {ρ : Operand → Value} (h : growB P o = true) (hn : ∀ t ∈ needs o,flat (ρ (.tmp t)) = true) (hc : ∀ v,ρ (.const v) = v) : GrowOp P o ρ:=by
 simp only [growB,Bool.or_eq_true] at h
 rcases h with h | h
 · exact (readOp_of h hn hc).grow
 · obtain ⟨dst,op,type,pos,after,guard⟩:=o
   cases op <;> try (simp only [Bool.false_eq_true] at h;done)
   · exact GrowOp.of rfl (Grows.alloc _)
   · exact GrowOp.of rfl (Grows.box _ _)
   · exact GrowOp.of rfl (Grows.buildSlice _ _ _)
def flatAt (a : Act) (t : Tmp) : Bool:=flat ((a.tmps[t]?).getD undef)
def Tot (ns : List Tmp) (Q : Exit → Act → World → Prop) : Exit → Act → World → Prop
 | .normal,a,w=>(ns.all (flatAt a) = true) ∧ Q .normal a w
 | _,_,_=>False
theorem tot_done {ns : List Tmp} {Q : Exit → Act → World → Prop} {a : Act} {w : World} (h : ns.all (flatAt a) = true) (hq : Q .normal a w) : Tot ns Q .normal a w:=⟨h,hq⟩
theorem not_lets {ns : List Tmp} {Q : Exit → Act → World → Prop} : ¬ LetsOut (Tot ns Q):=fun ⟨_,_,h⟩=>h
section
variable {ops : Array Oper} {md : Region.Mode} {ns : List Tmp} {Q : Exit → Act → World → Prop}
theorem wpOp_some {i : Nat} {K : Act → World → Prop} {a : Act} {w : World} (h : wpOp P ops (Tot ns Q) i K a w) :
 ∃ a' w',K a' w' ∧ ∀ t,(∀ o,ops[i]? = some o → o.dst ≠ some t) → a'.tmps[t]? = a.tmps[t]?:=by
 have put : ∀ (a : Act) (d : Option Tmp) (v : Value) (t : Tmp),d ≠ some t → (a.put d v).tmps[t]? = a.tmps[t]?:=fun a d v t hd=>by
  cases d with
  | none=>rfl
  | some d=>simp only [Act.put];exact Array.getElem?_setIfInBounds_ne (fun e=>hd (by rw [e]))
 unfold wpOp at h
 cases ho : ops[i]? with
 | none=>simp only [ho] at h;exact ⟨a,w,h,fun t _=>rfl⟩
 | some o=>
   simp only [ho] at h
   split at h
   · rcases h with h | ⟨_,h⟩
     case inr=>exact absurd h not_lets
     unfold Oper.wp at h
     generalize (execOp a.eval o).run P w = r at h
     cases r with
     | ok n w'=>
       cases n <;> simp only [Oper.upon] at h
       case value u=>exact ⟨_,_,h,fun t ht=>put a _ _ t (ht o rfl)⟩
       case skip=>exact ⟨_,_,h,fun t ht=>put a _ _ t (ht o rfl)⟩
       case defer d=>exact ⟨_,_,h,fun t ht=>put { a with defers:=d :: a.defers } _ _ t (ht o rfl)⟩
       case enter f args=>
        obtain ⟨e,w'',fr,hR,_⟩:=h []
        cases e with
        | returned v=>exact ⟨_,_,hR,fun t ht=>put a _ _ t (ht o rfl)⟩
        | panicked c=>exact hR.elim
        | outgrown=>exact absurd hR not_lets
       case row row args=>
        obtain ⟨v,w'',hR,_⟩:=h default []
        exact ⟨_,_,hR,fun t ht=>put a _ _ t (ht o rfl)⟩
     | halt x w'=>cases x <;> simp only [Oper.upon] at h;exact h.elim
   · exact ⟨_,_,h,fun t ht=>put a _ _ t (ht o rfl)⟩
theorem flat_now {t : Tmp} (ht : t ∈ ns) : ∀ (f : Nat) (listed : Array Bool) (a : Act) (w : World),wpAny P md ops (Tot ns Q) f listed a w →
 (∀ k o,ops[k]? = some o → o.dst = some t → listed.getD k true = true) → flatAt a t = true:=by
 intro f
 induction f with
 | zero=>intro listed a w h _;exact List.all_eq_true.1 h.2.1 t ht
 | succ f ih=>
   intro listed a w h hd
   cases hr : Region.ready md ops listed with
   | nil=>exact List.all_eq_true.1 (h.1 hr).1 t ht
   | cons i rs=>
     have hi : i ∈ Region.ready md ops listed:=by rw [hr];simp
     obtain ⟨a',w',hk,hkeep⟩:=wpOp_some (h.2 i hi)
     have hun:=(mem_ready.1 hi).1
     have:=ih _ a' w' hk (fun k o hk ho=>by
      by_cases hik : i = k
      · subst hik;have:=hd i o hk ho;rw [hun] at this;cases this
      · rw [getD_set_ne true hik];exact hd k o hk ho)
     have he:=hkeep t (fun o ho hdst=>by have:=hd i o ho hdst;rw [hun] at this;cases this)
     unfold flatAt at this ⊢
     rw [he] at this
     exact this
theorem yields_of {j : Nat} {oj : Oper} {K : Act → World → Prop} {a : Act} {w : World} (hj : ops[j]? = some oj) (hf : FreeOp P oj a.eval)
 (h : wpOp P ops (Tot ns Q) j K a w) : ∃ u,Yields P ops oj u a ∧ K (a.put oj.dst u) w:=by
 unfold wpOp at h
 simp only [hj] at h
 split at h
 · rename_i hw
   rcases h with h | ⟨_,h⟩
   case inr=>exact absurd h not_lets
   unfold Oper.wp at h
   cases hr : (execOp a.eval oj).run P w with
   | ok n w'=>
     obtain ⟨⟨v,rfl⟩,rfl,h2⟩:=hf _ _ _ hr
     rw [hr] at h
     exact ⟨v,.inl ⟨hw,h2⟩,h⟩
   | halt x w'=>rw [hr] at h;cases x <;> simp only [Oper.upon] at h;exact h.elim
 · rename_i hw
   exact ⟨undef,.inr ⟨by simpa using hw,rfl⟩,h⟩
theorem yields_one {o : Oper} {u u' : Value} {a : Act} (h : Yields P ops o u a) (h' : Yields P ops o u' a) : u = u':=by
 rcases h with ⟨h1,h2⟩ | ⟨h1,h2⟩ <;> rcases h' with ⟨h3,h4⟩ | ⟨h3,h4⟩
 · have:=(h2 default).symm.trans (h4 default)
   cases this;rfl
 · rw [h1] at h3;cases h3
 · rw [h1] at h3;cases h3
 · rw [h2,h4]
theorem flatAt_eval {a : Act} {t : Tmp} (h : flatAt a t = true) : flat (a.eval (.tmp t)) = true:=by
 unfold flatAt at h
 simpa [Act.eval] using h
theorem needs_looks {o : Oper} {t : Tmp} (h : t ∈ needs o) : t ∈ o.looksAt ops:=by
 refine List.mem_append_left _ ?_
 have key : ∀ l : List Operand,t ∈ tmpsOf l → (∀ x ∈ l,x ∈ o.op.operands.toList) → t ∈ (o.op.operands.toList.filterMap fun | .tmp t=>some t | _=>none):=fun l ht hl=>by
  obtain ⟨x,hx,hxt⟩:=List.mem_filterMap.1 ht
  exact List.mem_filterMap.2 ⟨x,hl x hx,hxt⟩
 unfold needs at h
 split at h
 · rename_i heq
   split at h
   · cases h
   · exact key _ h (by rw [heq];simp [Op.operands])
 · rename_i heq
   exact key _ h (by rw [heq];simp [Op.operands])
 · cases h
theorem plain_at {j : Nat} {oj : Oper} {K : Act → World → Prop} (hj : ops[j]? = some oj) (hfl : ∀ a w,K a w → ∀ t ∈ needs oj,flatAt a t = true)
 (hnd : ∀ t ∈ needs oj,oj.dst ≠ some t) {a : Act} {w : World} (h : wpOp P ops (Tot ns Q) j K a w) : ∀ t ∈ needs oj,flat (a.eval (.tmp t)) = true:=by
 intro t ht
 obtain ⟨a',w',hk,hkeep⟩:=wpOp_some h
 have h1:=hfl a' w' hk t ht
 have h2:=hkeep t (fun o ho=>by rw [hj] at ho;cases ho;exact hnd t ht)
 refine flatAt_eval ?_
 unfold flatAt at h1 ⊢
 rw [← h2];exact h1
theorem swap_right {i j : Nat} {oi oj : Oper} {K : Act → World → Prop} {a : Act} {w : World} (hi : ops[i]? = some oi) (hj : ops[j]? = some oj) (hap : oi.apart ops oj = true)
 (hsi : ∀ cs b,oi.op ≠ .select cs b) (hsj : ∀ cs b,oj.op ≠ .select cs b) (hfl : ∀ a w,K a w → ∀ t ∈ needs oj,flatAt a t = true) (hnd : ∀ t ∈ needs oj,oj.dst ≠ some t)
 (hfree : freeB P oj = true) (h : wpOp P ops (Tot ns Q) i (wpOp P ops (Tot ns Q) j K) a w) : wpOp P ops (Tot ns Q) j (wpOp P ops (Tot ns Q) i K) a w:=by
 obtain ⟨h1,h2,h3⟩:=Oper.apart_spec hap
 have hfo : ∀ a' w',wpOp P ops (Tot ns Q) j K a' w' → FreeOp P oj a'.eval:=fun a' w' h'=>freeOp_of hfree (plain_at hj hfl hnd h') fun _=>rfl
 have key : ∀ (b : Act) v w1,b.tmps = a.tmps → wpOp P ops (Tot ns Q) j K (b.put oi.dst v) w1 → ∃ u,Yields P ops oj u a ∧ K ((b.put oj.dst u).put oi.dst v) w1:=fun b v w1 hb h'=>by
  obtain ⟨u,hy,hk⟩:=yields_of hj (hfo _ _ h') h'
  have hy1 : Yields P ops oj u b:=hy.of_same (execOp_put oj hsj b oi.dst v h1).symm (wanted_put oj b oi.dst v h1).symm
  have hev : b.eval = a.eval:=by funext x;cases x <;> simp [Act.eval,hb]
  have hy2 : Yields P ops oj u a:=hy1.of_same (by rw [hev]) (by rw [hb])
  exact ⟨u,hy2,by rw [← Act.put_comm b v u h2];exact hk⟩
 have same : ∀ u,execOp (a.put oj.dst u).eval oi = execOp a.eval oi:=fun u=>execOp_put oi hsi a oj.dst u h3
 have samew : ∀ u,Region.wanted oi (yielded ops (a.put oj.dst u).tmps) = Region.wanted oi (yielded ops a.tmps):=fun u=>wanted_put oi a oj.dst u h3
 unfold wpOp at h
 simp only [hi] at h
 by_cases hw : Region.wanted oi (yielded ops a.tmps) = true
 · simp only [hw,if_true] at h
   rcases h with h | ⟨_,h⟩
   case inr=>exact absurd h not_lets
   unfold Oper.wp at h
   have fin : ∀ (u : Value),Yields P ops oj u a → oi.wp P (a.put oj.dst u) w K (Tot ns Q) → wpOp P ops (Tot ns Q) j (wpOp P ops (Tot ns Q) i K) a w:=fun u hy hk=>by
    refine hy.wpOp hj ?_
    unfold wpOp
    simp only [hi,samew u,hw,if_true]
    exact .inl hk
   cases hr : (execOp a.eval oi).run P w with
   | ok n w'=>
     rw [hr] at h
     cases n <;> simp only [Oper.upon] at h
     case value v=>
      obtain ⟨u,hy,hk⟩:=key a v w' rfl h
      exact fin u hy (by unfold Oper.wp;rw [same u,hr];exact hk)
     case skip=>
      obtain ⟨u,hy,hk⟩:=key a undef w' rfl h
      exact fin u hy (by unfold Oper.wp;rw [same u,hr];exact hk)
     case defer d=>
      obtain ⟨u,hy,hk⟩:=key { a with defers:=d :: a.defers } undef w' rfl h
      refine fin u hy ?_
      unfold Oper.wp;rw [same u,hr]
      simp only [Oper.upon]
      rw [Act.put_defers];exact hk
     case enter f args=>
      obtain ⟨e,w'',fr,hR,_⟩:=h []
      cases e with
      | panicked c=>exact hR.elim
      | outgrown=>exact absurd hR not_lets
      | returned v0=>
        obtain ⟨u,hy,_⟩:=key a v0 w'' rfl hR
        refine fin u hy ?_
        unfold Oper.wp;rw [same u,hr]
        simp only [Oper.upon]
        refine Calls.mono h fun e w2 he=>?_
        cases e with
        | panicked c=>exact he
        | outgrown=>exact he
        | returned v=>
          obtain ⟨u',hy',hk⟩:=key a v w2 rfl he
          rw [yields_one hy hy'];exact hk
     case row row args=>
      obtain ⟨v0,w'',hR,_⟩:=h default []
      obtain ⟨u,hy,_⟩:=key a v0 w'' rfl hR
      refine fin u hy ?_
      unfold Oper.wp;rw [same u,hr]
      simp only [Oper.upon]
      refine Rows.mono h fun v w2 he=>?_
      obtain ⟨u',hy',hk⟩:=key a v w2 rfl he
      rw [yields_one hy hy'];exact hk
   | halt x w'=>rw [hr] at h;cases x <;> simp only [Oper.upon] at h;exact h.elim
 · simp only [hw] at h
   obtain ⟨u,hy,hk⟩:=key a undef w rfl h
   refine hy.wpOp hj ?_
   unfold wpOp
   simp only [hi,samew u,hw]
   exact hk
theorem swap_left {i j : Nat} {oi oj : Oper} {K : Act → World → Prop} {a : Act} {w : World} (hi : ops[i]? = some oi) (hj : ops[j]? = some oj) (hap : oi.apart ops oj = true)
 (hsi : ∀ cs b,oi.op ≠ .select cs b) (hsj : ∀ cs b,oj.op ≠ .select cs b) (hfl : ∀ a w,K a w → ∀ t ∈ needs oi,flatAt a t = true) (hnd : ∀ t ∈ needs oi,oi.dst ≠ some t)
 (hfree : freeB P oi = true) (h : wpOp P ops (Tot ns Q) i (wpOp P ops (Tot ns Q) j K) a w) : wpOp P ops (Tot ns Q) j (wpOp P ops (Tot ns Q) i K) a w:=by
 obtain ⟨h1,h2,h3⟩:=Oper.apart_spec hap
 have hfo : FreeOp P oi a.eval:=freeOp_of hfree (plain_at (K:=wpOp P ops (Tot ns Q) j K) hi (fun a w hk t ht=>by
  obtain ⟨a',w',hk',hkeep⟩:=wpOp_some hk
  have e1:=hfl a' w' hk' t ht
  have e2:=hkeep t (fun o ho hd=>by rw [hj] at ho;cases ho;exact h3 t hd (needs_looks ht))
  unfold flatAt at e1 ⊢
  rw [← e2];exact e1) hnd h) fun _=>rfl
 obtain ⟨v,hy,hk⟩:=yields_of hi hfo h
 exact wpOp_mono (fun a' w' ⟨hy',hk'⟩=>hy'.wpOp hi hk') (wpOp_put hj hap hsi hsj (fun c a w h=>h.elim) hy hk)
theorem swap_read {i j : Nat} {oi oj : Oper} {K : Act → World → Prop} {a : Act} {w : World} (hi : ops[i]? = some oi) (hj : ops[j]? = some oj) (hap : oi.apart ops oj = true)
 (hsi : ∀ cs b,oi.op ≠ .select cs b) (hsj : ∀ cs b,oj.op ≠ .select cs b) (hfi : ∀ a w,K a w → ∀ t ∈ needs oi,flatAt a t = true) (hni : ∀ t ∈ needs oi,oi.dst ≠ some t)
 (hfj : ∀ a w,K a w → ∀ t ∈ needs oj,flatAt a t = true) (hnj : ∀ t ∈ needs oj,oj.dst ≠ some t)
 (hri : readB P oi = true) (hgj : growB P oj = true) (h : wpOp P ops (Tot ns Q) i (wpOp P ops (Tot ns Q) j K) a w) : wpOp P ops (Tot ns Q) j (wpOp P ops (Tot ns Q) i K) a w:=by
 obtain ⟨h1,h2,h3⟩:=Oper.apart_spec hap
 have hro : ReadOp P oi a.eval:=readOp_of hri (plain_at (K:=wpOp P ops (Tot ns Q) j K) hi (fun a w hk t ht=>by
  obtain ⟨a',w',hk',hkeep⟩:=wpOp_some hk
  have e1:=hfi a' w' hk' t ht
  have e2:=hkeep t (fun o ho hd=>by rw [hj] at ho;cases ho;exact h3 t hd (needs_looks ht))
  unfold flatAt at e1 ⊢
  rw [← e2];exact e1) hni h) fun _=>rfl
 have hgo : ∀ a' w',wpOp P ops (Tot ns Q) j K a' w' → GrowOp P oj a'.eval:=fun a' w' h'=>growOp_of hgj (plain_at hj hfj hnj h') fun _=>rfl
 have samei : ∀ u,execOp (a.put oj.dst u).eval oi = execOp a.eval oi:=fun u=>execOp_put oi hsi a oj.dst u h3
 have samewi : ∀ u,Region.wanted oi (yielded ops (a.put oj.dst u).tmps) = Region.wanted oi (yielded ops a.tmps):=fun u=>wanted_put oi a oj.dst u h3
 -- what the second one comes to,behind the first one's value
 have second : ∀ v (next : Act → World → Prop),wpOp P ops (Tot ns Q) j K (a.put oi.dst v) w → (∀ u w1,Ext w w1 → K ((a.put oj.dst u).put oi.dst v) w1 → next (a.put oj.dst u) w1) → wpOp P ops (Tot ns Q) j next a w:=fun v next h' hn=>by
  have hg : GrowOp P oj a.eval:=by have:=hgo _ _ h';unfold GrowOp at *;rw [execOp_put oj hsj a oi.dst v h1] at this;exact this
  unfold wpOp at h' ⊢
  simp only [hj] at h' ⊢
  rw [wanted_put oj a oi.dst v h1] at h'
  split at h'
  · rename_i hw
    simp only [hw,if_true]
    rcases h' with h' | ⟨_,h'⟩
    case inr=>exact absurd h' not_lets
    refine .inl ?_
    unfold Oper.wp at h' ⊢
    rw [execOp_put oj hsj a oi.dst v h1] at h'
    cases hr : (execOp a.eval oj).run P w with
    | ok n w'=>
      obtain ⟨⟨u,rfl⟩,hext⟩:=hg _ _ _ hr
      rw [hr] at h'
      exact hn u w' hext (by rw [← Act.put_comm a v u h2];exact h')
    | halt x w'=>rw [hr] at h';cases x <;> simp only [Oper.upon] at h';exact h'.elim
  · rename_i hw
    simp only [hw]
    exact hn undef w (Ext.refl w) (by rw [← Act.put_comm a v undef h2];exact h')
 unfold wpOp at h
 simp only [hi] at h
 by_cases hw : Region.wanted oi (yielded ops a.tmps) = true
 · simp only [hw,if_true] at h
   rcases h with h | ⟨_,h⟩
   case inr=>exact absurd h not_lets
   unfold Oper.wp at h
   cases hr : (execOp a.eval oi).run P w with
   | ok n w'=>
     obtain ⟨⟨v,rfl⟩,rfl,hall⟩:=hro _ _ _ hr
     rw [hr] at h
     refine second v _ h fun u w1 hext hk=>?_
     unfold wpOp
     simp only [hi,samewi u,hw,if_true]
     refine .inl ?_
     unfold Oper.wp
     rw [samei u,hall w1 hext]
     exact hk
   | halt x w'=>rw [hr] at h;cases x <;> simp only [Oper.upon] at h;exact h.elim
 · simp only [hw] at h
   refine second undef _ h fun u w1 hext hk=>?_
   unfold wpOp
   simp only [hi,samewi u,hw]
   exact hk
def maskOf (md : Region.Mode) (acc : List Nat) (o : Oper) : Nat:=o.after.toList.foldl (fun s e=>if Region.binds md e then s ||| 2 ^ e.on ||| acc.getD e.on 0 else s) 0
def masks (md : Region.Mode) : List Oper → List Nat → List Nat
 | [],acc=>acc
 | o :: l,acc=>masks md l (acc ++ [maskOf md acc o])
theorem masks_prefix (l : List Oper) : ∀ acc : List Nat,acc <+: masks md l acc:=by
 induction l with
 | nil=>intro acc;exact List.prefix_refl _
 | cons o l ih=>intro acc;exact (List.prefix_append _ _).trans (ih _)
theorem masks_at (l : List Oper) : ∀ (acc : List Nat) (j : Nat) (o : Oper),l[j]? = some o →
 ∃ pre,pre.length = acc.length + j ∧ pre <+: masks md l acc ∧ (masks md l acc).getD (acc.length + j) 0 = maskOf md pre o:=by
 induction l with
 | nil=>intro acc j o h;cases h
 | cons o' l ih=>
   intro acc j o h
   cases j with
   | zero=>
     cases h
     obtain ⟨r,hr⟩:=masks_prefix (md:=md) l (acc ++ [maskOf md acc o'])
     refine ⟨acc,rfl,masks_prefix (o' :: l) acc,?_⟩
     show (masks md l (acc ++ [maskOf md acc o'])).getD _ 0 = _
     rw [← hr]
     simp [List.getD]
   | succ j=>
     obtain ⟨pre,h1,h2,h3⟩:=ih (acc ++ [maskOf md acc o']) j o (by simpa using h)
     refine ⟨pre,by simp at h1;omega,h2,?_⟩
     have e : acc.length + (j + 1) = (acc ++ [maskOf md acc o']).length + j:=by simp;omega
     rw [e];exact h3
theorem maskOf_bit {acc : List Nat} {i : Nat} (l : List Edge) : ∀ s : Nat,(l.foldl (fun s e=>if Region.binds md e then s ||| 2 ^ e.on ||| acc.getD e.on 0 else s) s).testBit i = true →
 s.testBit i = true ∨ ∃ e ∈ l,Region.binds md e = true ∧ (e.on = i ∨ (acc.getD e.on 0).testBit i = true):=by
 induction l with
 | nil=>intro s h;exact .inl h
 | cons e l ih=>
   intro s h
   rcases ih _ h with h1 | ⟨e',he',hb⟩
   · dsimp only at h1
     split at h1
     · rename_i hb
       simp only [Nat.testBit_or,Bool.or_eq_true,Nat.testBit_two_pow,decide_eq_true_eq] at h1
       rcases h1 with (h1 | h1) | h1
       · exact .inl h1
       · exact .inr ⟨e,by simp,hb,.inl h1⟩
       · exact .inr ⟨e,by simp,hb,.inr h1⟩
     · exact .inl h1
   · exact .inr ⟨e',by simp [he'],hb⟩
def Closed (md : Region.Mode) (ops : Array Oper) (listed : Array Bool) : Prop:=
 ∀ j oj,ops[j]? = some oj → listed.getD j false = true → ∀ e ∈ oj.after,Region.binds md e = true → listed.getD e.on false = true
theorem mask_listed {listed : Array Bool} (hc : Closed md ops listed) {i : Nat} : ∀ (j : Nat) (oj : Oper),ops[j]? = some oj → (∀ e ∈ oj.after,Region.binds md e = true → listed.getD e.on false = true) →
 ((masks md ops.toList []).getD j 0).testBit i = true → listed.getD i false = true:=by
 intro j
 induction j using Nat.strongRecOn with
 | _ j ih=>
   intro oj hj hall hbit
   obtain ⟨pre,h1,h2,h3⟩:=masks_at (md:=md) ops.toList [] j oj (by simpa using hj)
   simp only [List.length_nil,Nat.zero_add] at h1 h3
   rw [h3] at hbit
   rcases maskOf_bit _ _ hbit with h | ⟨e,he,hb,h⟩
   · simp at h
   · have hel:=hall e (by simpa using he) hb
     rcases h with h | h
     · rw [← h];exact hel
     · have hlt : e.on < j:=by
        rcases Nat.lt_or_ge e.on j with h' | h'
        · exact h'
        · rw [List.getD_eq_getElem?_getD,List.getElem?_eq_none (by omega)] at h;simp at h
       have hsz : j < ops.size:=(Array.getElem?_eq_some_iff.1 hj).1
       obtain ⟨oe,hoe⟩ : ∃ o,ops[e.on]? = some o:=⟨_,Array.getElem?_eq_getElem (by omega)⟩
       refine ih e.on hlt oe hoe (hc e.on oe hoe hel) ?_
       obtain ⟨r,hr⟩:=h2
       rw [← hr]
       rw [List.getD_eq_getElem?_getD] at h ⊢
       rw [List.getElem?_append_left (by omega)]
       exact h
theorem Closed.set {listed : Array Bool} {i : Nat} (hc : Closed md ops listed) (hi : i ∈ Region.ready md ops listed) : Closed md ops (listed.setIfInBounds i true):=by
 obtain ⟨_,oi,hoi,hall⟩:=mem_ready.1 hi
 intro j oj hj hl e he hb
 by_cases hij : i = j
 · subst hij
   have : oj = oi:=Option.some.inj (hj.symm.trans hoi)
   subst this
   exact getD_set_true (hall e he hb)
 · rw [getD_set_ne false hij] at hl
   exact getD_set_true (hc j oj hj hl e he hb)
def swapB (P : Program) (ops : Array Oper) (a b : Oper) : Bool:=a.apart ops b && (freeB P b || freeB P a || (readB P a && growB P b))
def needsB (ops : Array Oper) (M : List Nat) (ns : List Tmp) : Bool:=
 (List.range ops.size).all fun j=>match ops[j]? with
   | some o=>(needs o).all fun t=>ns.contains t && o.dst != some t && (List.range ops.size).all fun k=>match ops[k]? with
     | some ok=>ok.dst != some t || (M.getD j 0).testBit k
     | none=>true
   | none=>true
theorem needsB_spec {M : List Nat} (h : needsB ops M ns = true) {j : Nat} {o : Oper} (hj : ops[j]? = some o) {t : Tmp} (ht : t ∈ needs o) :
 t ∈ ns ∧ o.dst ≠ some t ∧ ∀ k ok,ops[k]? = some ok → ok.dst = some t → (M.getD j 0).testBit k = true:=by
 have h1:=List.all_eq_true.1 h j (List.mem_range.2 (Array.getElem?_eq_some_iff.1 hj).1)
 simp only [hj] at h1
 have h2:=List.all_eq_true.1 h1 t ht
 simp only [Bool.and_eq_true,bne_iff_ne,List.contains_iff_mem] at h2
 refine ⟨h2.1.1,h2.1.2,fun k ok hk hd=>?_⟩
 have h3:=List.all_eq_true.1 h2.2 k (List.mem_range.2 (Array.getElem?_eq_some_iff.1 hk).1)
 simp only [hk,Bool.or_eq_true,bne_iff_ne] at h3
 exact h3.resolve_left (fun h=>h hd)
theorem any_first {i : Nat} {oi : Oper} (hi : ops[i]? = some oi) (hsel : ∀ (j : Nat) (o : Oper) cs b,ops[j]? = some o → o.op ≠ .select cs b)
 (hnb : needsB ops (masks md ops.toList []) ns = true) :
 ∀ (fuel : Nat) (listed : Array Bool) (a : Act) (w : World),Closed md ops listed →
  (∀ j oj,ops[j]? = some oj → j ≠ i → listed.getD j true = false → ((masks md ops.toList []).getD j 0).testBit i = false → swapB P ops oi oj = true) →
  i ∈ Region.ready md ops listed →
  wpOp P ops (Tot ns Q) i (wpAny P md ops (Tot ns Q) fuel (listed.setIfInBounds i true)) a w → wpAny P md ops (Tot ns Q) (fuel + 1) listed a w:=by
 intro fuel
 induction fuel with
 | zero=>
   intro listed a w _ _ hr H
   refine ⟨fun h=>(by rw [h] at hr;cases hr),fun j hj=>?_⟩
   by_cases hji : j = i
   · subst hji;exact H
   · obtain ⟨a',w',hk,_⟩:=wpOp_some H
     have:=ready_mono hj hji
     rw [hk.1] at this
     cases this
 | succ fuel ih=>
   intro listed a w hcl hfree hr H
   refine ⟨fun h=>(by rw [h] at hr;cases hr),fun j hj=>?_⟩
   by_cases hji : j = i
   · subst hji;exact H
   · obtain ⟨hjun,oj,hoj,hall⟩:=mem_ready.1 hj
     obtain ⟨hiun,oi',hoi',halli⟩:=mem_ready.1 hr
     have hbit : ((masks md ops.toList []).getD j 0).testBit i = false:=by
      cases hb : ((masks md ops.toList []).getD j 0).testBit i with
      | false=>rfl
      | true=>
        have h1:=mask_listed hcl j oj hoj hall hb
        rcases Nat.lt_or_ge i listed.size with h' | h'
        · simp [h'] at hiun h1;rw [hiun] at h1;cases h1
        · simp [Array.getElem?_eq_none h'] at h1
     have hsw:=hfree j oj hoj hji hjun hbit
     have H1 : wpOp P ops (Tot ns Q) i (wpOp P ops (Tot ns Q) j (wpAny P md ops (Tot ns Q) fuel ((listed.setIfInBounds i true).setIfInBounds j true))) a w:=
      wpOp_mono (fun a' w' h'=>h'.2 j (ready_mono hj hji)) H
     have hri:=hr
     have hcl1:=hcl.set hr
     have hcl2:=hcl1.set (ready_mono hj hji)
     have flatK : ∀ (k : Nat) (ok : Oper),ops[k]? = some ok → (∀ e ∈ ok.after,Region.binds md e = true → listed.getD e.on false = true) → ∀ a' w',wpAny P md ops (Tot ns Q) fuel ((listed.setIfInBounds i true).setIfInBounds j true) a' w' → ∀ t ∈ needs ok,flatAt a' t = true:=by
      intro k ok hk hk2 a' w' hK t ht
      obtain ⟨hn1,_,hn3⟩:=needsB_spec hnb hk ht
      refine flat_now hn1 fuel _ a' w' hK fun q oq hq hd=>?_
      have hl:=mask_listed hcl k ok hk hk2 (hn3 q oq hq hd)
      have hl2:=getD_set_true (i:=j) (getD_set_true (i:=i) hl)
      rcases Nat.lt_or_ge q ((listed.setIfInBounds i true).setIfInBounds j true).size with h' | h'
      · rw [Array.getD_eq_getD_getElem?,Array.getElem?_eq_getElem h'] at hl2 ⊢
        exact hl2
      · rw [Array.getD_eq_getD_getElem?,Array.getElem?_eq_none h'];rfl
     have hnd : ∀ (k : Nat) (ok : Oper),ops[k]? = some ok → ∀ t ∈ needs ok,ok.dst ≠ some t:=fun k ok hk t ht=>(needsB_spec hnb hk ht).2.1
     have h2 : wpOp P ops (Tot ns Q) j (wpOp P ops (Tot ns Q) i (wpAny P md ops (Tot ns Q) fuel ((listed.setIfInBounds i true).setIfInBounds j true))) a w:=by
      simp only [swapB,Bool.and_eq_true,Bool.or_eq_true] at hsw
      have hi2 : oi' = oi:=Option.some.inj (hoi'.symm.trans hi)
      subst hi2
      rcases hsw.2 with (h3 | h3) | h3
      · exact swap_right hi hoj hsw.1 (fun cs b=>hsel i _ cs b hi) (fun cs b=>hsel j oj cs b hoj) (flatK j oj hoj hall) (hnd j oj hoj) h3 H1
      · exact swap_left hi hoj hsw.1 (fun cs b=>hsel i _ cs b hi) (fun cs b=>hsel j oj cs b hoj) (flatK i _ hi halli) (hnd i _ hi) h3 H1
      · exact swap_read hi hoj hsw.1 (fun cs b=>hsel i _ cs b hi) (fun cs b=>hsel j oj cs b hoj) (flatK i _ hi halli) (hnd i _ hi) (flatK j oj hoj hall) (hnd j oj hoj) h3.1 h3.2 H1
     refine wpOp_mono (fun a' w' h3=>ih (listed.setIfInBounds j true) a' w' (hcl.set hj) ?_ (ready_mono hr (Ne.symm hji)) ?_) h2
     · intro k ok hk hki hun hb
       refine hfree k ok hk hki ?_ hb
       by_cases hjk : j = k
       · subst hjk;exact hjun
       · rw [getD_set_ne true hjk] at hun;exact hun
     · rw [Array.setIfInBounds_comm _ _ hji]
       exact h3
def textFrom (P : Program) (md : Region.Mode) (ops : Array Oper) (M : List Nat) : Nat → Nat → Array Bool → Bool
 | 0,_,listed=>(Region.ready md ops listed).isEmpty
 | f + 1,k,listed=>(Region.ready md ops listed).contains k &&
    ((List.range ops.size).all fun j=>listed.getD j true || j == k || (M.getD j 0).testBit k || (match ops[k]?,ops[j]? with | some a,some b=>swapB P ops a b | _,_=>true)) &&
    textFrom P md ops M f (k + 1) (listed.setIfInBounds k true)
def allNeeds (ops : Array Oper) : List Tmp:=(ops.toList.flatMap needs).eraseDups
def textB (P : Program) (ops : Array Oper) : Bool:=
 Region.noSelect ops && needsB ops (masks .any ops.toList []) (allNeeds ops) && textFrom P .any ops (masks .any ops.toList []) ops.size 0 (Array.replicate ops.size false)
theorem any_text (hs : Region.noSelect ops = true) (hnb : needsB ops (masks md ops.toList []) ns = true) : ∀ (l : List Oper) (k : Nat) (listed : Array Bool) (a : Act) (w : World),(∀ j,l[j]? = ops[k + j]?) →
 Closed md ops listed → textFrom P md ops (masks md ops.toList []) l.length k listed = true → wpList P ops (Tot ns Q) l a w → wpAny P md ops (Tot ns Q) l.length listed a w
 | [],_,_,_,_,_,_,hB,h=>⟨by simpa [textFrom] using hB,h⟩
 | o :: l,k,listed,a,w,hl,hcl,hB,h=>by
   have h0 : ops[k]? = some o:=by simpa using (hl 0).symm
   simp only [List.length_cons,textFrom,Bool.and_eq_true] at hB
   obtain ⟨⟨hr,hf⟩,hB'⟩:=hB
   have hr' : k ∈ Region.ready md ops listed:=by simpa using hr
   refine any_first h0 (Region.noSelect_spec hs) hnb l.length listed a w hcl (fun j oj hj hne hun hbit=>?_) hr' ?_
   · have h1:=List.all_eq_true.1 hf j (List.mem_range.2 (Array.getElem?_eq_some_iff.1 hj).1)
     simp only [Bool.or_eq_true,beq_iff_eq] at h1
     rw [h0,hj] at h1
     rcases h1 with ((h1 | h1) | h1) | h1
     · rw [hun] at h1;cases h1
     · exact absurd h1 hne
     · rw [hbit] at h1;cases h1
     · exact h1
   · unfold wpList at h
     unfold wpOp
     simp only [h0]
     have ih:=fun a w=>any_text hs hnb l (k + 1) (listed.setIfInBounds k true) a w (fun j=>by have:=hl (j + 1);simpa [Nat.add_assoc,Nat.add_comm 1 j] using this) (hcl.set hr') hB'
     split at h
     · rename_i hw
       simp only [hw,if_true]
       exact h.imp (Oper.wp_mono ih) id
     · rename_i hw
       simp only [hw]
       exact ih _ _ h
theorem Tot.all {e : Exit} {a : Act} {w : World} (h : Tot ns Q e a w) : Q e a w:=by
 cases e <;> first | exact h.2 | exact h.elim
theorem wpOp_tot {i : Nat} {K K' : Act → World → Prop} {a : Act} {w : World} (hK : ∀ a w,K a w → K' a w) (h : wpOp P ops (Tot ns Q) i K a w) : wpOp P ops Q i K' a w:=by
 unfold wpOp at *
 cases ho : ops[i]? with
 | none=>simp only [ho] at h ⊢;exact hK _ _ h
 | some o=>
   simp only [ho] at h ⊢
   split at h
   · rename_i hw
     simp only [hw,if_true]
     rcases h with h | ⟨_,h⟩
     case inr=>exact absurd h not_lets
     refine .inl ?_
     unfold Oper.wp at *
     generalize (execOp a.eval o).run P w = r at *
     cases r with
     | ok n w'=>
       cases n <;> simp only [Oper.upon] at h ⊢ <;> first
        | exact hK _ _ h
        | exact Calls.mono h (fun e w'' he=>by cases e <;> first | exact hK _ _ he | exact he.elim | exact absurd he not_lets)
        | exact Rows.mono h (fun _ _ he=>hK _ _ he)
     | halt x w'=>cases x <;> simp only [Oper.upon] at h ⊢ <;> exact h.elim
   · rename_i hw
     simp only [hw]
     exact hK _ _ h
theorem any_tot : ∀ (fuel : Nat) (listed : Array Bool) (a : Act) (w : World),wpAny P md ops (Tot ns Q) fuel listed a w → wpAny P md ops Q fuel listed a w
 | 0,_,_,_,h=>⟨h.1,h.2.all⟩
 | f + 1,_,_,_,h=>⟨fun e=>(h.1 e).all,fun i hi=>wpOp_tot (any_tot f _) (h.2 i hi)⟩
theorem wp_region_text {id : Nat} {l : List Oper} {a : Act} {w : World} (hm : P.follows .mixedOrders = true) (hB : textB P l.toArray = true)
 (h : wpList P l.toArray (Tot (allNeeds l.toArray) Q) l a w.drew) : (Code.region id l.toArray true).wp P Q a w:=by
 simp only [textB,Bool.and_eq_true] at hB
 refine wp_region_any hm (any_tot _ _ _ _ (?_ : wpAny P .any l.toArray (Tot (allNeeds l.toArray) Q) _ _ _ _))
 have hc : Closed .any l.toArray (Array.replicate l.toArray.size false):=fun j oj _ hl=>by
  rw [Array.getD_eq_getD_getElem?] at hl
  by_cases hj : j < l.toArray.size
  · rw [Array.getElem?_replicate,if_pos hj] at hl;cases hl
  · rw [Array.getElem?_replicate,if_neg hj] at hl;cases hl
 have:=any_text hB.1.1 hB.1.2 l 0 (Array.replicate l.toArray.size false) a { w with drawn:=w.drawn + 1 } (by simp) hc (by simpa using hB.2) h
 simpa using this
end
end
end Go.Proofs.YtmjljoaakdocaaaGreatDoor.Reg
