import Derived.WalkKit
import Derived.KernelRfl
import Derived.Laws.StructEq
/- Laws on memory for walks: what keeps its blocks, an aggregate loaded and stored whole, '==' on structs of plain cells, a map by such keys. Over any program. -/
namespace Go.Proofs.YtmjljoaakdocaaaGreatDoor
open Go Go.RowKit
open List (set_cons_succ set_cons_zero setIfInBounds_toArray cons_append nil_append)
structure Below (B : Nat) (w w' : World) : Prop where
 os : w'.os = w.os
 tape : w'.tape = w.tape
 output : w'.output = w.output
 size : w.heap.size ≤ w'.heap.size
 block : ∀ k,k < B → w'.heap[k]? = w.heap[k]?
 drawn : w.drawn ≤ w'.drawn
theorem Below.to {B : Nat} {w w' : World} (h : Below B w w') : Go.RowKit.Below B w w':=⟨h.os,h.tape,h.output,h.size,h.block⟩
theorem Below.refl (B : Nat) (w : World) : Below B w w:=⟨rfl,rfl,rfl,Nat.le_refl _,fun _ _=>rfl,Nat.le_refl _⟩
theorem Below.trans {B : Nat} {a b c : World} (h : Below B a b) (k : Below B b c) : Below B a c:=
 ⟨k.os.trans h.os,k.tape.trans h.tape,k.output.trans h.output,Nat.le_trans h.size k.size,fun i hi=>(k.block i hi).trans (h.block i hi),Nat.le_trans h.drawn k.drawn⟩
theorem Below.mono {B B' : Nat} {w w' : World} (h : Below B w w') (hB : B' ≤ B) : Below B' w w':=⟨h.os,h.tape,h.output,h.size,fun k hk=>h.block k (Nat.lt_of_lt_of_le hk hB),h.drawn⟩
theorem Below.heap_alloc (w : World) (o : Obj) (k : Nat) (h : k < w.heap.size) : (w.alloc o).heap[k]? = w.heap[k]?:=Go.RowKit.Below.heap_alloc w o k h
theorem Below.alloc {B : Nat} {a w : World} (h : Below B a w) (hB : B ≤ w.heap.size) (o : Obj) : Below B a (w.alloc o):=
 h.trans ⟨rfl,rfl,rfl,by simp,fun k hk=>Below.heap_alloc _ _ _ (by omega),Nat.le_refl _⟩
theorem Below.cell {B : Nat} {w w' : World} (h : Below B w w') {p : Addr} (hp : p.block < B) : w'.cell? p = w.cell? p:=h.to.cell hp
theorem Below.frozen {B : Nat} {w w' : World} (h : Below B w w') {p : Addr} (hp : p.block < B) : w'.frozen? p = w.frozen? p:=h.to.frozen hp
end Go.Proofs.YtmjljoaakdocaaaGreatDoor
namespace Go.Proofs.YtmjljoaakdocaaaGreatDoor.Mem
open Go Go.RowKit
open List (set_cons_succ set_cons_zero setIfInBounds_toArray cons_append nil_append)
structure Keep (S : Nat → Prop) (w w' : World) : Prop where
 os : w'.os = w.os
 tape : w'.tape = w.tape
 output : w'.output = w.output
 size : w.heap.size ≤ w'.heap.size
 block : ∀ b,b < w.heap.size → ¬ S b → w'.heap[b]? = w.heap[b]?
 drawn : w.drawn ≤ w'.drawn
theorem Keep.refl (S : Nat → Prop) (w : World) : Keep S w w:=⟨rfl,rfl,rfl,Nat.le_refl _,fun _ _ _=>rfl,Nat.le_refl _⟩
theorem Keep.trans {S T U : Nat → Prop} {a b c : World} (h : Keep S a b) (k : Keep T b c) (hU : ∀ x,x < a.heap.size → ¬ U x → ¬ S x ∧ ¬ T x) : Keep U a c:=
 ⟨k.os.trans h.os,k.tape.trans h.tape,k.output.trans h.output,Nat.le_trans h.size k.size,fun x hx hn=>(k.block x (Nat.lt_of_lt_of_le hx h.size) (hU x hx hn).2).trans (h.block x hx (hU x hx hn).1),Nat.le_trans h.drawn k.drawn⟩
theorem Keep.mono {S T : Nat → Prop} {a b : World} (h : Keep S a b) (hT : ∀ x,x < a.heap.size → ¬ T x → ¬ S x) : Keep T a b:=
 ⟨h.os,h.tape,h.output,h.size,fun x hx hn=>h.block x hx (hT x hx hn),h.drawn⟩
theorem Keep.drew {S : Nat → Prop} {a w : World} (h : Keep S a w) : Keep S a w.drew:=⟨h.os,h.tape,h.output,h.size,h.block,Nat.le_trans h.drawn (Nat.le_succ _)⟩
theorem Keep.alloc {S : Nat → Prop} {a w : World} (h : Keep S a w) (o : Obj) : Keep S a (w.alloc o):=
 ⟨h.os,h.tape,h.output,Nat.le_trans h.size (by simp),fun x hx hn=>by rw [Below.heap_alloc _ _ _ (Nat.lt_of_lt_of_le hx h.size)];exact h.block x hx hn,h.drawn⟩
theorem Keep.of_below {S : Nat → Prop} {w w' : World} (h : Below w.heap.size w w') : Keep S w w':=⟨h.os,h.tape,h.output,h.size,fun b hb _=>h.block b hb,h.drawn⟩
theorem Keep.below {w w' : World} (h : Keep (fun _=>False) w w') : Below w.heap.size w w':=⟨h.os,h.tape,h.output,h.size,fun b hb=>h.block b hb id,h.drawn⟩
theorem Keep.grown {S : Nat → Prop} {a w w' : World} {row : Option Nat} (h : Keep S a w) (hg : w.grownBy w' row) (hd : w.drawn ≤ w'.drawn) (hr : ∀ k,row = some k → S k ∨ a.heap.size ≤ k) : Keep S a w':=
 ⟨hg.os.trans h.os,hg.tape.trans h.tape,hg.output.trans h.output,Nat.le_trans h.size hg.size,fun x hx hn=>(hg.block x (Nat.lt_of_lt_of_le hx h.size) (fun e=>by
   rcases hr x e.symm with h1 | h1;exact hn h1;omega)).trans (h.block x hx hn),Nat.le_trans h.drawn hd⟩
def gOk (g : Option (Nat × Bool)) (ops : Array Oper) (a : Act) : Bool:=match g with | none=>true | some (j,b)=>yielded ops a.tmps j == some b
theorem wpList_ok {P : Program} {ops : Array Oper} {o : Oper} {rest : List Oper} {a : Act} {w : World} {Q : Exit → Act → World → Prop} (hg : gOk o.guard ops a = true)
 (h : ∀ K : Act → World → Prop,(∀ a w,wpList P ops Q rest a w → K a w) → o.wp P a w K Q) : wpList P ops Q (o :: rest) a w:=
 wpList_step fun K hK=>by
  have : Region.wanted o (yielded ops a.tmps) = true:=by
   unfold Region.wanted;unfold gOk at hg
   cases hgd : o.guard with
   | none=>rfl
   | some x=>rw [hgd] at hg;exact hg
  simp only [this,if_true];exact h K hK
theorem cell_of {w : World} {R : Nat} {cs : Array Value} {e : TypeId} {fr : Nat × Nat} (h : w.heap[R]? = some (.cells cs e fr)) (o : Nat) : w.cell? ⟨R,o,none⟩ = cs[o]?:=by simp [World.cell?,h]
theorem frozen_of {w : World} {R : Nat} {cs : Array Value} {e : TypeId} (h : w.heap[R]? = some (.cells cs e (0,0))) (o : Nat) : w.frozen? ⟨R,o,none⟩ = false:=by simp [World.frozen?,h]
def aggB (P : Program) (t : TypeId) (k : Nat) : Bool:=
 (match P.underlying t with | some (.struct _) | some (.array ..)=>true | _=>false) && (match P.info? t with | some i=>i.size == k | none=>false)
section
variable {P : Program}
theorem run_isAgg_agg {t k : Nat} (h : aggB P t k = true) (w : World) : (isAgg t).run P w = .ok true w:=by
 simp only [aggB,Bool.and_eq_true] at h
 cases hd : P.underlying t with
 | none=>rw [hd] at h;simp at h
 | some d=>rw [hd] at h;cases d <;> simp_all [isAgg,run_underlying hd]
theorem run_sizeOf_agg {t k : Nat} (h : aggB P t k = true) (w : World) : (sizeOf t).run P w = .ok k w:=by
 simp only [aggB,Bool.and_eq_true] at h
 cases hi : P.info? t with
 | none=>rw [hi] at h;simp at h
 | some i=>rw [hi] at h;simp only [beq_iff_eq] at h;simp [sizeOf,typeInfo,hi,h.2,program,Sem.run,Sem.run_bind]
theorem run_loadCells (b o : Nat) (w : World) : ∀ (vs : List Value) (i : Nat) (acc : Array Value),(∀ j v,vs[j]? = some v → w.cell? ⟨b,o + i + j,none⟩ = some v) →
 (loadCellsFrom ⟨b,o,none⟩ i vs.length acc).run P w = .ok (acc ++ vs.toArray) w:=by
 intro vs
 induction vs with
 | nil=>intro i acc _;simp [loadCellsFrom]
 | cons v vs ih=>
   intro i acc h
   have h0:=h 0 v rfl
   have hadd : (⟨b,o,none⟩ : Addr).add i = ⟨b,o + i,none⟩:=by unfold Addr.add;split <;> simp_all
   simp only [List.length_cons,loadCellsFrom,hadd,Sem.run_bind,run_load]
   simp only [Nat.add_zero] at h0
   rw [h0]
   simp only [Result.andThen_ok]
   rw [ih (i + 1) (acc.push v) (fun j u hj=>by have:=h (j + 1) u (by simpa using hj);rw [← this];congr 2;omega)]
   simp
theorem run_loadVar_agg {t : TypeId} {b o : Nat} {w : World} {vs : List Value} (hA : aggB P t vs.length = true) (hc : ∀ j v,vs[j]? = some v → w.cell? ⟨b,o + j,none⟩ = some v) :
 (loadVar t ⟨b,o,none⟩).run P w = .ok (.agg vs.toArray) w:=by
 simp only [loadVar,Sem.run_bind,run_isAgg_agg hA,Result.andThen_ok,if_true,run_sizeOf_agg hA,loadCells]
 rw [run_loadCells b o w vs 0 #[] (by simpa using hc)]
 simp
theorem wpList_load_agg {ops : Array Oper} {rest : List Oper} {a : Act} {w : World} {Q : Exit → Act → World → Prop} {d : Option Tmp} {t tt : TypeId} {p : String} {af : Array Edge} {gd : Option (Nat × Bool)} {x : Operand}
 {b o : Nat} (vs : List Value) (hA : aggB P t vs.length = true) (hx : a.eval x = .pointer (some ⟨b,o,none⟩)) (hc : ∀ j v,vs[j]? = some v → w.cell? ⟨b,o + j,none⟩ = some v)
 (h : wpList P ops Q rest (a.put d (.agg vs.toArray)) w) (hgd : gOk gd ops a = true:=by with_unfolding_all rfl) : wpList P ops Q ({ dst:=d,op:=.load t x,type:=tt,pos:=p,after:=af,guard:=gd } :: rest) a w:=
 wpList_ok hgd fun K hK=>by
  unfold Oper.wp execOp
  simp only [Instr.loadAt,hx,Instr.sureAddr,Sem.run_bind,Sem.run_pure,Result.andThen_ok,run_loadVar_agg hA hc]
  exact hK _ _ h
def splice (cs : Array Value) (o : Nat) (vs : List Value) : Array Value:=(cs.toList.take o ++ vs ++ cs.toList.drop (o + vs.length)).toArray
theorem splice_size {cs : Array Value} {o : Nat} {vs : List Value} (h : o + vs.length ≤ cs.size) : (splice cs o vs).size = cs.size:=by
 simp [splice];omega
theorem setRow_keep {w : World} {R : Nat} {cs : Array Value} : Keep (fun b=>b = R) w (w.setRow R cs):=⟨rfl,rfl,rfl,by simp,fun k _ hk=>setRow_other w R k _ hk,Nat.le_refl _⟩
theorem run_storeVar_agg {t : TypeId} {R o : Nat} {w : World} {vs : List Value} {cs : Array Value} {e : TypeId} (hA : aggB P t vs.length = true) (hR : w.heap[R]? = some (.cells cs e (0,0))) (hfit : o + vs.length ≤ cs.size)
 (h1 : ∀ v ∈ vs,v.oneCell' = true) : (storeVar t ⟨R,o,none⟩ (.agg vs.toArray)).run P w = .ok () (w.setRow R (splice cs o vs)):=by
 have hst:=run_storeCells_at P R o e vs 0 cs w hR (by simpa using hfit) h1
 simp only [storeVar,Sem.run_bind,run_sizeOf_agg hA,Result.andThen_ok,Value.cells,List.size_toArray,ne_eq,not_true,if_false]
 simp only [Nat.add_zero] at hst
 simp only [hst,splice]
theorem wpList_store_agg {ops : Array Oper} {rest : List Oper} {a : Act} {w : World} {Q : Exit → Act → World → Prop} {d : Option Tmp} {t tt : TypeId} {p : String} {af : Array Edge} {gd : Option (Nat × Bool)} {x y : Operand}
 {R o : Nat} {cs : Array Value} {e : TypeId} (vs : List Value) (hA : aggB P t vs.length = true) (hx : a.eval x = .pointer (some ⟨R,o,none⟩)) (hy : a.eval y = .agg vs.toArray)
 (hR : w.heap[R]? = some (.cells cs e (0,0))) (hfit : o + vs.length ≤ cs.size) (h1 : ∀ v ∈ vs,v.oneCell' = true)
 (h : ∀ w',w'.heap[R]? = some (.cells (splice cs o vs) e (0,0)) → Keep (fun b=>b = R) w w' → wpList P ops Q rest (a.put d undef) w') (hgd : gOk gd ops a = true:=by with_unfolding_all rfl) :
 wpList P ops Q ({ dst:=d,op:=.store t x y,type:=tt,pos:=p,after:=af,guard:=gd } :: rest) a w:=
 wpList_ok hgd fun K hK=>by
  unfold Oper.wp execOp
  simp only [Instr.storeAt,hx,hy,Instr.sureAddr,Sem.run_bind,Sem.run_pure,Result.andThen_ok,run_storeVar_agg hA hR hfit h1]
  exact hK _ _ (h _ (setRow_heap w R cs _ e _ hR) setRow_keep)
theorem wpList_store_one {ops : Array Oper} {rest : List Oper} {a : Act} {w : World} {Q : Exit → Act → World → Prop} {d : Option Tmp} {t tt : TypeId} {p : String} {af : Array Edge} {gd : Option (Nat × Bool)} {x y : Operand}
 {R o : Nat} {cs : Array Value} {e : TypeId} (v : Value) (hs : (match P.info? t with | some i=>i.size == 1 | none=>false) = true) (hx : a.eval x = .pointer (some ⟨R,o,none⟩)) (hy : a.eval y = v)
 (hR : w.heap[R]? = some (.cells cs e (0,0))) (hfit : o < cs.size) (h1 : v.oneCell' = true)
 (h : ∀ w',w'.heap[R]? = some (.cells (splice cs o [v]) e (0,0)) → Keep (fun b=>b = R) w w' → wpList P ops Q rest (a.put d undef) w') (hgd : gOk gd ops a = true:=by with_unfolding_all rfl) :
 wpList P ops Q ({ dst:=d,op:=.store t x y,type:=tt,pos:=p,after:=af,guard:=gd } :: rest) a w:=
 wpList_ok hgd fun K hK=>by
  have hcells : v.cells = #[v]:=by cases v <;> first | rfl | (simp [Value.oneCell'] at h1)
  have hz : (sizeOf t).run P w = .ok 1 w:=by
   cases hi : P.info? t with
   | none=>rw [hi] at hs;cases hs
   | some i=>rw [hi] at hs;simp only [beq_iff_eq] at hs;simp [sizeOf,typeInfo,hi,hs,program,Sem.run,Sem.run_bind]
  have hst:=run_storeCells_at P R o e [v] 0 cs w hR (by simp;omega) (by simpa using h1)
  simp only [Nat.add_zero] at hst
  unfold Oper.wp execOp
  simp only [Instr.storeAt,hx,hy,Instr.sureAddr,Sem.run_bind,Sem.run_pure,Result.andThen_ok,storeVar,hcells,hz,ne_eq,not_true,if_false,List.size_toArray,List.length_singleton,hst]
  exact hK _ _ (h _ (setRow_heap w R cs _ e _ hR) setRow_keep)
def layFields (P : Program) (f : TypeId → Option (List TypeDesc)) : List Field → Nat → Option (List TypeDesc)
 | [],_=>some []
 | x :: l,off=>
   if x.name = "_" ∨ x.offset ≠ off then none else
   match f x.type with
   | none=>none
   | some ks=>if P.cellsOf x.type ≠ ks.length then none else
     match layFields P f l (off + ks.length) with
     | none=>none
     | some r=>some (ks ++ r)
def lay (P : Program) : Nat → TypeId → Option (List TypeDesc)
 | 0,_=>none
 | d + 1,t=>match P.underlying t with
   | some (.int k)=>some [.int k]
   | some .bool=>some [.bool]
   | some .string=>some [.string]
   | some (.struct fs)=>if P.stoodInHeld t then none else layFields P (lay P d) fs.toList 0
   | some (.array n e)=>match lay P d e with
     | none=>none
     | some ks=>if P.cellsOf e ≠ ks.length then none else some (List.replicate n ks).flatten
   | _=>none
def fit : TypeDesc → Value → Bool
 | .int k,.int k' _=>k == k'
 | .bool,.bool _=>true
 | .string,.string _=>true
 | _,_=>false
def ceq : Value → Value → Bool
 | .int _ a,.int _ b=>a == b
 | .bool a,.bool b=>a == b
 | .string a,.string b=>a.toList == b.toList
 | _,_=>false
def fits : List TypeDesc → List Value → Bool
 | [],[]=>true
 | k :: ks,v :: vs=>fit k v && fits ks vs
 | _,_=>false
def ceqs : List Value → List Value → Bool
 | [],[]=>true
 | x :: xs,y :: ys=>ceq x y && ceqs xs ys
 | _,_=>false
theorem fits_length : ∀ {ks : List TypeDesc} {vs : List Value},fits ks vs = true → vs.length = ks.length
 | [],[],_=>rfl
 | k :: ks,v :: vs,h=>by simp only [fits,Bool.and_eq_true] at h;simp [fits_length h.2]
 | [],_ :: _,h=>by simp [fits] at h
 | _ :: _,[],h=>by simp [fits] at h
theorem fits_int {k : IntKind} {vs : List Value} (h : fits [.int k] vs = true) : ∃ a,vs = [.int k a]:=by
 cases vs with
 | nil=>cases h
 | cons v vs=>
   cases vs with
   | cons u vs=>simp [fits] at h
   | nil=>
     cases v <;> simp [fits,fit] at h
     subst h;exact ⟨_,rfl⟩
theorem fits_append : ∀ {ks ls : List TypeDesc} {vs : List Value},fits (ks ++ ls) vs = true → fits ks (vs.take ks.length) = true ∧ fits ls (vs.drop ks.length) = true
 | [],ls,vs,h=>⟨by cases vs <;> rfl,by simpa using h⟩
 | k :: ks,ls,[],h=>by simp [fits] at h
 | k :: ks,ls,v :: vs,h=>by
   simp only [cons_append,fits,Bool.and_eq_true] at h
   have:=fits_append h.2
   exact ⟨by simp [fits,h.1,this.1],by simpa using this.2⟩
theorem ceqs_append : ∀ {xs ys : List Value} (n : Nat),n ≤ xs.length → xs.length = ys.length → ceqs xs ys = (ceqs (xs.take n) (ys.take n) && ceqs (xs.drop n) (ys.drop n))
 | xs,ys,0,_,_=>by simp [ceqs]
 | [],_,n + 1,h,_=>by simp at h
 | x :: xs,[],n + 1,_,h=>by simp at h
 | x :: xs,y :: ys,n + 1,h,h2=>by
   simp only [List.take_succ_cons,List.drop_succ_cons,ceqs]
   rw [ceqs_append n (by simpa using h) (by simpa using h2),Bool.and_assoc]
def isAggB (P : Program) (t : TypeId) : Bool:=match P.underlying t with | some (.struct _) | some (.array ..)=>true | _=>false
def whole (P : Program) (t : TypeId) (xs : List Value) : Value:=if isAggB P t then .agg xs.toArray else xs.headD undef
theorem run_isAgg {t : TypeId} {d : TypeDesc} (h : P.underlying t = some d) (w : World) : (isAgg t).run P w = .ok (isAggB P t) w:=by
 unfold isAggB;rw [h]
 cases d <;> simp [isAgg,run_underlying h]
theorem lay_underlying {d : Nat} {t : TypeId} {ks : List TypeDesc} (h : lay P d t = some ks) : ∃ x,P.underlying t = some x:=by
 cases d with
 | zero=>cases h
 | succ d=>unfold lay at h;cases hu : P.underlying t with
   | none=>rw [hu] at h;cases h
   | some x=>exact ⟨x,rfl⟩
theorem run_sizeOf {t : TypeId} {d : TypeDesc} (h : P.underlying t = some d) (w : World) : (sizeOf t).run P w = .ok (P.cellsOf t) w:=by
 unfold Program.underlying at h
 unfold Program.cellsOf
 cases hi : P.info? t with
 | none=>rw [hi] at h;cases h
 | some i=>simp [sizeOf,typeInfo,hi,program,Sem.run,Sem.run_bind]
theorem lay_leaf {d : Nat} {t : TypeId} {ks : List TypeDesc} (h : lay P d t = some ks) (ha : isAggB P t = false) : ks.length = 1:=by
 cases d with
 | zero=>cases h
 | succ d=>
   unfold lay at h;unfold isAggB at ha
   cases hu : P.underlying t with
   | none=>rw [hu] at h;cases h
   | some x=>rw [hu] at h ha;cases x <;> simp at h ha <;> subst h <;> rfl
theorem run_part {d : Nat} {t : TypeId} {ks : List TypeDesc} (h : lay P d t = some ks) (hs : P.cellsOf t = ks.length) (xs : List Value) (off : Nat) (hl : off + ks.length ≤ xs.length) (w : World) :
 (part t xs.toArray off).run P w = .ok (whole P t ((xs.drop off).take ks.length)) w:=by
 obtain ⟨x,hx⟩:=lay_underlying h
 unfold part whole
 simp only [Sem.run_bind,run_isAgg hx,Result.andThen_ok]
 cases ha : isAggB P t with
 | true=>
   simp only [if_true,Sem.run_bind,run_sizeOf hx,Result.andThen_ok,Sem.run_pure,hs]
   congr 2
   simp [List.extract_eq_take_drop]
 | false=>
   have h1:=lay_leaf h ha
   simp only [Bool.false_eq_true,if_false]
   have hlt : off < xs.length:=by omega
   simp only [List.getElem?_toArray,List.getElem?_eq_getElem hlt,Sem.run_pure]
   rw [h1]
   simp [List.head?_take,List.head?_drop,List.getElem?_eq_getElem hlt]
theorem eq_lay (w : World) : ∀ (d : Nat) (t : TypeId) (ks : List TypeDesc),lay P d t = some ks → ∀ (D : Nat) (xs ys : List Value),d ≤ D → fits ks xs = true → fits ks ys = true →
 (Op.equalIn D t (whole P t xs) (whole P t ys)).run P w = .ok (ceqs xs ys) w:=by
 intro d
 induction d with
 | zero=>intro t ks h;cases h
 | succ d ih=>
   intro t ks h D xs ys hD hx hy
   obtain ⟨D,rfl⟩ : ∃ n,D = n + 1:=⟨D - 1,by omega⟩
   unfold lay at h
   unfold whole isAggB
   cases hu : P.underlying t with
   | none=>rw [hu] at h;cases h
   | some u=>
     rw [hu] at h
     cases u <;> simp only [Option.some.injEq,reduceCtorEq] at h
     case bool=>
      subst h
      match xs,ys,hx,hy with
      | [.bool a],[.bool b],_,_=>simp [Op.equalIn,run_underlying hu,ceqs,ceq]
     case string=>
      subst h
      match xs,ys,hx,hy with
      | [.string a],[.string b],_,_=>simp [Op.equalIn,run_underlying hu,ceqs,ceq,beq_toListBytes]
     case int k=>
      subst h
      obtain ⟨a,rfl⟩:=fits_int hx
      obtain ⟨b,rfl⟩:=fits_int hy
      simp [Op.equalIn,run_underlying hu,ceqs,ceq]
     case struct fs=>
      split at h
      · cases h
      · rename_i hst
        have hfs : P.fieldsOf t = fs:=by simp [Program.fieldsOf,hu]
        simp only [if_true]
        rw [run_equalIn_struct w D t _ _ (by rw [hfs];exact hu) (by simpa using hst),hfs]
        have key : ∀ (l : List Field) (off : Nat) (ls : List TypeDesc),layFields P (lay P d) l off = some ls → off + ls.length = xs.length → off + ls.length = ys.length →
         fits ls (xs.drop off) = true → fits ls (ys.drop off) = true → (Op.eqFields D xs.toArray ys.toArray l).run P w = .ok (ceqs (xs.drop off) (ys.drop off)) w:=by
         intro l
         induction l with
         | nil=>
           intro off ls h1 h2 h3 _ _
           cases h1
           simp only [List.length_nil,Nat.add_zero] at h2 h3
           simp [Op.eqFields,List.drop_of_length_le (show xs.length ≤ off by omega),List.drop_of_length_le (show ys.length ≤ off by omega),ceqs]
         | cons f l ihl=>
           intro off ls h1 h2 h3 h4 h5
           simp only [layFields] at h1
           split at h1
           · cases h1
           · rename_i hno
             split at h1
             · cases h1
             · rename_i k1 hk1
               split at h1
               · cases h1
               · rename_i hsz
                 split at h1
                 · cases h1
                 · rename_i r hr
                   cases h1
                   simp only [not_or,Decidable.not_not] at hno hsz
                   rw [List.length_append] at h2 h3
                   obtain ⟨a1,a2⟩:=fits_append h4
                   obtain ⟨b1,b2⟩:=fits_append h5
                   simp only [List.drop_drop] at a2 b2
                   have hrec:=ihl (off + k1.length) r hr (by omega) (by omega) a2 b2
                   have heq:=ih f.type k1 hk1 D ((xs.drop off).take k1.length) ((ys.drop off).take k1.length) (by omega) a1 b1
                   simp only [Op.eqFields,ne_eq,hno.1,not_false_eq_true,if_true,Sem.run_bind,hno.2]
                   rw [run_part hk1 hsz xs off (by omega),Result.andThen_ok,run_part hk1 hsz ys off (by omega),Result.andThen_ok,heq,Result.andThen_ok]
                   rw [ceqs_append (xs:=xs.drop off) (ys:=ys.drop off) k1.length (by simp;omega) (by simp;omega)]
                   cases ceqs ((xs.drop off).take k1.length) ((ys.drop off).take k1.length) with
                   | false=>simp
                   | true=>
                     simp only [Bool.not_true,Bool.false_eq_true,if_false,Bool.true_and,List.drop_drop]
                     exact hrec
        have hl1:=fits_length hx
        have hl2:=fits_length hy
        have:=key fs.toList 0 ks h (by omega) (by omega) (by simpa using hx) (by simpa using hy)
        simpa using this
     case array n e=>
      split at h
      · cases h
      · rename_i k1 hk1
        split at h
        · cases h
        · rename_i hsz
          simp only [Decidable.not_not] at hsz
          cases h
          obtain ⟨u1,hu1⟩:=lay_underlying hk1
          simp only [if_true,Op.equalIn,Sem.run_bind,run_underlying hu,Result.andThen_ok,run_sizeOf hu1,hsz]
          rw [Std.Legacy.Range.forIn_eq_forIn_range']
          simp only [Std.Legacy.Range.size,Nat.sub_zero,Nat.add_sub_cancel,Nat.div_one]
          have key : ∀ (m i : Nat),i + m = n → fits (List.replicate m k1).flatten (xs.drop (i * k1.length)) = true → fits (List.replicate m k1).flatten (ys.drop (i * k1.length)) = true →
           ((forIn (List.range' i m) ((none : Option Bool),()) fun j _=>do
             let a ← part e xs.toArray (j * k1.length)
             let b ← part e ys.toArray (j * k1.length)
             let c ← Op.equalIn D e a b
             if (!c) = true then pure (ForInStep.done (some false,())) else pure (ForInStep.yield (none,()))) : Sem (Option Bool × Unit)).run P w =
           .ok (if ceqs (xs.drop (i * k1.length)) (ys.drop (i * k1.length)) then none else some false,()) w:=by
           intro m
           have hl1:=fits_length hx
           have hl2:=fits_length hy
           simp only [List.length_flatten,List.map_replicate,List.sum_replicate_nat] at hl1 hl2
           induction m with
           | zero=>
             intro i hi _ _
             have e1 : xs.length ≤ i * k1.length:=by rw [hl1,← hi];simp
             have e2 : ys.length ≤ i * k1.length:=by rw [hl2,← hi];simp
             simp [List.drop_of_length_le e1,List.drop_of_length_le e2,ceqs]
           | succ m ihm=>
             intro i hi h4 h5
             rw [List.replicate_succ,List.flatten_cons] at h4 h5
             obtain ⟨a1,a2⟩:=fits_append h4
             obtain ⟨b1,b2⟩:=fits_append h5
             simp only [List.drop_drop] at a2 b2
             have ei : i * k1.length + k1.length = (i + 1) * k1.length:=by rw [Nat.add_mul,Nat.one_mul]
             rw [ei] at a2 b2
             have hle : (i + 1) * k1.length ≤ n * k1.length:=Nat.mul_le_mul_right _ (by omega)
             have hrec:=ihm (i + 1) (by omega) a2 b2
             have heq:=ih e k1 hk1 D ((xs.drop (i * k1.length)).take k1.length) ((ys.drop (i * k1.length)).take k1.length) (by omega) a1 b1
             rw [List.range'_succ,List.forIn_cons]
             simp only [Sem.run_bind]
             rw [run_part hk1 hsz xs _ (by omega),Result.andThen_ok,run_part hk1 hsz ys _ (by omega),Result.andThen_ok,heq,Result.andThen_ok]
             rw [ceqs_append (xs:=xs.drop (i * k1.length)) (ys:=ys.drop (i * k1.length)) k1.length (by simp;omega) (by simp;omega)]
             cases ceqs ((xs.drop (i * k1.length)).take k1.length) ((ys.drop (i * k1.length)).take k1.length) with
             | false=>simp
             | true=>
               simp only [Bool.not_true,Bool.false_eq_true,if_false,Sem.run_pure,Result.andThen_ok,Bool.true_and,List.drop_drop,ei]
               exact hrec
          have:=key n 0 (by omega) (by simpa using hx) (by simpa using hy)
          rw [this]
          simp only [Result.andThen_ok,Nat.zero_mul,List.drop_zero]
          cases ceqs xs ys <;> simp
theorem run_checkKey (w : World) (em : Bool) : ∀ (d : Nat) (t : TypeId) (ks : List TypeDesc),lay P d t = some ks → ∀ (D : Nat) (xs : List Value),d ≤ D → fits ks xs = true → (Instr.checkKey em D t (whole P t xs)).run P w = .ok () w:=by
 intro d
 induction d with
 | zero=>intro t ks h;cases h
 | succ d ih=>
   intro t ks h D xs hD hx
   obtain ⟨D,rfl⟩ : ∃ n,D = n + 1:=⟨D - 1,by omega⟩
   unfold lay at h
   unfold whole isAggB
   cases hu : P.underlying t with
   | none=>rw [hu] at h;cases h
   | some u=>
     rw [hu] at h
     cases u <;> simp only [Option.some.injEq,reduceCtorEq] at h
     case bool=>simp [Instr.checkKey,run_underlying hu]
     case string=>simp [Instr.checkKey,run_underlying hu]
     case int k=>simp [Instr.checkKey,run_underlying hu]
     case struct fs=>
      split at h
      · cases h
      · simp only [if_true,Instr.checkKey,Sem.run_bind,run_underlying hu,Result.andThen_ok]
        have key : ∀ (l : List Field) (off : Nat) (ls : List TypeDesc),layFields P (lay P d) l off = some ls → off + ls.length = xs.length → fits ls (xs.drop off) = true →
         ((forIn l PUnit.unit fun (f : Field) (_ : PUnit) => (if f.name ≠ "_" then do
           let v ← part f.type xs.toArray f.offset
           Instr.checkKey em D f.type v
           pure (ForInStep.yield PUnit.unit) else pure (ForInStep.yield PUnit.unit) : Sem (ForInStep PUnit))) : Sem PUnit).run P w = .ok PUnit.unit w:=by
         intro l
         induction l with
         | nil=>intro off ls h1 h2 h3;simp
         | cons f l ihl=>
           intro off ls h1 h2 h4
           simp only [layFields] at h1
           split at h1
           · cases h1
           · rename_i hno
             split at h1
             · cases h1
             · rename_i k1 hk1
               split at h1
               · cases h1
               · rename_i hsz
                 split at h1
                 · cases h1
                 · rename_i r hr
                   cases h1
                   simp only [not_or,Decidable.not_not] at hno hsz
                   rw [List.length_append] at h2
                   obtain ⟨a1,a2⟩:=fits_append h4
                   simp only [List.drop_drop] at a2
                   have hrec:=ihl (off + k1.length) r hr (by omega) a2
                   have hck:=ih f.type k1 hk1 D ((xs.drop off).take k1.length) (by omega) a1
                   rw [List.forIn_cons]
                   simp only [ne_eq,hno.1,not_false_eq_true,if_true,Sem.run_bind,hno.2]
                   rw [run_part hk1 hsz xs off (by omega),Result.andThen_ok,hck,Result.andThen_ok]
                   simp only [Sem.run_pure,Result.andThen_ok]
                   exact hrec
        have:=key fs.toList 0 ks h (by have:=fits_length hx;omega) (by simpa using hx)
        rw [← Array.forIn_toList,this]
        rfl
     case array n e=>
      split at h
      · cases h
      · rename_i k1 hk1
        split at h
        · cases h
        · rename_i hsz
          simp only [Decidable.not_not] at hsz
          cases h
          obtain ⟨u1,hu1⟩:=lay_underlying hk1
          simp only [if_true,Instr.checkKey,Sem.run_bind,run_underlying hu,Result.andThen_ok]
          rw [Std.Legacy.Range.forIn_eq_forIn_range']
          simp only [Std.Legacy.Range.size,Nat.sub_zero,Nat.add_sub_cancel,Nat.div_one]
          have key : ∀ (m i : Nat),i + m = n → fits (List.replicate m k1).flatten (xs.drop (i * k1.length)) = true →
           ((forIn (List.range' i m) PUnit.unit fun (j : Nat) (_ : PUnit)=>(do
             let sz ← sizeOf e
             let v ← part e xs.toArray (j * sz)
             Instr.checkKey em D e v
             pure (ForInStep.yield PUnit.unit) : Sem (ForInStep PUnit))) : Sem PUnit).run P w = .ok PUnit.unit w:=by
           intro m
           have hl1:=fits_length hx
           simp only [List.length_flatten,List.map_replicate,List.sum_replicate_nat] at hl1
           induction m with
           | zero=>intro i hi _;simp
           | succ m ihm=>
             intro i hi h4
             rw [List.replicate_succ,List.flatten_cons] at h4
             obtain ⟨a1,a2⟩:=fits_append h4
             simp only [List.drop_drop] at a2
             have ei : i * k1.length + k1.length = (i + 1) * k1.length:=by rw [Nat.add_mul,Nat.one_mul]
             rw [ei] at a2
             have hle : (i + 1) * k1.length ≤ n * k1.length:=Nat.mul_le_mul_right _ (by omega)
             have hrec:=ihm (i + 1) (by omega) a2
             have hck:=ih e k1 hk1 D ((xs.drop (i * k1.length)).take k1.length) (by omega) a1
             rw [List.range'_succ,List.forIn_cons]
             simp only [Sem.run_bind,run_sizeOf hu1,Result.andThen_ok,hsz]
             rw [run_part hk1 hsz xs _ (by omega),Result.andThen_ok,hck,Result.andThen_ok]
             simp only [Sem.run_pure,Result.andThen_ok]
             exact hrec
          have:=key n 0 (by omega) (by simpa using hx)
          rw [this]
          rfl
def spot (f : Value → Bool) : List (Value × Value) → Nat → Option (Nat × Value)
 | [],_=>none
 | e :: es,i=>if f e.1 then some (i,e.2) else spot f es (i + 1)
structure Keyed (P : Program) (K : TypeId) {κ : Type} (kv : κ → List Value) [DecidableEq κ] where
 ks : List TypeDesc
 layK : lay P 100 K = some ks
 fit : ∀ k,fits ks (kv k) = true
 inj : ∀ a b,ceqs (kv a) (kv b) = decide (a = b)
variable {K : TypeId} {κ : Type} [DecidableEq κ] {kv : κ → List Value}
def MapOf (P : Program) (w : World) (M : Nat) (K : TypeId) (kv : κ → List Value) (l : List (κ × Value)) : Prop:=
 ∃ es clock,w.heap[M]? = some (.map es clock) ∧ es.toList.map (fun e=>(e.key,e.val)) = l.map fun p=>(whole P K (kv p.1),p.2)
def place (l : List (κ × Value)) (k : κ) : Nat → Option (Nat × Value):=match l with
 | []=>fun _=>none
 | p :: l=>fun i=>if k = p.1 then some (i,p.2) else place l k (i + 1)
theorem run_findAsking (hK : Keyed P K kv) (k : κ) (w : World) : ∀ (es : List MapEntry) (l : List (κ × Value)) (i : Nat),es.map (fun e=>(e.key,e.val)) = l.map (fun p=>(whole P K (kv p.1),p.2)) →
 (Instr.findAsking K (whole P K (kv k)) es i).run P w = .ok (place l k i) w
 | [],[],i,_=>by simp [Instr.findAsking,place]
 | e :: es,p :: l,i,h=>by
   simp only [List.map_cons,List.cons.injEq,Prod.mk.injEq] at h
   obtain ⟨⟨h1,h2⟩,h3⟩:=h
   have he:=eq_lay (P:=P) w 100 K hK.ks hK.layK 10000 (kv k) (kv p.1) (by omega) (hK.fit k) (hK.fit p.1)
   simp only [Instr.findAsking,Op.equal,Op.maxDepth,Sem.run_bind,h1,he,Result.andThen_ok,hK.inj,place]
   by_cases hk : k = p.1
   · simp [hk,h2]
   · simp only [hk,decide_false,Bool.false_eq_true,if_false]
     exact run_findAsking hK k w es l (i + 1) h3
 | [],_ :: _,_,h=>by simp at h
 | _ :: _,[],_,h=>by simp at h
theorem sameNow_ceq {d : TypeDesc} {a b : Value} {r : Bool} (h : Instr.sameNow d a b = some r) : ceq a b = r:=by
 unfold Instr.sameNow at h
 split at h
 · split at h
   · cases h;rfl
   · cases h
 · cases h;simp [ceq,beq_toListBytes]
 · cases h;rfl
 · cases h
theorem leaf_single {d : TypeDesc} {a b : Value} {r : Bool} (h : Instr.sameNow d a b = some r) : (∀ fs,d ≠ .struct fs) ∧ (∀ n e,d ≠ .array n e):=by
 unfold Instr.sameNow at h
 split at h <;> first | (refine ⟨?_,?_⟩ <;> intros <;> intro hc <;> cases hc;done) | cases h
theorem run_findNow (hK : Keyed P K kv) (k : κ) (d : TypeDesc) (hd : P.underlying K = some d) : ∀ (es : List MapEntry) (l : List (κ × Value)) (i : Nat) (r : Option (Nat × Value)),es.map (fun e=>(e.key,e.val)) = l.map (fun p=>(whole P K (kv p.1),p.2)) →
 Instr.findNow d (whole P K (kv k)) es i = some r → r = place l k i
 | [],[],i,r,_,h2=>by simp only [Instr.findNow,Option.some.injEq] at h2;rw [← h2];rfl
 | e :: es,p :: l,i,r,h,h2=>by
   simp only [List.map_cons,List.cons.injEq,Prod.mk.injEq] at h
   obtain ⟨⟨h1,hv⟩,h3⟩:=h
   simp only [Instr.findNow,h1] at h2
   have one : ∀ b,Instr.sameNow d (whole P K (kv k)) (whole P K (kv p.1)) = some b → b = decide (k = p.1):=fun b hb=>by
    obtain ⟨n1,n2⟩:=leaf_single hb
    have ha : isAggB P K = false:=by unfold isAggB;rw [hd];cases d <;> simp_all
    have hlen:=lay_leaf hK.layK ha
    have e1:=(fits_length (hK.fit k)).trans hlen
    have e2:=(fits_length (hK.fit p.1)).trans hlen
    have hq:=sameNow_ceq hb
    have hi:=hK.inj k p.1
    unfold whole at hq
    rw [ha] at hq
    match hkk : kv k,hkp : kv p.1,e1,e2 with
    | [x],[y],_,_=>
      rw [hkk,hkp] at hq hi
      simp only [ceqs,Bool.and_true] at hi
      simp only [Bool.false_eq_true,if_false,List.headD_cons] at hq
      rw [← hq,hi]
   simp only [place]
   cases hs : Instr.sameNow d (whole P K (kv k)) (whole P K (kv p.1)) with
   | none=>rw [hs] at h2;cases h2
   | some b=>
     have hb:=one b hs
     rw [hs] at h2
     by_cases hk : k = p.1
     · rw [hb] at h2;simp only [hk,decide_true,Option.some.injEq] at h2;rw [if_pos hk,← h2,hv]
     · rw [hb] at h2;simp only [hk,decide_false] at h2;rw [if_neg hk];exact run_findNow hK k d hd es l (i + 1) r h3 h2
 | [],_ :: _,_,_,h,_=>by simp at h
 | _ :: _,[],_,_,h,_=>by simp at h
theorem run_findKey (hK : Keyed P K kv) (k : κ) (w : World) (es : List MapEntry) (l : List (κ × Value)) (h : es.map (fun e=>(e.key,e.val)) = l.map (fun p=>(whole P K (kv p.1),p.2))) :
 (Instr.findKey K (whole P K (kv k)) es).run P w = .ok (place l k 0) w:=by
 obtain ⟨d,hd⟩:=lay_underlying hK.layK
 unfold Instr.findKey
 simp only [Sem.run_bind,run_underlying hd,Result.andThen_ok]
 split
 · rename_i r hr;rw [run_findNow hK k d hd es l 0 r h hr];rfl
 · exact run_findAsking hK k w es l 0 h
theorem sameBits_cell {n : Nat} {v : Value} {k : TypeDesc} (h : fit k v = true) : Instr.sameBits n v v = true:=by
 cases k <;> cases v <;> simp [fit] at h <;> cases n <;> simp [Instr.sameBits,beq_toListBytes]
theorem fits_mem : ∀ {ks : List TypeDesc} {vs : List Value},fits ks vs = true → ∀ v ∈ vs,∃ k,fit k v = true
 | [],[],_,v,h=>by simp at h
 | k :: ks,u :: vs,h,v,hv=>by
   simp only [fits,Bool.and_eq_true] at h
   rcases List.mem_cons.1 hv with rfl | hv
   · exact ⟨k,h.1⟩
   · exact fits_mem h.2 v hv
 | [],_ :: _,h,_,_=>by simp [fits] at h
 | _ :: _,[],h,_,_=>by simp [fits] at h
theorem sameBits_whole {ks : List TypeDesc} {vs : List Value} (h : fits ks vs = true) (hl : isAggB P K = false → vs.length = 1) : Instr.sameBits 10000 (whole P K vs) (whole P K vs) = true:=by
 unfold whole
 cases ha : isAggB P K with
 | true=>
   simp only [if_true]
   have : ∀ l : List Value,(∀ v ∈ l,v ∈ vs) → ((l.zip l).all fun (x,y)=>Instr.sameBits 9999 x y) = true:=fun l hl=>by
    induction l with
    | nil=>rfl
    | cons v l ih=>
      simp only [List.zip_cons_cons,List.all_cons,Bool.and_eq_true]
      obtain ⟨k,hk⟩:=fits_mem h v (hl v (by simp))
      exact ⟨sameBits_cell hk,ih fun u hu=>hl u (by simp [hu])⟩
   have:=this vs fun v hv=>hv
   show (vs.toArray.size == vs.toArray.size && _) = true
   simp only [BEq.rfl,Bool.true_and]
   exact this
 | false=>
   have h1:=hl ha
   match vs,h1 with
   | [v],_=>
     obtain ⟨k,hk⟩:=fits_mem h v (by simp)
     simp only [Bool.false_eq_true,if_false,List.headD_cons]
     exact sameBits_cell hk
def MapIs (P : Program) (w : World) (M : Nat) (K : TypeId) (kv : κ → List Value) (m : κ → Option Value) : Prop:=
 ∃ l,MapOf P w M K kv l ∧ (l.map (·.1)).Nodup ∧ ∀ k,m k = (place l k 0).map (·.2)
theorem MapIs.heap {w w' : World} {M : Nat} {m : κ → Option Value} (h : MapIs P w M K kv m) (hb : w'.heap[M]? = w.heap[M]?) : MapIs P w' M K kv m:=by
 obtain ⟨l,⟨es,c,h1,h2⟩,h3⟩:=h
 exact ⟨l,⟨es,c,hb.trans h1,h2⟩,h3⟩
theorem MapIs.lt {w : World} {M : Nat} {m : κ → Option Value} (h : MapIs P w M K kv m) : M < w.heap.size:=by
 obtain ⟨l,⟨es,c,h1,h2⟩,h3⟩:=h
 exact (Array.getElem?_eq_some_iff.1 h1).1
theorem place_none {l : List (κ × Value)} {k : κ} : ∀ {i : Nat},place l k i = none ↔ k ∉ l.map (·.1):=by
 induction l with
 | nil=>intro i;simp [place]
 | cons p l ih=>intro i;simp only [place,List.map_cons,List.mem_cons,not_or];split <;> simp_all
theorem place_some {l : List (κ × Value)} {k : κ} {v : Value} {n : Nat} : ∀ {i : Nat},place l k i = some (n,v) → i ≤ n ∧ l[n - i]? = some (k,v):=by
 induction l with
 | nil=>intro i h;cases h
 | cons p l ih=>
   intro i h
   simp only [place] at h
   split at h
   · rename_i hk;cases h;simp [hk]
   · obtain ⟨h1,h2⟩:=ih h
     refine ⟨by omega,?_⟩
     rw [show n - i = (n - (i + 1)) + 1 by omega]
     simpa using h2
variable {T E : TypeId} {w : World} {M : Nat} {m : κ → Option Value}
theorem run_lookup_is (hK : Keyed P K kv) (hT : P.underlying T = some (.map K E)) {z : Value} (hz : (zeroValue E).run P w = .ok z w) (hM : MapIs P w M K kv m) (k : κ) (ok : Bool) :
 (Instr.lookup T (.map (some M)) (whole P K (kv k)) ok).run P w = .ok (if ok then .tuple #[(m k).getD z,.bool (m k).isSome] else (m k).getD z) w:=by
 obtain ⟨l,⟨es,c,h1,h2⟩,h3,h4⟩:=hM
 have hck:=run_checkKey (P:=P) w es.isEmpty 100 K hK.ks hK.layK 10000 (kv k) (by omega) (hK.fit k)
 have hfk:=run_findKey hK k w es.toList l h2
 unfold Instr.lookup
 simp only [Sem.run_bind,run_underlying hT,Result.andThen_ok,getObj,Sem.run,h1,hck,hfk,Sem.run_pure]
 rw [h4]
 cases place l k 0 with
 | none=>simp [hz]
 | some p=>cases ok <;> rfl
theorem set_keep {w : World} {M : Nat} {o : Obj} : Keep (fun b=>b = M) w { w with heap:=w.heap.setIfInBounds M o }:=
 ⟨rfl,rfl,rfl,by simp,fun b _ hn=>by show (w.heap.setIfInBounds M o)[b]? = _;rw [Array.getElem?_setIfInBounds_ne (fun e=>hn e.symm)],Nat.le_refl _⟩
section
variable {ops : Array Oper} {rest : List Oper} {a : Act} {Q : Exit → Act → World → Prop} {d : Option Tmp} {tt yt : TypeId} {p : String} {af : Array Edge} {gd : Option (Nat × Bool)} {x y z : Operand}
theorem wpList_lookup (hK : Keyed P K kv) (hT : P.underlying T = some (.map K E)) {zv : Value} (hz : ∀ w,(zeroValue E).run P w = .ok zv w) (hM : MapIs P w M K kv m) (k : κ)
 (hx : a.eval x = .map (some M)) (hy : a.eval y = whole P K (kv k)) {v : Value} (hv : (m k).getD zv = v)
 (h : wpList P ops Q rest (a.put d v) w) (hgd : gOk gd ops a = true:=by with_unfolding_all rfl) : wpList P ops Q ({ dst:=d,op:=.lookup T x y false,type:=tt,pos:=p,after:=af,guard:=gd } :: rest) a w:=
 wpList_ok hgd fun _ hK'=>by
  unfold Oper.wp execOp
  simp only [hx,hy,Sem.run_bind,run_lookup_is hK hT (hz w) hM k false,Result.andThen_ok,Bool.false_eq_true,if_false,Sem.run_pure,hv]
  exact hK' _ _ h
theorem wpList_eql_agg {t : TypeId} {ks : List TypeDesc} {xs ys : List Value} (hl : lay P 100 t = some ks) (ha : isAggB P t = true) (hg : P.eqGuardType P.depth t = false) (hfx : fits ks xs = true) (hfy : fits ks ys = true)
 (hx : a.eval x = .agg xs.toArray) (hy : a.eval y = .agg ys.toArray) {b : Bool} (hb : ceqs xs ys = b)
 (h : wpList P ops Q rest (a.put d (.bool b)) w) (hgd : gOk gd ops a = true:=by with_unfolding_all rfl) : wpList P ops Q ({ dst:=d,op:=.binOp .eql t x y yt,type:=tt,pos:=p,after:=af,guard:=gd } :: rest) a w:=
 wpList_ok hgd fun _ hK'=>by
  have he:=eq_lay (P:=P) w 100 t ks hl 10000 xs ys (by omega) hfx hfy
  unfold whole at he
  rw [if_pos ha,if_pos ha] at he
  unfold Oper.wp execOp
  simp only [hx,hy,Sem.run_bind,run_eqGuard_agg w .eql t x y _ _ hg,Result.andThen_ok,run_eql_struct,he,Sem.run_pure,hb]
  exact hK' _ _ h
end
end
def flatE {α : Type} (enc : α → List Value) (xs : List α) : List Value:=xs.flatMap enc
section
variable {α : Type} {enc : α → List Value} {k : Nat}
theorem flatE_length (hk : ∀ x,(enc x).length = k) (xs : List α) : (flatE enc xs).length = xs.length * k:=by
 induction xs with
 | nil=>simp [flatE]
 | cons x xs ih=>unfold flatE at *;simp [ih,hk,Nat.add_mul,Nat.add_comm]
theorem flatE_cons (x : α) (xs : List α) : flatE enc (x :: xs) = enc x ++ flatE enc xs:=rfl
theorem flatE_append (xs ys : List α) : flatE enc (xs ++ ys) = flatE enc xs ++ flatE enc ys:=by simp [flatE]
theorem flatE_get (hk : ∀ x,(enc x).length = k) {xs : List α} {i : Nat} {x : α} (h : xs[i]? = some x) (j : Nat) (hj : j < k) : (flatE enc xs)[i * k + j]? = (enc x)[j]?:=by
 induction xs generalizing i with
 | nil=>cases h
 | cons r0 xs ih=>
   rw [flatE_cons]
   cases i with
   | zero=>cases h;rw [List.getElem?_append_left (by rw [hk];omega)];simp
   | succ i=>
     have e : (i + 1) * k = i * k + k:=by rw [Nat.add_mul,Nat.one_mul]
     rw [List.getElem?_append_right (by rw [hk];omega),hk,show (i + 1) * k + j - k = i * k + j by omega]
     exact ih (by simpa using h)
theorem flatE_take (hk : ∀ x,(enc x).length = k) (xs : List α) (n : Nat) : flatE enc (xs.take n) = (flatE enc xs).take (n * k):=by
 induction xs generalizing n with
 | nil=>simp [flatE]
 | cons x xs ih=>
   cases n with
   | zero=>simp [flatE]
   | succ n=>
     rw [List.take_succ_cons,flatE_cons,flatE_cons,ih,List.take_append,List.take_of_length_le (l:=enc x) (by rw [hk];rw [Nat.add_mul];omega),hk]
     rw [show (n + 1) * k - k = n * k by rw [Nat.add_mul];omega]
theorem flatE_set (hk : ∀ x,(enc x).length = k) {xs : List α} {i : Nat} (x : α) (hi : i < xs.length) : flatE enc (xs.set i x) = (flatE enc xs).take (i * k) ++ enc x ++ (flatE enc xs).drop (i * k + k):=by
 induction xs generalizing i with
 | nil=>simp at hi
 | cons r0 xs ih=>
   cases i with
   | zero=>simp only [set_cons_zero,flatE_cons,Nat.zero_mul,List.take_zero,nil_append,Nat.zero_add];rw [List.drop_append,List.drop_of_length_le (l:=enc r0) (by rw [hk];omega),hk];simp
   | succ i=>
     have e : (i + 1) * k = i * k + k:=by rw [Nat.add_mul,Nat.one_mul]
     rw [set_cons_succ,flatE_cons,flatE_cons,ih (by simpa using hi)]
     rw [List.take_append,List.drop_append,hk,List.take_of_length_le (l:=enc r0) (by rw [hk];omega),List.drop_of_length_le (l:=enc r0) (by rw [hk];omega)]
     rw [show (i + 1) * k - k = i * k by omega,show (i + 1) * k + k - k = i * k + k by omega]
     simp
theorem splice_flat (hk : ∀ x,(enc x).length = k) {cur : Array Value} {xs : List α} {i : Nat} (x : α) (h : cur.toList.take (xs.length * k) = flatE enc xs) (hi : i < xs.length) (hs : xs.length * k ≤ cur.size) :
 (splice cur (i * k) (enc x)).toList.take (xs.length * k) = flatE enc (xs.set i x):=by
 have hl:=hk x
 have hik : i * k + k ≤ xs.length * k:=by rw [← Nat.succ_mul];exact Nat.mul_le_mul_right _ hi
 rw [flatE_set hk x hi,← h]
 unfold splice
 simp only [hl]
 rw [List.take_append,List.take_append,List.take_take,List.take_take,List.drop_take]
 have e1 : (List.take (i * k) cur.toList).length = i * k:=by simp;omega
 rw [Nat.min_eq_right (by omega),Nat.min_eq_left (by omega),List.length_append,e1,hl]
 rw [List.take_of_length_le (l:=enc x) (by rw [hl];omega)]
structure OwnAt (E : TypeId) (enc : α → List Value) (k lo : Nat) (w : World) (R cap : Nat) (cur : Array Value) (xs : List α) : Prop where
 heap : w.heap[R]? = some (.cells cur E (0,0))
 lo : lo ≤ R
 le : xs.length ≤ cap
 max : cap ≤ maxLen
 size : cur.size = cap * k
 take : cur.toList.take (xs.length * k) = flatE enc xs
def Owns (E : TypeId) (enc : α → List Value) (k lo : Nat) (w : World) (v : Value) (xs : List α) : Prop:=w.ownsRow lo E k v xs.length (flatE enc xs)
variable {E : TypeId} {lo : Nat} {w w' : World} {v : Value} {xs : List α} {R cap : Nat} {cur : Array Value}
theorem Owns.some (h : Owns E enc k lo w v xs) (hi : 0 < xs.length) : ∃ R cap cur,v = .slice (some ⟨R,0,none⟩) xs.length cap ∧ OwnAt E enc k lo w R cap cur xs:=by
 rcases h.2 with ⟨_,h0⟩ | ⟨g,cap,cur,rfl,hb,hg,h1,h2,h3,h4⟩
 · omega
 · exact ⟨g,cap,cur,rfl,⟨hg,hb,h1,h2,h3,h4⟩⟩
theorem Owns.form (h : Owns E enc k lo w v xs) : ∃ a cap,v = .slice a xs.length cap:=by
 rcases h.2 with ⟨rfl,h0⟩ | ⟨g,cap,cur,rfl,_⟩
 · exact ⟨none,0,by rw [h0]⟩
 · exact ⟨_,cap,rfl⟩
theorem OwnAt.own (hk : ∀ x,(enc x).length = k) (h : OwnAt E enc k lo w R cap cur xs) : Owns E enc k lo w (.slice (some ⟨R,0,none⟩) xs.length cap) xs:=
 ⟨flatE_length hk xs,.inr ⟨R,cap,cur,rfl,h.lo,h.heap,h.le,h.max,h.size,h.take⟩⟩
theorem OwnAt.cells (hk : ∀ x,(enc x).length = k) (h : OwnAt E enc k lo w R cap cur xs) {i : Nat} {x : α} (hi : xs[i]? = some x) : ∀ j u,(enc x)[j]? = some u → w.cell? ⟨R,i * k + j,none⟩ = some u:=by
 intro j u hu
 have hj : j < k:=by rw [← hk x];exact (List.getElem?_eq_some_iff.1 hu).1
 have hilt : i < xs.length:=(List.getElem?_eq_some_iff.1 hi).1
 have hik : i * k + k ≤ xs.length * k:=by rw [← Nat.succ_mul];exact Nat.mul_le_mul_right _ hilt
 rw [cell_of h.heap,← hu,← flatE_get hk hi j hj,← h.take,List.getElem?_take,if_pos (by omega)]
 simp
theorem OwnAt.store (hk : ∀ x,(enc x).length = k) (h : OwnAt E enc k lo w R cap cur xs) {i : Nat} (x : α) (hi : i < xs.length)
 (hw : w'.heap[R]? = some (.cells (splice cur (i * k) (enc x)) E (0,0))) : OwnAt E enc k lo w' R cap (splice cur (i * k) (enc x)) (xs.set i x):=by
 have hl:=hk x
 have hle:=Nat.mul_le_mul_right k h.le
 have hsz:=h.size
 have hik : i * k + k ≤ xs.length * k:=by rw [← Nat.succ_mul];exact Nat.mul_le_mul_right _ hi
 exact ⟨hw,h.lo,by simpa using h.le,h.max,by rw [splice_size (by rw [hl,hsz];omega)];exact hsz,by rw [List.length_set];exact splice_flat hk x h.take hi (by omega)⟩
theorem OwnAt.fit (h : OwnAt E enc k lo w R cap cur xs) {i : Nat} (hi : i < xs.length) : i * k + k ≤ cur.size:=by
 have hle:=Nat.mul_le_mul_right k h.le
 have hik : i * k + k ≤ xs.length * k:=by rw [← Nat.succ_mul];exact Nat.mul_le_mul_right _ hi
 rw [h.size];omega
theorem OwnAt.cut (hk : ∀ x,(enc x).length = k) (h : OwnAt E enc k lo w R cap cur xs) (n : Nat) (hn : n ≤ xs.length) : OwnAt E enc k lo w R cap cur (xs.take n):=by
 have e : (xs.take n).length = n:=by rw [List.length_take];omega
 refine ⟨h.heap,h.lo,by rw [e];exact Nat.le_trans hn h.le,h.max,h.size,?_⟩
 rw [e,flatE_take hk,← h.take,List.take_take,Nat.min_eq_left (Nat.mul_le_mul_right _ hn)]
theorem Owns.world (h : Owns E enc k lo w v xs) (hb : ∀ R,v.ownBlock = Option.some R → w'.heap[R]? = w.heap[R]?) : Owns E enc k lo w' v xs:=by
 refine ⟨h.1,?_⟩
 rcases h.2 with hn | ⟨g,cap,cur,rfl,hb',hgg,rest⟩
 · exact .inl hn
 · exact .inr ⟨g,cap,cur,rfl,hb',(hb g rfl).trans hgg,rest⟩
end
structure ElemOf (P : Program) (T E : TypeId) (k bytes : Nat) (i : TypeInfo) (z : Value) : Prop where
 und : P.underlying T = some (.slice E)
 info : P.info? E = some i
 zero : i.zero = some z
 size : i.size = k
 byt : i.bytes = bytes
 zs : z.cells.size = k
 pos : 0 < k
def Elem (P : Program) (T E : TypeId) (k bytes : Nat) : Prop:=∃ i z,ElemOf P T E k bytes i z
section
variable {P : Program} {α : Type} {enc : α → List Value} {k : Nat} {T E : TypeId} {bytes lo : Nat} {w w' : World} {v sv : Value} {xs ys : List α}
def Rd (enc : α → List Value) (w : World) (sv : Value) (ys : List α) : Prop:=
 ∃ a c,sv = .slice a ys.length c ∧ (a = none → ys = [] ∧ c = 0) ∧ ∀ ad,a = some ad → ∀ j u,(flatE enc ys)[j]? = some u → w.cell? (ad.add j) = some u
theorem add_none (b o j : Nat) : (⟨b,o,none⟩ : Addr).add j = ⟨b,o + j,none⟩:=by unfold Addr.add;split <;> simp_all
theorem wpList_append (el : Elem P T E k bytes) (hk : ∀ x,(enc x).length = k) (hone : ∀ x,∀ u ∈ enc x,u.oneCell' = true) (h : Owns E enc k lo w v xs) (hr : Rd enc w sv ys)
 (hmax : xs.length + ys.length ≤ maxLen) (hb : (xs.length + ys.length) * bytes ≤ 140737488355328) (hlo : lo ≤ w.heap.size)
 {ops : Array Oper} {rest : List Oper} {a : Act} {Q : Exit → Act → World → Prop} {d : Option Tmp} {tt : TypeId} {p : String} {af : Array Edge} {gd : Option (Nat × Bool)} {x y : Operand}
 (hx : a.eval x = v) (hy : a.eval y = sv)
 (next : ∀ v' w',Owns E enc k lo w' v' (xs ++ ys) → Keep (fun b=>v.ownBlock = some b) w w' → (v'.ownBlock = v.ownBlock ∨ v'.ownBlock = some w.heap.size) → wpList P ops Q rest (a.put d v') w') (hgd : gOk gd ops a = true:=by with_unfolding_all rfl) :
 wpList P ops Q ({ dst:=d,op:=.call { callee:=.builtin .append,args:=#[x,y],argTypes:=#[T,T] },type:=tt,pos:=p,after:=af,guard:=gd } :: rest) a w:=by
 have run : ∃ v' w',(Builtin.append_ #[T,T] tt #[v,sv]).run P w = .ok v' w' ∧ Owns E enc k lo w' v' (xs ++ ys) ∧ Keep (fun b=>v.ownBlock = some b) w w' ∧ (v'.ownBlock = v.ownBlock ∨ v'.ownBlock = some w.heap.size):=by
  obtain ⟨i,z,ht,hi,hz,hs,hby,hzs,hpos⟩:=el
  subst hs;subst hby
  obtain ⟨sa,sc,rfl,hnil,hcells⟩:=hr
  have hly:=flatE_length (enc:=enc) hk ys
  have hlx:=flatE_length (enc:=enc) hk xs
  have h1 : ∀ u ∈ flatE enc ys,u.oneCell' = true:=fun u hu=>by
   obtain ⟨x,_,hx⟩:=List.mem_flatMap.1 hu
   exact hone x u hx
  have hap : ∀ {w' v'},w'.ownsRow lo E i.size v' (xs.length + ys.length) (flatE enc xs ++ flatE enc ys) → Owns E enc i.size lo w' v' (xs ++ ys):=fun h=>by
   unfold Owns;rw [List.length_append,flatE_append];exact h
  cases sa with
  | none=>
    obtain ⟨rfl,rfl⟩:=hnil rfl
    exact ⟨v,w,run_append_owned_none w lo T tt E i i.size ht hi v xs.length _ h,by simpa using h,Keep.refl _ _,.inl rfl⟩
  | some ad=>
    have hnews:=hcells ad rfl
    rcases h.2 with ⟨rfl,h0⟩ | ⟨g,cap,cur,rfl,hbg,hg,hnc,hcm,hcs,htake⟩
    · have hx0 : xs = []:=List.eq_nil_of_length_eq_zero h0
      subst hx0
      have e0 : ([] : List α).length + ys.length = ys.length:=Nat.zero_add _
      by_cases hm : ys.length = 0
      · have hy0 : ys = []:=List.eq_nil_of_length_eq_zero hm
        subst hy0
        refine ⟨.slice none 0 0,w,?_,h,Keep.refl _ _,.inl rfl⟩
        simp [Builtin.append_,run_underlying ht,sizeOf,typeInfo,hi,Builtin.lenOf,Builtin.firstCells,loadCells,loadCellsFrom]
      · have hb':=hb
        simp only [List.length_nil,Nat.zero_add] at hb' hmax
        have hr:=run_append_nil (P:=P) w T tt E i z ht hi hz ad ys.length sc _ hly hnews (by omega) (by simp only [maxLen] at hmax;omega) (by omega)
        refine ⟨_,_,hr,?_,⟨rfl,rfl,rfl,by simp,fun q hq _=>heap_alloc_old w.drew _ hq,Nat.le_succ _⟩,.inr rfl⟩
        have hge:=grownCap_ge w ys.length 0 E
        refine ⟨by rw [nil_append];exact hly,.inr ⟨w.heap.size,_,_,by simp,hlo,heap_alloc_new w.drew _,by simpa using hge,grownCap_le_maxLen w ys.length 0 E hmax,?_,?_⟩⟩
        · simp only [Array.size_append,List.size_toArray,size_zeroCells,hzs,hly,← Nat.add_mul]
          congr 1;omega
        · simp only [Array.toList_append,nil_append]
          rw [← hly];exact List.take_left
    · by_cases hroom : xs.length + ys.length ≤ cap
      · obtain ⟨w1,hr,ho,hgr⟩:=run_append_fits (P:=P) (ty:=tt) w lo T E i i.size ht hi rfl g xs.length cap _ h ad ys.length sc _ hly hnews h1 hroom
        have hfit : xs.length * i.size + (flatE enc ys).length ≤ cur.size:=by rw [hly,hcs,← Nat.add_mul];exact Nat.mul_le_mul_right _ hroom
        have hr2:=run_append_room (P:=P) w T tt E i ht hi g xs.length cap cur hg ad ys.length sc _ hly hnews h1 hroom hfit
        have hdr : w.drawn ≤ w1.drawn:=by
         have e:=hr.symm.trans hr2
         simp only [Result.ok.injEq,true_and] at e
         rw [e];exact Nat.le_refl _
        exact ⟨_,w1,hr,hap ho,(Keep.refl _ w).grown hgr hdr (fun q hq=>by cases hq;exact .inl rfl),.inl rfl⟩
      · have holds:=World.ownsRow.cells h (g:=g) rfl
        have hr:=run_append_grow (P:=P) w T tt E i z ht hi hz ⟨g,0,none⟩ xs.length cap _ hlx holds ad ys.length sc _ hly hnews (by omega) (by simp only [maxLen] at hmax;omega) (growslice_fits (by omega) hb)
        refine ⟨_,_,hr,?_,⟨rfl,rfl,rfl,by simp,fun q hq _=>heap_alloc_old w.drew _ hq,Nat.le_succ _⟩,.inr rfl⟩
        have hge:=grownCap_ge w (xs.length + ys.length) cap E
        refine hap ⟨by rw [List.length_append,hlx,hly,Nat.add_mul],.inr ⟨w.heap.size,_,_,rfl,hlo,heap_alloc_new w.drew _,hge,grownCap_le_maxLen w _ _ E hmax,?_,?_⟩⟩
        · simp only [Array.size_append,List.size_toArray,size_zeroCells,hzs,hlx,hly,← Nat.add_mul]
          congr 1;omega
        · simp only [Array.toList_append,List.append_assoc]
          rw [← List.append_assoc,← show (flatE enc xs ++ flatE enc ys).length = (xs.length + ys.length) * i.size by rw [List.length_append,hlx,hly,Nat.add_mul]]
          exact List.take_left
 obtain ⟨v',w',hr,h2,h3,h4⟩:=run
 refine wpList_ok hgd fun _ hK'=>?_
 unfold Oper.wp execOp
 simp only [resolve,invoke,builtin,Sem.run_bind,Sem.run_pure,Result.andThen_ok,List.map_toArray,List.map_cons,List.map_nil,hx,hy,hr]
 exact hK' _ _ (next v' w' h2 h3 h4)
end
end Go.Proofs.YtmjljoaakdocaaaGreatDoor.Mem
