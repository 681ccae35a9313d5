import Derived.Test.YtmjljoaakdocaaaGreatDoorY02
/- Operations as laws on a state (Mem.St): each leaves a new world of which only the new state is known. Over any program. -/
namespace Go.Proofs.YtmjljoaakdocaaaGreatDoor.Mem
open Go Go.RowKit Reg
open List (set_cons_succ set_cons_zero setIfInBounds_toArray cons_append nil_append)
def Blk (sh : Bool) (b : Nat) (cs : Array Value) (t : TypeId) : Asn where
 sh:=sh
 at_ w F:=w.heap[b]? = some (.cells cs t (0,0)) ∧ ∀ x,F x ↔ x = b
 loc h hb:=⟨(hb b ((h.2 b).2 rfl)).trans h.1,h.2⟩
 lt h b hb:=by rw [(h.2 b).1 hb];exact (Array.getElem?_eq_some_iff.1 h.1).1
def Own {α : Type} (E : TypeId) (enc : α → List Value) (k : Nat) (v : Value) (xs : List α) : Asn where
 sh:=false
 at_ w F:=Owns E enc k 0 w v xs ∧ ∀ x,F x ↔ v.ownBlock = some x
 loc h hb:=⟨h.1.world (fun R hR=>hb R ((h.2 R).2 hR)),h.2⟩
 lt h b hb:=(World.ownsRow.lt h.1 b ((h.2 b).1 hb)).2
def MapA {κ : Type} [DecidableEq κ] (sh : Bool) (P : Program) (K : TypeId) (kv : κ → List Value) (M : Nat) (m : κ → Option Value) : Asn where
 sh:=sh
 at_ w F:=MapIs P w M K kv m ∧ ∀ x,F x ↔ x = M
 loc h hb:=⟨h.1.heap (hb M ((h.2 M).2 rfl)),h.2⟩
 lt h b hb:=by rw [(h.2 b).1 hb];exact h.1.lt
def SlAt {α : Type} (enc : α → List Value) (k : Nat) (w : World) (F : Nat → Prop) (v : Value) (xs : List α) : Prop:=
 ∃ a c,v = .slice a xs.length c ∧ xs.length ≤ c ∧ (a = none → c = 0) ∧
  ∀ (i : Nat) x,xs[i]? = some x → ∃ R o,a = some ⟨R,o,none⟩ ∧ F R ∧ ∀ j u,(enc x)[j]? = some u → w.cell? ⟨R,o + i * k + j,none⟩ = some u
def Sl {α : Type} (sh : Bool) (enc : α → List Value) (k : Nat) (v : Value) (xs : List α) : Asn where
 sh:=sh
 at_ w F:=SlAt enc k w F v xs ∧ ∀ b,F b → b < w.heap.size
 loc {w w' F} h hb:=by
  obtain ⟨⟨a,c,e,h1,h2,h3⟩,hl⟩:=h
  refine ⟨⟨a,c,e,h1,h2,fun i x hi=>?_⟩,fun b hF=>?_⟩
  · obtain ⟨R,o,e1,hR,hc⟩:=h3 i x hi
    exact ⟨R,o,e1,hR,fun j u hj=>(World.cell?_of_block (w:=w) (a:=⟨R,o + i * k + j,none⟩) (hb R hR)).trans (hc j u hj)⟩
  · have:=hb b hF
    rw [Array.getElem?_eq_getElem (hl b hF)] at this
    exact (Array.getElem?_eq_some_iff.1 this).1
 lt h:=h.2
section
variable {P : Program} {ops : Array Oper} {rest : List Oper} {a : Act} {Q : Exit → Act → World → Prop} {d : Option Tmp} {tt : TypeId} {p : String} {af : Array Edge} {gd : Option (Nat × Bool)} {x y z : Operand}
variable {G : Nat → Prop} {w0 w w' : World} {L : List Asn} {A A' : Asn} {i : Nat}
theorem St.weak (S : St G w0 w L) (hi : L[i]? = some A) (hs : A'.sh = false → A.sh = false) (h : ∀ F,A.at_ w F → ∃ F',(∀ b,F' b → F b) ∧ A'.at_ w F') : St G w0 w (L.set i A'):=by
 obtain ⟨Fs,hf,hd⟩:=S.ex
 have hil:=(List.getElem?_eq_some_iff.1 hi).1
 obtain ⟨F',hF',hA'⟩:=h _ (hf i A hi).1
 refine ⟨S.keep,fun j=>if j = i then F' else Fs j,fun j B hj=>?_,fun j k B C hjk hj hk=>?_⟩
 · by_cases e : j = i
   · subst e
     rw [List.getElem?_set_self hil] at hj
     cases hj
     simp only [if_true]
     exact ⟨hA',fun ho b hb=>(hf j A hi).2 (hs ho) b (hF' b hb)⟩
   · rw [List.getElem?_set_ne (Ne.symm e)] at hj
     simp only [if_neg e]
     exact hf j B hj
 · by_cases e : j = i
   · subst e
     have e' : k ≠ j:=by omega
     rw [List.getElem?_set_self hil] at hj
     rw [List.getElem?_set_ne (Ne.symm e')] at hk
     cases hj
     simp only [if_true,if_neg e']
     rcases hd j k A C hjk hi hk with ⟨h1,h2⟩ | h1
     · cases hb : A'.sh with
       | true=>exact .inl ⟨rfl,h2⟩
       | false=>rw [hs hb] at h1;cases h1
     · exact .inr fun b hb hb'=>h1 b (hF' b hb) hb'
   · rw [List.getElem?_set_ne (Ne.symm e)] at hj
     by_cases e' : k = i
     · subst e'
       rw [List.getElem?_set_self hil] at hk
       cases hk
       simp only [if_true,if_neg e]
       rcases hd j k B A hjk hj hi with ⟨h1,h2⟩ | h1
       · cases hb : A'.sh with
         | true=>exact .inl ⟨h1,rfl⟩
         | false=>rw [hs hb] at h2;cases h2
       · exact .inr fun b hb hb'=>h1 b hb (hF' b hb')
     · rw [List.getElem?_set_ne (Ne.symm e')] at hk
       simp only [if_neg e,if_neg e']
       exact hd j k B C hjk hj hk
theorem own_sl {α : Type} {sh : Bool} {E : TypeId} {enc : α → List Value} {k : Nat} {v : Value} {xs : List α} {F : Nat → Prop} (hk : ∀ x,(enc x).length = k) (h : (Own E enc k v xs).at_ w F) : (Sl sh enc k v xs).at_ w F:=by
 refine ⟨?_,fun b hb=>(Own E enc k v xs).lt h b hb⟩
 have hF:=h.2
 have h1:=h.1
 rcases h1.2 with ⟨rfl,h0⟩ | ⟨g,cap,cur,rfl,hb,hg,h2,h3,h4,h5⟩
 · have : xs = []:=List.eq_nil_of_length_eq_zero h0
   subst this
   exact ⟨none,0,rfl,Nat.le_refl _,fun _=>rfl,fun i x hi=>by simp at hi⟩
 · refine ⟨some ⟨g,0,none⟩,cap,rfl,h2,(fun e=>by cases e),fun i x hi=>⟨g,0,rfl,(hF g).2 rfl,fun j u hj=>?_⟩⟩
   obtain ⟨R,cap',cur',e,hO⟩:=Owns.some h1 (by have:=(List.getElem?_eq_some_iff.1 hi).1;omega)
   simp only [Value.slice.injEq,Option.some.injEq,Addr.mk.injEq] at e
   obtain ⟨⟨rfl,_⟩,_⟩:=e
   rw [Nat.zero_add]
   exact hO.cells hk hi j u hj
theorem St.freeze {α : Type} {E : TypeId} {enc : α → List Value} {k : Nat} {v : Value} {xs : List α} (sh : Bool) (S : St G w0 w L) (i : Nat) (hk : ∀ x,(enc x).length = k) (hi : L[i]? = some (Own E enc k v xs)) : St G w0 w (L.set i (Sl sh enc k v xs)):=
 S.weak hi (fun _=>rfl) (fun F h=>⟨F,fun _ hb=>hb,own_sl hk h⟩)
theorem SlAt.head {α : Type} {enc : α → List Value} {k : Nat} {F : Nat → Prop} {ad : Option Addr} {n c : Nat} {xs : List α} (h : SlAt enc k w F (.slice ad n c) xs) (h0 : 0 < xs.length) : ∃ R o,ad = some ⟨R,o,none⟩:=by
 obtain ⟨a',c',e,_,_,hc⟩:=h
 simp only [Value.slice.injEq] at e
 obtain ⟨rfl,_,_⟩:=e
 obtain ⟨R,o,e,_⟩:=hc 0 xs[0] (List.getElem?_eq_getElem h0)
 exact ⟨R,o,e⟩
theorem SlAt.form {α : Type} {enc : α → List Value} {k : Nat} {F : Nat → Prop} {v : Value} {xs : List α} (h : SlAt enc k w F v xs) : ∃ a c,v = .slice a xs.length c ∧ xs.length ≤ c:=let ⟨a,c,e,h,_⟩:=h;⟨a,c,e,h⟩
theorem SlAt.cells {α : Type} {enc : α → List Value} {k : Nat} {F : Nat → Prop} {R o n c : Nat} {xs : List α} (h : SlAt enc k w F (.slice (some ⟨R,o,none⟩) n c) xs) {j : Nat} {x : α} (hj : xs[j]? = some x) :
 ∀ q u,(enc x)[q]? = some u → w.cell? ⟨R,o + j * k + q,none⟩ = some u:=by
 obtain ⟨a',c',e,_,_,hc⟩:=h
 simp only [Value.slice.injEq] at e
 obtain ⟨e1,_,_⟩:=e
 obtain ⟨R',o',e2,_,h2⟩:=hc j x hj
 rw [← e1] at e2
 cases e2
 exact h2
theorem St.sl {α : Type} {sh : Bool} {enc : α → List Value} {k : Nat} {v : Value} {xs : List α} (S : St G w0 w L) (i : Nat) (hi : L[i]? = some (Sl sh enc k v xs)) : ∃ F,SlAt enc k w F v xs:=let ⟨F,h⟩:=S.get hi;⟨F,h.1⟩
theorem St.ownsl {α : Type} {E : TypeId} {enc : α → List Value} {k : Nat} {v : Value} {xs : List α} (hk : ∀ x,(enc x).length = k) (S : St G w0 w L) (i : Nat) (hi : L[i]? = some (Own E enc k v xs)) : ∃ F,SlAt enc k w F v xs:=let ⟨F,h⟩:=S.get hi;⟨F,(own_sl (sh:=true) hk h).1⟩
theorem St.blk {sh : Bool} {b : Nat} {cs : Array Value} {t : TypeId} (S : St G w0 w L) (i : Nat) (hi : L[i]? = some (Blk sh b cs t)) : w.heap[b]? = some (.cells cs t (0,0)):=let ⟨_,h⟩:=S.get hi;h.1
theorem St.nil {α : Type} (S : St G w0 w L) (E : TypeId) (enc : α → List Value) (k : Nat) : St G w0 w (Own E enc k (.slice none 0 0) [] :: L):=
 S.grow (F:=fun _=>False) (Keep.refl _ _) ⟨⟨by simp [flatE],.inl ⟨rfl,rfl⟩⟩,fun x=>by simp [Value.ownBlock]⟩ (fun _ h=>h.elim)
theorem keep_alloc (w : World) (o : Obj) : Keep (fun _=>False) w (w.alloc o):=(Keep.refl _ w).alloc o
theorem keep_drew (w : World) : Keep (fun _=>False) w w.drew:=(Keep.refl _ w).drew
theorem St.blk_new (S : St G w0 w L) (cs : Array Value) (t : TypeId) : St G w0 (w.alloc (.cells cs t)) (Blk false w.heap.size cs t :: L):=
 S.grow (F:=fun x=>x = w.heap.size) (keep_alloc w _) ⟨heap_alloc_new w _,fun _=>Iff.rfl⟩ (fun _ e=>Nat.le_of_eq e.symm)
theorem wps_box (S : St G w0 w L) {E : TypeId} {v : Value} {cs : Array Value} (hx : a.eval x = v) (hc : v.cells = cs) (next : ∀ b w',St G w0 w' (Blk false b cs E :: L) → wpList P ops Q rest (a.put d (.pointer (some ⟨b,0,none⟩))) w') (hgd : gOk gd ops a = true:=by with_unfolding_all rfl) :
 wpList P ops Q ({ dst:=d,op:=.box E x,type:=tt,pos:=p,after:=af,guard:=gd } :: rest) a w:=
 wpList_ok hgd fun K hK=>by
  unfold Oper.wp execOp
  simp only [Instr.box,newVar,newRow,hx,hc,Sem.run_bind,Sem.run_pure,Result.andThen_ok,run_newObj]
  exact hK _ _ (next _ _ (S.blk_new cs E))
theorem wps_boxa (S : St G w0 w L) {E : TypeId} {cs : Array Value} (hx : a.eval x = .agg cs) (next : ∀ b w',St G w0 w' (Blk false b cs E :: L) → wpList P ops Q rest (a.put d (.pointer (some ⟨b,0,none⟩))) w') (hgd : gOk gd ops a = true:=by with_unfolding_all rfl) :
 wpList P ops Q ({ dst:=d,op:=.box E x,type:=tt,pos:=p,after:=af,guard:=gd } :: rest) a w:=wps_box S hx rfl next hgd
theorem wps_box1 (S : St G w0 w L) {E : TypeId} {v : Value} (hx : a.eval x = v) (h1 : v.oneCell' = true) (next : ∀ b w',St G w0 w' (Blk false b #[v] E :: L) → wpList P ops Q rest (a.put d (.pointer (some ⟨b,0,none⟩))) w') (hgd : gOk gd ops a = true:=by with_unfolding_all rfl) :
 wpList P ops Q ({ dst:=d,op:=.box E x,type:=tt,pos:=p,after:=af,guard:=gd } :: rest) a w:=wps_box S hx (by cases v <;> first | rfl | (simp [Value.oneCell'] at h1)) next hgd
theorem wps_alloc (S : St G w0 w L) {E : TypeId} {v : Value} {cs : Array Value} (hz : ∀ w,(zeroValue E).run P w = .ok v w) (hc : v.cells = cs) (next : ∀ b w',St G w0 w' (Blk false b cs E :: L) → wpList P ops Q rest (a.put d (.pointer (some ⟨b,0,none⟩))) w') (hgd : gOk gd ops a = true:=by with_unfolding_all rfl) :
 wpList P ops Q ({ dst:=d,op:=.alloc E,type:=tt,pos:=p,after:=af,guard:=gd } :: rest) a w:=
 wpList_ok hgd fun K hK=>by
  unfold Oper.wp execOp
  simp only [Instr.alloc,newVar,newRow,hz,hc,Sem.run_bind,Sem.run_pure,Result.andThen_ok,run_newObj]
  exact hK _ _ (next _ _ (S.blk_new cs E))
theorem wps_alloca (S : St G w0 w L) {E : TypeId} {cs : Array Value} (hz : ∀ w,(zeroValue E).run P w = .ok (.agg cs) w) (next : ∀ b w',St G w0 w' (Blk false b cs E :: L) → wpList P ops Q rest (a.put d (.pointer (some ⟨b,0,none⟩))) w') (hgd : gOk gd ops a = true:=by with_unfolding_all rfl) :
 wpList P ops Q ({ dst:=d,op:=.alloc E,type:=tt,pos:=p,after:=af,guard:=gd } :: rest) a w:=wps_alloc S hz rfl next hgd
theorem wps_alloc1 (S : St G w0 w L) {E : TypeId} {v : Value} (hz : ∀ w,(zeroValue E).run P w = .ok v w) (h1 : v.oneCell' = true) (next : ∀ b w',St G w0 w' (Blk false b #[v] E :: L) → wpList P ops Q rest (a.put d (.pointer (some ⟨b,0,none⟩))) w') (hgd : gOk gd ops a = true:=by with_unfolding_all rfl) :
 wpList P ops Q ({ dst:=d,op:=.alloc E,type:=tt,pos:=p,after:=af,guard:=gd } :: rest) a w:=wps_alloc S hz (by cases v <;> first | rfl | (simp [Value.oneCell'] at h1)) next hgd
theorem wps_buildSlice (S : St G w0 w L) {T E : TypeId} {n : Nat} {parts : Array (Nat × Operand)} {cs : Array Value}
 (hr : ∀ w,(Instr.buildSlice T n (parts.map fun (i,x)=>(i,a.eval x))).run P w = .ok (.slice (some ⟨w.heap.size,0,none⟩) n n) (w.alloc (.cells cs E)))
 (next : ∀ b w',St G w0 w' (Blk false b cs E :: L) → wpList P ops Q rest (a.put d (.slice (some ⟨b,0,none⟩) n n)) w') (hgd : gOk gd ops a = true:=by with_unfolding_all rfl) :
 wpList P ops Q ({ dst:=d,op:=.buildSlice T n parts,type:=tt,pos:=p,after:=af,guard:=gd } :: rest) a w:=
 wpList_ok hgd fun K hK=>by
  unfold Oper.wp execOp
  simp only [hr,Sem.run_bind,Sem.run_pure,Result.andThen_ok]
  exact hK _ _ (next _ _ (S.blk_new cs E))
def leafB (P : Program) (t : TypeId) : Bool:=(match P.underlying t with | some (.struct _) | some (.array ..) | none=>false | _=>true) && (match P.info? t with | some i=>i.size == 1 | none=>false)
theorem run_load_leaf {t : TypeId} (ht : leafB P t = true) {b o : Nat} {u : Value} (hc : w.cell? ⟨b,o,none⟩ = some u) : (loadVar t ⟨b,o,none⟩).run P w = .ok u w:=by
 unfold leafB at ht
 simp only [Bool.and_eq_true] at ht
 have : (isAgg t).run P w = .ok false w:=by
  cases hu : P.underlying t with
  | none=>rw [hu] at ht;simp at ht
  | some x=>rw [hu] at ht;rw [run_isAgg hu];unfold isAggB;rw [hu];cases x <;> first | rfl | simp at ht
 simp [loadVar,Sem.run_bind,this,load,Sem.run,hc]
theorem wps_load {sh : Bool} {b n : Nat} {cs : Array Value} {t : TypeId} (S : St G w0 w L) (i : Nat) (hi : L[i]? = some (Blk sh b cs t)) {T : TypeId} {u : Value} (hx : a.eval x = .pointer (some ⟨b,n,none⟩)) (hT : leafB P T = true) (hu : cs[n]? = some u)
 (next : wpList P ops Q rest (a.put d u) w) (hgd : gOk gd ops a = true:=by with_unfolding_all rfl) : wpList P ops Q ({ dst:=d,op:=.load T x,type:=tt,pos:=p,after:=af,guard:=gd } :: rest) a w:=
 wpList_ok hgd fun K hK=>by
  have hc : w.cell? ⟨b,n,none⟩ = some u:=by rw [cell_of (S.blk i hi)];exact hu
  unfold Oper.wp execOp
  simp only [Instr.loadAt,hx,Instr.sureAddr,Sem.run_bind,Sem.run_pure,Result.andThen_ok,run_load_leaf hT hc]
  exact hK _ _ next
theorem wps_loada {sh : Bool} {b n : Nat} {cs : Array Value} {t : TypeId} (S : St G w0 w L) (i : Nat) (hi : L[i]? = some (Blk sh b cs t)) {T : TypeId} {k : Nat} (hx : a.eval x = .pointer (some ⟨b,n,none⟩)) (hT : aggB P T k = true) (hk : n + k ≤ cs.size)
 (next : wpList P ops Q rest (a.put d (.agg ((cs.toList.drop n).take k).toArray)) w) (hgd : gOk gd ops a = true:=by with_unfolding_all rfl) : wpList P ops Q ({ dst:=d,op:=.load T x,type:=tt,pos:=p,after:=af,guard:=gd } :: rest) a w:=by
 have hl : ((cs.toList.drop n).take k).length = k:=by simp;omega
 refine wpList_load_agg (hgd:=hgd) _ (by rw [hl];exact hT) hx (fun j v hj=>?_) next
 rw [cell_of (S.blk i hi)]
 have hjk : j < k:=by have:=(List.getElem?_eq_some_iff.1 hj).1;rwa [hl] at this
 rw [List.getElem?_take_of_lt hjk,List.getElem?_drop] at hj
 rw [← Array.getElem?_toList];exact hj
theorem wps_load_el {α : Type} {sh : Bool} {enc : α → List Value} {k R o n c nn : Nat} {xs : List α} (S : St G w0 w L) (i : Nat) (hi : L[i]? = some (Sl sh enc k (.slice (some ⟨R,o,none⟩) n c) xs)) {j : Nat} {e : α} (hj : xs[j]? = some e) (q : Nat) {u : Value} {T : TypeId}
 (hx : a.eval x = .pointer (some ⟨R,nn,none⟩)) (hn : nn = o + j * k + q) (hT : leafB P T = true) (hu : (enc e)[q]? = some u)
 (next : wpList P ops Q rest (a.put d u) w) (hgd : gOk gd ops a = true:=by with_unfolding_all rfl) : wpList P ops Q ({ dst:=d,op:=.load T x,type:=tt,pos:=p,after:=af,guard:=gd } :: rest) a w:=
 wpList_ok hgd fun K hK=>by
  obtain ⟨F,hs⟩:=S.sl i hi
  have hc:=hs.cells hj q u hu
  rw [← hn] at hc
  unfold Oper.wp execOp
  simp only [Instr.loadAt,hx,Instr.sureAddr,Sem.run_bind,Sem.run_pure,Result.andThen_ok,run_load_leaf hT hc]
  exact hK _ _ next
theorem wps_loada_el {α : Type} {sh : Bool} {enc : α → List Value} {k R o n c nn : Nat} {xs : List α} (S : St G w0 w L) (i : Nat) (hi : L[i]? = some (Sl sh enc k (.slice (some ⟨R,o,none⟩) n c) xs)) {j : Nat} {e : α} (hj : xs[j]? = some e) (q : Nat) (vs : List Value) {T : TypeId} (m : Nat)
 (hx : a.eval x = .pointer (some ⟨R,nn,none⟩)) (hn : nn = o + j * k + q) (hT : aggB P T m = true) (hm : vs.length = m) (hv : ((enc e).drop q).take vs.length = vs)
 (next : wpList P ops Q rest (a.put d (.agg vs.toArray)) w) (hgd : gOk gd ops a = true:=by with_unfolding_all rfl) : wpList P ops Q ({ dst:=d,op:=.load T x,type:=tt,pos:=p,after:=af,guard:=gd } :: rest) a w:=by
 obtain ⟨F,hs⟩:=S.sl i hi
 subst hm
 refine wpList_load_agg (hgd:=hgd) vs hT hx (fun m u hm=>?_) next
 have hml : m < vs.length:=(List.getElem?_eq_some_iff.1 hm).1
 rw [← hv,List.getElem?_take_of_lt hml,List.getElem?_drop] at hm
 have hc:=hs.cells hj (q + m) u hm
 rw [hn]
 rwa [← Nat.add_assoc] at hc
theorem blk_step {b : Nat} {cs cs' : Array Value} {t : TypeId} (S : St G w0 w L) (i : Nat) (hi : L[i]? = some (Blk false b cs t)) (hK : Keep (fun x=>x = b) w w') (hb : w'.heap[b]? = some (.cells cs' t (0,0))) : St G w0 w' (L.set i (Blk false b cs' t)):=
 S.step hi rfl fun F hF=>⟨F,hK.mono (fun x _ h e=>h ((hF.2 x).2 e)),⟨hb,hF.2⟩,fun _ h=>.inl h⟩
theorem splice_one {cs : Array Value} {n : Nat} {v : Value} (h : n < cs.size) : splice cs n [v] = cs.setIfInBounds n v:=by
 apply Array.ext'
 simp only [splice,List.length_singleton,Array.toList_setIfInBounds]
 rw [List.set_eq_take_append_cons_drop,if_pos (by simpa using h)]
 simp
theorem wps_store {b n : Nat} {cs : Array Value} {t : TypeId} (S : St G w0 w L) (i : Nat) (hi : L[i]? = some (Blk false b cs t)) {T : TypeId} {u : Value} (hx : a.eval x = .pointer (some ⟨b,n,none⟩)) (hy : a.eval y = u) (hT : (match P.info? T with | some i=>i.size == 1 | none=>false) = true)
 (h1 : u.oneCell' = true) (hn : n < cs.size) (next : ∀ w',St G w0 w' (L.set i (Blk false b (cs.setIfInBounds n u) t)) → wpList P ops Q rest (a.put d undef) w') (hgd : gOk gd ops a = true:=by with_unfolding_all rfl) :
 wpList P ops Q ({ dst:=d,op:=.store T x y,type:=tt,pos:=p,after:=af,guard:=gd } :: rest) a w:=
 wpList_store_one (hgd:=hgd) u hT hx hy (S.blk i hi) hn h1 fun w' hb hK=>next w' (blk_step S i hi hK (by rw [hb,splice_one hn]))
def setAll (cs : Array Value) (n : Nat) : List Value → Array Value
 | []=>cs
 | v :: l=>setAll (cs.setIfInBounds n v) (n + 1) l
theorem setAll_splice : ∀ (vs : List Value) (cs : Array Value) (n : Nat),n + vs.length ≤ cs.size → splice cs n vs = setAll cs n vs
 | [],cs,n,_=>by simp [splice,setAll]
 | v :: l,cs,n,h=>by
   simp only [List.length_cons] at h
   rw [setAll,← setAll_splice l _ _ (by simp;omega)]
   apply Array.ext'
   have e1 : (cs.toList.set n v).take (n + 1) = cs.toList.take n ++ [v]:=by
    rw [List.take_succ_eq_append_getElem (by simp;omega),List.getElem_set_self,List.take_set_of_le (Nat.le_refl _)]
   have e2 : (cs.toList.set n v).drop (n + 1 + l.length) = cs.toList.drop (n + 1 + l.length):=List.drop_set_of_lt (by omega)
   simp only [splice,Array.toList_setIfInBounds,e1,e2,List.length_cons,List.append_assoc,cons_append,nil_append]
   rw [show n + (l.length + 1) = n + 1 + l.length by omega]
theorem wps_storea {b n : Nat} {cs : Array Value} {t : TypeId} (S : St G w0 w L) (i : Nat) (hi : L[i]? = some (Blk false b cs t)) {T : TypeId} {vs : List Value} (hx : a.eval x = .pointer (some ⟨b,n,none⟩)) (m : Nat) (hy : a.eval y = .agg vs.toArray) (hT : aggB P T m = true) (hm : vs.length = m)
 (h1 : vs.all Value.oneCell' = true) (hn : n + vs.length ≤ cs.size) (next : ∀ w',St G w0 w' (L.set i (Blk false b (setAll cs n vs) t)) → wpList P ops Q rest (a.put d undef) w') (hgd : gOk gd ops a = true:=by with_unfolding_all rfl) :
 wpList P ops Q ({ dst:=d,op:=.store T x y,type:=tt,pos:=p,after:=af,guard:=gd } :: rest) a w:=
 wpList_store_agg (hgd:=hgd) vs (by rw [hm];exact hT) hx hy (S.blk i hi) hn (by simpa using h1) fun w' hb hK=>next w' (blk_step S i hi hK (by rw [hb,setAll_splice _ _ _ hn]))
theorem wps_append {α : Type} {T E : TypeId} {enc : α → List Value} {k bytes : Nat} {v sv : Value} {xs ys : List α} (el : Elem P T E k bytes) (hk : ∀ x,(enc x).length = k) (hone : ∀ x,∀ u ∈ enc x,u.oneCell' = true)
 (S : St G w0 w L) (i : Nat) (hi : L[i]? = some (Own E enc k v xs)) (hr : Rd enc w sv ys) (hmax : xs.length + ys.length ≤ maxLen) (hb : (xs.length + ys.length) * bytes ≤ 140737488355328) (hx : a.eval x = v) (hy : a.eval y = sv)
 (next : ∀ v' w',St G w0 w' (L.set i (Own E enc k v' (xs ++ ys))) → wpList P ops Q rest (a.put d v') w') (hgd : gOk gd ops a = true:=by with_unfolding_all rfl) :
 wpList P ops Q ({ dst:=d,op:=.call { callee:=.builtin .append,args:=#[x,y],argTypes:=#[T,T] },type:=tt,pos:=p,after:=af,guard:=gd } :: rest) a w:=by
 obtain ⟨F0,h0⟩:=S.get hi
 refine wpList_append (hgd:=hgd) el hk hone h0.1 hr hmax hb (Nat.zero_le _) hx hy fun v' w' hO hK hv=>next v' w' (S.step hi rfl fun F hF=>⟨fun b=>v'.ownBlock = some b,hK.mono (fun x _ h e=>h ((hF.2 x).2 e)),⟨hO,fun _=>Iff.rfl⟩,fun b hb=>?_⟩)
 rcases hv with e | e
 · exact .inl ((hF.2 b).2 (e ▸ hb))
 · rw [e] at hb;cases hb;exact .inr (Nat.le_refl _)
theorem wps_text {id : Nat} {l : List Oper} (S : St G w0 w L) (hm : P.follows .mixedOrders = true) (hB : textB P l.toArray = true) (next : ∀ w',St G w0 w' L → wpList P l.toArray (Tot (allNeeds l.toArray) Q) l a w') : (Code.region id l.toArray true).wp P Q a w:=
 wp_region_text hm hB (next _ (S.ext (keep_drew w)))
theorem SlAt.rd {α : Type} {enc : α → List Value} {k : Nat} {F : Nat → Prop} {v : Value} {xs : List α} (hk : ∀ x,(enc x).length = k) (h : SlAt enc k w F v xs) : Rd enc w v xs:=by
 obtain ⟨a,c,rfl,h1,h2,h3⟩:=h
 refine ⟨a,c,rfl,fun e=>⟨List.eq_nil_of_length_eq_zero (by have:=h2 e;omega),h2 e⟩,fun ad ha j u hu=>?_⟩
 have hjl : j < xs.length * k:=by have:=(List.getElem?_eq_some_iff.1 hu).1;rwa [flatE_length hk] at this
 have hk0 : 0 < k:=by rcases Nat.eq_zero_or_pos k with h | h;· subst h;omega
                      · exact h
 have hi : j / k < xs.length:=(Nat.div_lt_iff_lt_mul hk0).2 hjl
 obtain ⟨R,o,e,_,hc⟩:=h3 (j / k) xs[j / k] (List.getElem?_eq_getElem hi)
 rw [ha] at e
 cases e
 have hg:=flatE_get hk (List.getElem?_eq_getElem hi) (j % k) (Nat.mod_lt _ hk0)
 have hj : j / k * k + j % k = j:=by rw [Nat.mul_comm];exact Nat.div_add_mod j k
 rw [hj] at hg
 rw [hg] at hu
 rw [add_none,← hj,← Nat.add_assoc]
 exact hc _ _ hu
theorem blk_rd {α : Type} {enc : α → List Value} {b : Nat} {cs : Array Value} {t : TypeId} (ys : List α) (n : Nat) (h : w.heap[b]? = some (.cells cs t (0,0))) (hy : flatE enc ys = cs.toList) (hn : ys.length = n) : Rd enc w (.slice (some ⟨b,0,none⟩) n n) ys:=
 ⟨some ⟨b,0,none⟩,n,by rw [hn],(fun e=>by cases e),fun ad ha j u hu=>by cases ha;rw [add_none,cell_of h,Nat.zero_add,← Array.getElem?_toList,← hy];exact hu⟩
theorem wps_build1 (S : St G w0 w L) {T E : TypeId} {v : Value} {cs : Array Value} (hx : a.eval x = v) (hr : ∀ w,(Instr.buildSlice T 1 #[(0,v)]).run P w = .ok (.slice (some ⟨w.heap.size,0,none⟩) 1 1) (w.alloc (.cells cs E)))
 (next : ∀ b w',St G w0 w' (Blk false b cs E :: L) → wpList P ops Q rest (a.put d (.slice (some ⟨b,0,none⟩) 1 1)) w') (hgd : gOk gd ops a = true:=by with_unfolding_all rfl) :
 wpList P ops Q ({ dst:=d,op:=.buildSlice T 1 #[(0,x)],type:=tt,pos:=p,after:=af,guard:=gd } :: rest) a w:=
 wpList_ok hgd fun K hK=>by
  unfold Oper.wp execOp
  simp only [List.map_toArray,List.map_cons,List.map_nil,hx,hr,Sem.run_bind,Sem.run_pure,Result.andThen_ok]
  exact hK _ _ (next _ _ (S.blk_new cs E))
theorem wps_build1a (S : St G w0 w L) {T E : TypeId} {cs : Array Value} (hx : a.eval x = .agg cs) (hr : ∀ w,(Instr.buildSlice T 1 #[(0,.agg cs)]).run P w = .ok (.slice (some ⟨w.heap.size,0,none⟩) 1 1) (w.alloc (.cells cs E)))
 (next : ∀ b w',St G w0 w' (Blk false b cs E :: L) → wpList P ops Q rest (a.put d (.slice (some ⟨b,0,none⟩) 1 1)) w') (hgd : gOk gd ops a = true:=by with_unfolding_all rfl) :
 wpList P ops Q ({ dst:=d,op:=.buildSlice T 1 #[(0,x)],type:=tt,pos:=p,after:=af,guard:=gd } :: rest) a w:=wps_build1 S hx hr next hgd
theorem wps_build11 (S : St G w0 w L) {T E : TypeId} {v : Value} (hx : a.eval x = v) (hr : ∀ w,(Instr.buildSlice T 1 #[(0,v)]).run P w = .ok (.slice (some ⟨w.heap.size,0,none⟩) 1 1) (w.alloc (.cells #[v] E)))
 (next : ∀ b w',St G w0 w' (Blk false b #[v] E :: L) → wpList P ops Q rest (a.put d (.slice (some ⟨b,0,none⟩) 1 1)) w') (hgd : gOk gd ops a = true:=by with_unfolding_all rfl) :
 wpList P ops Q ({ dst:=d,op:=.buildSlice T 1 #[(0,x)],type:=tt,pos:=p,after:=af,guard:=gd } :: rest) a w:=wps_build1 S hx hr next hgd
theorem wps_build0 {α : Type} (enc : α → List Value) (k : Nat) (S : St G w0 w L) {T E : TypeId} (hr : ∀ w,(Instr.buildSlice T 0 #[]).run P w = .ok (.slice (some ⟨w.heap.size,0,none⟩) 0 0) (w.alloc (.cells #[] E)))
 (next : ∀ b w',St G w0 w' (Own E enc k (.slice (some ⟨b,0,none⟩) 0 0) [] :: L) → wpList P ops Q rest (a.put d (.slice (some ⟨b,0,none⟩) 0 0)) w') (hgd : gOk gd ops a = true:=by with_unfolding_all rfl) :
 wpList P ops Q ({ dst:=d,op:=.buildSlice T 0 #[],type:=tt,pos:=p,after:=af,guard:=gd } :: rest) a w:=
 wpList_ok hgd fun K hK=>by
  unfold Oper.wp execOp
  simp only [List.map_toArray,List.map_nil,hr,Sem.run_bind,Sem.run_pure,Result.andThen_ok]
  exact hK _ _ (next _ _ (S.grow (F:=fun x=>x = w.heap.size) (keep_alloc w _) ⟨⟨by simp [flatE],.inr ⟨w.heap.size,0,#[],rfl,Nat.zero_le _,heap_alloc_new w _,Nat.le_refl _,by simp [maxLen],by simp,by simp [flatE]⟩⟩,fun x=>by simp [Value.ownBlock,eq_comm]⟩ (fun _ e=>Nat.le_of_eq e.symm)))
theorem wps_append1 {α : Type} {sh : Bool} {T E E' : TypeId} {enc : α → List Value} {k bytes b : Nat} {cs : Array Value} {v : Value} {xs : List α} (el : Elem P T E k bytes) (hk : ∀ x,(enc x).length = k) (hone : ∀ x,∀ u ∈ enc x,u.oneCell' = true) (hby : bytes ≤ 32768)
 (S : St G w0 w L) (i : Nat) (hi : L[i]? = some (Own E enc k v xs)) (j : Nat) (hj : L[j]? = some (Blk sh b cs E')) (e : α) (hx : a.eval x = v) (hy : a.eval y = .slice (some ⟨b,0,none⟩) 1 1) (he : enc e = cs.toList) (hl : xs.length < 4294967296)
 (next : ∀ ad n c w',Hid (n = xs.length + 1) → St G w0 w' (L.set i (Own E enc k (.slice ad n c) (xs ++ [e]))) → wpList P ops Q rest (a.put d (.slice ad n c)) w') (hgd : gOk gd ops a = true:=by with_unfolding_all rfl) :
 wpList P ops Q ({ dst:=d,op:=.call { callee:=.builtin .append,args:=#[x,y],argTypes:=#[T,T] },type:=tt,pos:=p,after:=af,guard:=gd } :: rest) a w:=by
 have h2 : (xs.length + 1) * bytes ≤ 4294967296 * 32768:=Nat.mul_le_mul (by omega) hby
 exact wps_append (hgd:=hgd) el hk hone S i hi (blk_rd [e] 1 (S.blk j hj) (by simpa [flatE] using he) rfl) (by simp [maxLen];omega) (by simp;omega) hx hy fun v' w' S'=>by
  have hl' : i < L.length:=(List.getElem?_eq_some_iff.1 hi).1
  obtain ⟨F,h⟩:=S'.get (i:=i) (List.getElem?_set_self hl')
  obtain ⟨ad,c,rfl⟩:=h.1.form
  exact next _ _ _ _ (by simp [Hid]) S'
theorem wps_appends {α : Type} {sh : Bool} {T E : TypeId} {enc : α → List Value} {k bytes : Nat} {v sv : Value} {xs ys : List α} (el : Elem P T E k bytes) (hk : ∀ x,(enc x).length = k) (hone : ∀ x,∀ u ∈ enc x,u.oneCell' = true) (hby : bytes ≤ 32768)
 (S : St G w0 w L) (i : Nat) (hi : L[i]? = some (Own E enc k v xs)) (j : Nat) (hj : L[j]? = some (Sl sh enc k sv ys)) (hx : a.eval x = v) (hy : a.eval y = sv) (hl : xs.length + ys.length ≤ 4294967296)
 (next : ∀ ad n c w',Hid (n = xs.length + ys.length) → St G w0 w' (L.set i (Own E enc k (.slice ad n c) (xs ++ ys))) → wpList P ops Q rest (a.put d (.slice ad n c)) w') (hgd : gOk gd ops a = true:=by with_unfolding_all rfl) :
 wpList P ops Q ({ dst:=d,op:=.call { callee:=.builtin .append,args:=#[x,y],argTypes:=#[T,T] },type:=tt,pos:=p,after:=af,guard:=gd } :: rest) a w:=by
 obtain ⟨F,hs⟩:=S.sl j hj
 have h2 : (xs.length + ys.length) * bytes ≤ 4294967296 * 32768:=Nat.mul_le_mul hl hby
 exact wps_append (hgd:=hgd) el hk hone S i hi (hs.rd hk) (by simp [maxLen];omega) (by omega) hx hy fun v' w' S'=>by
  have hl' : i < L.length:=(List.getElem?_eq_some_iff.1 hi).1
  obtain ⟨F,h⟩:=S'.get (i:=i) (List.getElem?_set_self hl')
  obtain ⟨ad,c,rfl⟩:=h.1.form
  exact next _ _ _ _ (by simp [Hid]) S'
theorem SlAt.sub {α : Type} {enc : α → List Value} {k : Nat} {F : Nat → Prop} {ad : Option Addr} {n c : Nat} {xs : List α} (h : SlAt enc k w F (.slice ad n c) xs) {l u : Nat} (hlu : l ≤ u) (hu : u ≤ xs.length) :
 SlAt enc k w F (.slice (if c = l then ad else ad.map (·.add (l * k))) (u - l) (c - l)) ((xs.take u).drop l):=by
 obtain ⟨a',c',e,h1,h2,hc⟩:=h
 simp only [Value.slice.injEq] at e
 obtain ⟨rfl,rfl,rfl⟩:=e
 refine ⟨_,c - l,by congr 1;simp;omega,by simp;omega,fun e=>?_,fun i x hi=>?_⟩
 · split at e
   · omega
   · cases ad with
     | none=>have:=h2 rfl;omega
     | some _=>cases e
 · have hil : i < u - l:=by have:=(List.getElem?_eq_some_iff.1 hi).1;simp at this;omega
   rw [List.getElem?_drop,List.getElem?_take_of_lt (by omega)] at hi
   obtain ⟨R,o,e,hR,hcell⟩:=hc _ x hi
   refine ⟨R,o + l * k,?_,hR,fun j v hj=>?_⟩
   · rw [if_neg (by omega),e];simp [add_none]
   · have:=hcell j v hj
     rw [Nat.add_mul] at this
     rw [← this];congr 2;omega
theorem run_slice_sl {T E : TypeId} {k : Nat} (hT : P.underlying T = some (.slice E)) (hE : (sizeOf E).run P w = .ok k w) (ad : Option Addr) (n c l u : Nat) (lo hi : Option Value)
 (hlo : (lo = none ∧ l = 0) ∨ lo = some (.int .i64 l)) (hhi : (hi = none ∧ u = n) ∨ hi = some (.int .i64 u)) (h1 : l ≤ u) (h2 : u ≤ c) :
 (Instr.slice T (.slice ad n c) lo hi none).run P w = .ok (.slice (if c = l then ad else ad.map (·.add (l * k))) (u - l) (c - l)) w:=by
 have h3 : ¬ c < u:=by omega
 have h4 : ¬ u < l:=by omega
 rcases hlo with ⟨rfl,rfl⟩ | rfl <;> rcases hhi with ⟨rfl,rfl⟩ | rfl
 · simp [Instr.slice,run_underlying hT,Instr.sliceBounds,hE]
 · simp [Instr.slice,run_underlying hT,Instr.sliceBounds,Instr.sliceBound,asIntOf,hE,h2]
 · simp [Instr.slice,run_underlying hT,Instr.sliceBounds,Instr.sliceBound,asIntOf,hE,h1]
 · simp [Instr.slice,run_underlying hT,Instr.sliceBounds,Instr.sliceBound,asIntOf,hE,h1,h2]
theorem run_sliceAt_sl {T E : TypeId} {k : Nat} (hT : P.underlying T = some (.slice E)) (hE : (sizeOf E).run P w = .ok k w) (ad : Option Addr) (n c l u : Nat) (lo hi : Option Value)
 (hlo : (lo = none ∧ l = 0) ∨ lo = some (.int .i64 l)) (hhi : (hi = none ∧ u = n) ∨ hi = some (.int .i64 u)) (h1 : l ≤ u) (h2 : u ≤ c) :
 (Instr.sliceAt T (.slice ad n c) lo hi none).run P w = .ok (.slice (if c = l then ad else ad.map (·.add (l * k))) (u - l) (c - l)) w:=by
 unfold Instr.sliceAt
 simp only [Sem.run_bind,run_underlying hT,Result.andThen_ok,run_slice_sl hT hE ad n c l u lo hi hlo hhi h1 h2]
theorem St.dup (S : St G w0 w L) (i : Nat) (hi : L[i]? = some A) (hs : A.sh = true) (hs' : A'.sh = true) (h : ∀ F,A.at_ w F → A'.at_ w F) : St G w0 w (A' :: L):=by
 obtain ⟨Fs,hf,hd⟩:=S.ex
 have hil:=(List.getElem?_eq_some_iff.1 hi).1
 refine ⟨S.keep,fun j=>match j with | 0=>Fs i | j + 1=>Fs j,fun j B hj=>?_,fun j k B C hjk hj hk=>?_⟩
 · cases j with
   | zero=>simp at hj;subst hj;exact ⟨h _ (hf i A hi).1,fun e=>by rw [hs'] at e;cases e⟩
   | succ j=>exact hf j B (by simpa using hj)
 · cases k with
   | zero=>omega
   | succ k=>
     have hk' : L[k]? = some C:=by simpa using hk
     cases j with
     | zero=>
       simp at hj;subst hj
       by_cases e : k = i
       · subst e;rw [hi] at hk';cases hk';exact .inl ⟨hs',hs⟩
       · rcases Nat.lt_or_gt_of_ne e with h1 | h1
         · rcases hd k i C A h1 hk' hi with ⟨e1,_⟩ | e1
           · exact .inl ⟨hs',e1⟩
           · exact .inr fun b hb hb'=>e1 b hb' hb
         · rcases hd i k A C h1 hi hk' with ⟨_,e1⟩ | e1
           · exact .inl ⟨hs',e1⟩
           · exact .inr e1
     | succ j=>exact hd j k B C (by omega) (by simpa using hj) hk'
theorem wps_slice {α : Type} {enc : α → List Value} {k n c : Nat} {ad : Option Addr} {xs : List α} (S : St G w0 w L) (i : Nat) (hi : L[i]? = some (Sl true enc k (.slice ad n c) xs)) {T E : TypeId} (l u : Nat) {lo hi' : Option Operand}
 (hT : P.underlying T = some (.slice E)) (hE : ∀ w,(sizeOf E).run P w = .ok k w) (hx : a.eval x = .slice ad n c) (hlo : (lo.map a.eval = none ∧ l = 0) ∨ lo.map a.eval = some (.int .i64 l)) (hhi : (hi'.map a.eval = none ∧ u = n) ∨ hi'.map a.eval = some (.int .i64 u))
 (h1 : l ≤ u) (h2 : u ≤ xs.length) (next : ∀ ad' n' c',Hid (n' = u - l) → St G w0 w (Sl true enc k (.slice ad' n' c') ((xs.take u).drop l) :: L) → wpList P ops Q rest (a.put d (.slice ad' n' c')) w) (hgd : gOk gd ops a = true:=by with_unfolding_all rfl) :
 wpList P ops Q ({ dst:=d,op:=.slice T x lo hi' none,type:=tt,pos:=p,after:=af,guard:=gd } :: rest) a w:=
 wpList_ok hgd fun K hK=>by
  obtain ⟨F,hs⟩:=S.sl i hi
  have hc : u ≤ c:=by obtain ⟨a',c',e,h3,_⟩:=hs;simp only [Value.slice.injEq] at e;omega
  unfold Oper.wp execOp
  simp only [Option.map_none,hx,run_sliceAt_sl hT (hE w) ad n c l u _ _ hlo hhi h1 hc,Sem.run_bind,Sem.run_pure,Result.andThen_ok]
  exact hK _ _ (next _ _ _ rfl (S.dup i hi rfl rfl fun F h=>⟨h.1.sub h1 h2,h.2⟩))
def sep (sh : Bool) (A B : Asn) : Asn where
 sh:=sh
 at_ w F:=∃ F1 F2,A.at_ w F1 ∧ B.at_ w F2 ∧ (∀ b,F1 b → ¬ F2 b) ∧ ∀ b,F b ↔ (F1 b ∨ F2 b)
 loc h hb:=let ⟨F1,F2,h1,h2,h3,h4⟩:=h;⟨F1,F2,A.loc h1 (fun b x=>hb b ((h4 b).2 (.inl x))),B.loc h2 (fun b x=>hb b ((h4 b).2 (.inr x))),h3,h4⟩
 lt h b hb:=let ⟨_,_,h1,h2,_,h4⟩:=h;((h4 b).1 hb).elim (A.lt h1 b) (B.lt h2 b)
def exs {α : Type} (sh : Bool) (A : α → Asn) : Asn where
 sh:=sh
 at_ w F:=∃ x,(A x).at_ w F
 loc h hb:=let ⟨x,h⟩:=h;⟨x,(A x).loc h hb⟩
 lt h b hb:=let ⟨x,h⟩:=h;(A x).lt h b hb
def pur (q : Prop) : Asn where
 sh:=false
 at_ _ F:=q ∧ ∀ b,¬ F b
 loc h _:=h
 lt h b hb:=(h.2 b hb).elim
theorem St.open_exs {α : Type} {sh : Bool} {A : α → Asn} (S : St G w0 w (exs sh A :: L)) (ho : ∀ x,(A x).sh = sh) : ∃ x,St G w0 w (A x :: L):=by
 obtain ⟨Fs,hf,hd⟩:=S.ex
 obtain ⟨⟨x,hx⟩,h0⟩:=hf 0 _ rfl
 refine ⟨x,S.keep,Fs,fun i B hi=>?_,fun i j B C hij hi hj=>?_⟩
 · cases i with
   | zero=>simp at hi;subst hi;exact ⟨hx,fun e=>h0 ((ho x).symm.trans e)⟩
   | succ i=>exact hf (i + 1) B (by simpa using hi)
 · cases j with
   | zero=>omega
   | succ j=>
     cases i with
     | zero=>
       simp at hi;subst hi
       rw [ho x]
       exact hd 0 (j + 1) _ C (by omega) rfl (by simpa using hj)
     | succ i=>exact hd (i + 1) (j + 1) B C hij (by simpa using hi) (by simpa using hj)
theorem St.close_exs {α : Type} {sh : Bool} {A : α → Asn} (x : α) (S : St G w0 w (A x :: L)) (ho : (A x).sh = sh) : St G w0 w (exs sh A :: L):=by
 have:=S.weak (i:=0) (A:=A x) (A':=exs sh A) rfl (fun e=>ho.trans e) (fun F h=>⟨F,fun _ hb=>hb,x,h⟩)
 simpa using this
theorem St.open_sep {sh : Bool} (S : St G w0 w (sep sh A A' :: L)) (ho : A.sh = sh) (ho' : A'.sh = sh) : St G w0 w (A :: A' :: L):=by
 obtain ⟨Fs,hf,hd⟩:=S.ex
 obtain ⟨⟨F1,F2,h1,h2,h3,h4⟩,h0⟩:=hf 0 _ rfl
 refine ⟨S.keep,fun i=>match i with | 0=>F1 | 1=>F2 | i + 2=>Fs (i + 1),fun i B hi=>?_,fun i j B C hij hi hj=>?_⟩
 · match i,hi with
   | 0,hi=>simp at hi;subst hi;exact ⟨h1,fun e b hb=>h0 (ho.symm.trans e) b ((h4 b).2 (.inl hb))⟩
   | 1,hi=>simp at hi;subst hi;exact ⟨h2,fun e b hb=>h0 (ho'.symm.trans e) b ((h4 b).2 (.inr hb))⟩
   | i + 2,hi=>exact hf (i + 1) B (by simpa using hi)
 · match i,j,hi,hj,hij with
   | _,0,_,_,h=>omega
   | 0,1,_,_,_=>exact .inr h3
   | 0,j + 2,hi,hj,_=>
     simp at hi;subst hi
     rcases hd 0 (j + 1) _ C (by omega) rfl (by simpa using hj) with ⟨e,e2⟩ | e
     · exact .inl ⟨ho.trans e,e2⟩
     · exact .inr fun b hb=>e b ((h4 b).2 (.inl hb))
   | 1,1,_,_,h=>omega
   | 1,j + 2,hi,hj,_=>
     simp at hi;subst hi
     rcases hd 0 (j + 1) _ C (by omega) rfl (by simpa using hj) with ⟨e,e2⟩ | e
     · exact .inl ⟨ho'.trans e,e2⟩
     · exact .inr fun b hb=>e b ((h4 b).2 (.inr hb))
   | i + 2,1,_,_,h=>omega
   | i + 2,j + 2,hi,hj,h=>exact hd (i + 1) (j + 1) B C (by omega) (by simpa using hi) (by simpa using hj)
theorem St.close_sep (S : St G w0 w (A :: A' :: L)) (ho : A.sh = false) (ho' : A'.sh = false) : St G w0 w (sep false A A' :: L):=by
 obtain ⟨Fs,hf,hd⟩:=S.ex
 obtain ⟨h1,g1⟩:=hf 0 _ rfl
 obtain ⟨h2,g2⟩:=hf 1 _ rfl
 have g1:=g1 ho
 have g2:=g2 ho'
 have hapart : ∀ b,Fs 0 b → ¬ Fs 1 b:=by
  rcases hd 0 1 _ _ (by omega) rfl rfl with ⟨e,_⟩ | e
  · rw [ho] at e;cases e
  · exact e
 refine ⟨S.keep,fun i=>match i with | 0=>(fun b=>Fs 0 b ∨ Fs 1 b) | i + 1=>Fs (i + 2),fun i B hi=>?_,fun i j B C hij hi hj=>?_⟩
 · match i,hi with
   | 0,hi=>simp at hi;subst hi;exact ⟨⟨Fs 0,Fs 1,h1,h2,hapart,fun _=>Iff.rfl⟩,fun _ b hb=>hb.elim (g1 b) (g2 b)⟩
   | i + 1,hi=>exact hf (i + 2) B (by simpa using hi)
 · match i,j,hi,hj,hij with
   | _,0,_,_,h=>omega
   | 0,j + 1,hi,hj,_=>
     refine .inr fun b hb=>?_
     rcases hb with hb | hb
     · rcases hd 0 (j + 2) _ C (by omega) rfl (by simpa using hj) with ⟨e,_⟩ | e
       · rw [ho] at e;cases e
       · exact e b hb
     · rcases hd 1 (j + 2) _ C (by omega) rfl (by simpa using hj) with ⟨e,_⟩ | e
       · rw [ho'] at e;cases e
       · exact e b hb
   | i + 1,j + 1,hi,hj,h=>exact hd (i + 2) (j + 2) B C (by omega) (by simpa using hi) (by simpa using hj)
theorem St.tail (S : St G w0 w (A :: L)) : St G w0 w L:=by
 obtain ⟨Fs,hf,hd⟩:=S.ex
 exact ⟨S.keep,fun i=>Fs (i + 1),fun i B hi=>hf (i + 1) B (by simpa using hi),fun i j B C hij hi hj=>hd (i + 1) (j + 1) B C (by omega) (by simpa using hi) (by simpa using hj)⟩
theorem St.open_pur {q : Prop} (S : St G w0 w (pur q :: L)) : q ∧ St G w0 w L:=⟨let ⟨_,h⟩:=S.get (i:=0) rfl;h.1,S.tail⟩
theorem St.close_pur {q : Prop} (S : St G w0 w L) (hq : q) : St G w0 w (pur q :: L):=S.grow (F:=fun _=>False) (Keep.refl _ _) ⟨hq,fun _=>id⟩ (fun _ h=>h.elim)
end
end Go.Proofs.YtmjljoaakdocaaaGreatDoor.Mem
