import Derived.Test.YtmjljoaakdocaaaGreatDoorY04
import Derived.Maps.RangeRun
import Derived.Laws.IdiomRangeMap
import Derived.Test.YtmjljoaakdocaaaGreatDoorY02
import Derived.Sort.Statements
import Derived.Test.YtmjljoaakdocaaaGreatDoorY03
import Derived.Shelf.SlSortCmp.WholeK
import Derived.Shelf.SlSortCmp.Whole1
import Derived.Test.YtmjljoaakdocaaaGreatDoorY07
/- A map whose entries are told one by one, so that it can be gone through. Over any program. -/
set_option maxHeartbeats 16000000
set_option maxRecDepth 100000
namespace Go.Proofs.YtmjljoaakdocaaaGreatDoor.Mem
open Go Go.RowKit Reg
open List (set_cons_succ set_cons_zero setIfInBounds_toArray cons_append nil_append)
open Go.ChangeMaps (setBlock)
open List (set_cons_succ set_cons_zero setIfInBounds_toArray cons_append nil_append)
open Go.MapKept (heap_set)
open List (set_cons_succ set_cons_zero setIfInBounds_toArray cons_append nil_append)
variable {P : Program} {K : TypeId} {κ : Type} [DecidableEq κ] {kv : κ → List Value}
structure Tells (P : Program) (K : TypeId) (kv : κ → List Value) (es : Array MapEntry) (clock : Nat) (l : List (κ × Value)) : Prop where
 same : es.toList.map (fun e=>(e.key,e.val)) = l.map fun p=>(whole P K (kv p.1),p.2)
 keys : (l.map (·.1)).Nodup
 born : (es.toList.map (·.born)).Nodup
 old : ∀ e ∈ es.toList,e.born < clock
def MapE (sh : Bool) (M : Nat) (es : Array MapEntry) (clock : Nat) : Asn where
 sh:=sh
 at_ w F:=w.heap[M]? = some (.map es clock) ∧ ∀ x,F x ↔ x = M
 loc h hb:=⟨(hb M ((h.2 M).2 rfl)).trans h.1,h.2⟩
 lt h b hb:=by rw [(h.2 b).1 hb];exact (Array.getElem?_eq_some_iff.1 h.1).1
def IterE (r M since : Nat) (seen : Array Nat) (c0 : Nat) : Asn where
 sh:=false
 at_ w F:=w.heap[r]? = some (.mapIter (some M) since seen c0) ∧ ∀ x,F x ↔ x = r
 loc h hb:=⟨(hb r ((h.2 r).2 rfl)).trans h.1,h.2⟩
 lt h b hb:=by rw [(h.2 b).1 hb];exact (Array.getElem?_eq_some_iff.1 h.1).1
def MapK (sh : Bool) (P : Program) (K : TypeId) (kv : κ → List Value) (M : Nat) (l : List (κ × Value)) : Asn where
 sh:=sh
 at_ w F:=(∃ es clock,w.heap[M]? = some (.map es clock) ∧ Tells P K kv es clock l) ∧ ∀ x,F x ↔ x = M
 loc h hb:=⟨let ⟨es,c,h1,h2⟩:=h.1;⟨es,c,(hb M ((h.2 M).2 rfl)).trans h1,h2⟩,h.2⟩
 lt h b hb:=by rw [(h.2 b).1 hb];obtain ⟨es,c,h1,h2⟩:=h.1;exact (Array.getElem?_eq_some_iff.1 h1).1
def lookK (l : List (κ × Value)) (k : κ) : Option Value:=(place l k 0).map (·.2)
theorem mapK_is {sh : Bool} {w : World} {F : Nat → Prop} {M : Nat} {l : List (κ × Value)} (h : (MapK sh P K kv M l).at_ w F) : MapIs P w M K kv (lookK l):=by
 obtain ⟨⟨es,c,h1,h2⟩,_⟩:=h
 exact ⟨l,⟨es,c,h1,h2.same⟩,h2.keys,fun k=>rfl⟩
theorem lookK_none {l : List (κ × Value)} {k : κ} (h : k ∉ l.map (·.1)) : lookK l k = none:=by unfold lookK;rw [place_none.2 h];rfl
theorem lookK_at {l : List (κ × Value)} {k : κ} {v : Value} {n : Nat} (hd : (l.map (·.1)).Nodup) (h : l[n]? = some (k,v)) : lookK l k = some v:=by
 unfold lookK
 cases hp : place l k 0 with
 | none=>exact absurd (List.mem_map.2 ⟨(k,v),List.mem_of_getElem? h,rfl⟩) (place_none.1 hp)
 | some q=>
   obtain ⟨m,u⟩:=q
   have h2:=(place_some hp).2
   simp only [Nat.sub_zero] at h2
   have e1 : (l.map (·.1))[n]? = some k:=by rw [List.getElem?_map,h];rfl
   have e2 : (l.map (·.1))[m]? = some k:=by rw [List.getElem?_map,h2];rfl
   have hn:=(List.getElem?_eq_some_iff.1 e1).1
   have hm:=(List.getElem?_eq_some_iff.1 e2).1
   have : n = m:=(List.getElem_inj hd).1 ((List.getElem?_eq_some_iff.1 e1).2.trans (List.getElem?_eq_some_iff.1 e2).2.symm)
   subst this
   rw [h] at h2
   simp only [Option.some.injEq,Prod.mk.injEq,true_and] at h2
   rw [h2];rfl
section
variable {w : World} {M : Nat} {T E : TypeId} {l : List (κ × Value)} {es : Array MapEntry} {clock : Nat}
theorem run_updK_new (hK : Keyed P K kv) (hT : P.underlying T = some (.map K E)) (h1 : w.heap[M]? = some (.map es clock)) (ht : Tells P K kv es clock l) (k : κ) (v : Value) (hk : k ∉ l.map (·.1)) :
 ∃ w' es' c',(Instr.mapUpdate T (.map (some M)) (whole P K (kv k)) v).run P w = .ok () w' ∧ w'.heap[M]? = some (.map es' c') ∧ Tells P K kv es' c' (l ++ [(k,v)]) ∧ Keep (fun b=>b = M) w w':=by
 have hck:=run_checkKey (P:=P) w false 100 K hK.ks hK.layK 10000 (kv k) (by omega) (hK.fit k)
 have hfk:=run_findKey hK k w es.toList l ht.same
 have hlt : M < w.heap.size:=(Array.getElem?_eq_some_iff.1 h1).1
 have hset : ∀ o : Obj,(w.heap.setIfInBounds M o)[M]? = some o:=fun o=>by simp [hlt]
 have hp : place l k 0 = none:=place_none.2 hk
 unfold Instr.mapUpdate
 simp only [Sem.run_bind,run_underlying hT,Result.andThen_ok,getObj,Sem.run,h1,hck,hfk,hp]
 simp only [setObj,Sem.run,h1]
 refine ⟨_,_,_,rfl,hset _,⟨?_,?_,?_,?_⟩,set_keep⟩
 · simp [ht.same]
 · rw [List.map_append,List.nodup_append]
   exact ⟨ht.keys,by simp,fun a ha b hb=>by simp at hb;subst hb;exact fun e=>hk (e ▸ ha)⟩
 · rw [Array.toList_push,List.map_append,List.nodup_append]
   refine ⟨ht.born,by simp,fun a ha b hb=>?_⟩
   obtain ⟨e,he,rfl⟩:=List.mem_map.1 ha
   have:=ht.old e he
   simp at hb
   omega
 · intro e he
   rw [Array.toList_push,List.mem_append] at he
   rcases he with he | he
   · have:=ht.old e he;omega
   · simp at he;subst he;simp
theorem run_updK_set (hK : Keyed P K kv) (hT : P.underlying T = some (.map K E)) (h1 : w.heap[M]? = some (.map es clock)) (ht : Tells P K kv es clock l) (k : κ) (v u : Value) (n : Nat) (hn : l[n]? = some (k,u)) :
 ∃ w' es',(Instr.mapUpdate T (.map (some M)) (whole P K (kv k)) v).run P w = .ok () w' ∧ w'.heap[M]? = some (.map es' clock) ∧ Tells P K kv es' clock (l.set n (k,v)) ∧ Keep (fun b=>b = M) w w':=by
 have hck:=run_checkKey (P:=P) w false 100 K hK.ks hK.layK 10000 (kv k) (by omega) (hK.fit k)
 have hfk:=run_findKey hK k w es.toList l ht.same
 have hlt : M < w.heap.size:=(Array.getElem?_eq_some_iff.1 h1).1
 have hset : ∀ o : Obj,(w.heap.setIfInBounds M o)[M]? = some o:=fun o=>by simp [hlt]
 have hleaf : isAggB P K = false → (kv k).length = 1:=fun ha=>(fits_length (hK.fit k)).trans (lay_leaf hK.layK ha)
 obtain ⟨e,he,hek,hev⟩ : ∃ e : MapEntry,es[n]? = some e ∧ e.key = whole P K (kv k) ∧ e.val = u:=by
  have : (es.toList.map fun e=>(e.key,e.val))[n]? = some (whole P K (kv k),u):=by rw [ht.same];simp [hn]
  simp only [List.getElem?_map,Option.map_eq_some_iff,Prod.mk.injEq] at this
  obtain ⟨e,he,h5,h6⟩:=this
  exact ⟨e,by simpa using he,h5,h6⟩
 obtain ⟨m,u',hp⟩ : ∃ m u',place l k 0 = some (m,u'):=by
  cases hp : place l k 0 with
  | none=>exact absurd (List.mem_map.2 ⟨(k,u),List.mem_of_getElem? hn,rfl⟩) (place_none.1 hp)
  | some q=>exact ⟨q.1,q.2,rfl⟩
 have h2:=(place_some hp).2
 simp only [Nat.sub_zero] at h2
 have hmn : n = m:=by
  have e1 : (l.map (·.1))[n]? = some k:=by rw [List.getElem?_map,hn];rfl
  have e2 : (l.map (·.1))[m]? = some k:=by rw [List.getElem?_map,h2];rfl
  exact (List.getElem_inj ht.keys).1 ((List.getElem?_eq_some_iff.1 e1).2.trans (List.getElem?_eq_some_iff.1 e2).2.symm)
 subst hmn
 have hkey : (es[n]?.map (·.key)).getD (whole P K (kv k)) = whole P K (kv k):=by rw [he];simpa using hek
 unfold Instr.mapUpdate
 simp only [Sem.run_bind,run_underlying hT,Result.andThen_ok,getObj,Sem.run,h1,hck,hfk,hp]
 simp only [hkey,Instr.keyThatStays,sameBits_whole (P:=P) (K:=K) (hK.fit k) hleaf,if_true,Sem.run_bind,Sem.run_pure,Result.andThen_ok,setObj,Sem.run,h1]
 have hlist : ∀ f : MapEntry → MapEntry,(es.modify n f).toList = es.toList.modify n f:=fun f=>Array.toList_modify
 refine ⟨_,_,rfl,hset _,⟨?_,?_,?_,?_⟩,set_keep⟩
 · rw [Array.toList_modify,List.map_set,← ht.same]
   apply List.ext_getElem?
   intro j
   simp only [List.getElem?_map,List.getElem?_modify,List.getElem?_set]
   by_cases hj : n = j
   · subst hj
     have hn : n < es.toList.length:=by have:=(Array.getElem?_eq_some_iff.1 he).1;simpa using this
     have hn2 : n < es.size:=by simpa using hn
     simp [hn2]
   · simp [hj]
 · rw [List.map_set]
   have e1 : (l.map (·.1)).set n k = l.map (·.1):=by
    apply List.ext_getElem?
    intro j
    simp only [List.getElem?_set,List.getElem?_map,List.length_map]
    by_cases hj : n = j
    · subst hj
      obtain ⟨hlt2,he2⟩:=List.getElem?_eq_some_iff.1 hn
      simp [hlt2,he2]
    · simp [hj]
   rw [e1];exact ht.keys
 · have e1 : ∀ f : MapEntry → MapEntry,(∀ x,(f x).born = x.born) → (es.modify n f).toList.map (·.born) = es.toList.map (·.born):=fun f hf=>by
    rw [Array.toList_modify]
    apply List.ext_getElem?
    intro j
    simp only [List.getElem?_map,List.getElem?_modify]
    by_cases hj : n = j
    · subst hj;cases es.toList[n]? <;> simp [hf]
    · simp [hj]
   exact Eq.mpr (congrArg List.Nodup (e1 _ (fun _=>rfl))) ht.born
 · intro x hx
   rw [Array.toList_modify] at hx
   obtain ⟨j,hj,ej⟩:=List.mem_iff_getElem.1 hx
   have hj2 : j < es.toList.length:=by simpa using hj
   have hold:=ht.old (es.toList[j]) (List.getElem_mem hj2)
   rw [← ej,List.getElem_modify]
   split <;> exact hold
end
section
variable {ops : Array Oper} {rest : List Oper} {a : Act} {Q : Exit → Act → World → Prop} {d : Option Tmp} {tt : TypeId} {p : String} {af : Array Edge} {gd : Option (Nat × Bool)} {x y z : Operand}
variable {G : Nat → Prop} {w0 w w' : World} {L : List Asn} {T E : TypeId} {M : Nat} {l : List (κ × Value)}
omit [DecidableEq κ] in
theorem wps_makeMapK (S : St G w0 w L) (kv : κ → List Value) (next : ∀ M w',St G w0 w' (MapK false P K kv M [] :: L) → wpList P ops Q rest (a.put d (.map (some M))) w') (hgd : gOk gd ops a = true:=by with_unfolding_all rfl) :
 wpList P ops Q ({ dst:=d,op:=.makeMap T none,type:=tt,pos:=p,after:=af,guard:=gd } :: rest) a w:=
 wpList_ok hgd fun K' hK=>by
  have hr:=@run_makeMap P T w
  unfold Oper.wp execOp
  simp only [Option.map_none,hr,Sem.run_bind,Sem.run_pure,Result.andThen_ok]
  exact hK _ _ (next _ _ (S.grow (F:=fun x=>x = w.heap.size) (keep_alloc w _) ⟨⟨#[],0,heap_alloc_new w _,⟨rfl,List.nodup_nil,List.nodup_nil,fun e he=>by simp at he⟩⟩,fun _=>Iff.rfl⟩ (fun _ e=>Nat.le_of_eq e.symm)))
theorem wps_lookupK {sh : Bool} (hK : Keyed P K kv) (hT : P.underlying T = some (.map K E)) {zv : Value} (hz : ∀ w,(zeroValue E).run P w = .ok zv w)
 (S : St G w0 w L) (i : Nat) (hi : L[i]? = some (MapK sh P K kv M l)) (k : κ) (hx : a.eval x = .map (some M)) (hy : a.eval y = whole P K (kv k)) {v : Value} (hv : (lookK l k).getD zv = v)
 (h : wpList P ops Q rest (a.put d v) w) (hgd : gOk gd ops a = true:=by with_unfolding_all rfl) : wpList P ops Q ({ dst:=d,op:=.lookup T x y false,type:=tt,pos:=p,after:=af,guard:=gd } :: rest) a w:=by
 obtain ⟨F,hF⟩:=S.get hi
 exact wpList_lookup (hgd:=hgd) hK hT hz (mapK_is hF) k hx hy hv h
theorem wps_updK_new (hK : Keyed P K kv) (hT : P.underlying T = some (.map K E)) (S : St G w0 w L) (i : Nat) (hi : L[i]? = some (MapK false P K kv M l)) (k : κ) (v : Value) (hk : k ∉ l.map (·.1))
 (hx : a.eval x = .map (some M)) (hy : a.eval y = whole P K (kv k)) (hz : a.eval z = v) (next : ∀ w',St G w0 w' (L.set i (MapK false P K kv M (l ++ [(k,v)]))) → wpList P ops Q rest (a.put d undef) w') (hgd : gOk gd ops a = true:=by with_unfolding_all rfl) :
 wpList P ops Q ({ dst:=d,op:=.mapUpdate T x y z,type:=tt,pos:=p,after:=af,guard:=gd } :: rest) a w:=
 wpList_ok hgd fun K' hK'=>by
  obtain ⟨F,hF⟩:=S.get hi
  obtain ⟨⟨es,c,h1,ht⟩,hF2⟩:=hF
  obtain ⟨w',es',c',hr,h2,h3,h4⟩:=run_updK_new hK hT h1 ht k v hk
  unfold Oper.wp execOp
  simp only [hx,hy,hz,hr,Sem.run_bind,Sem.run_pure,Result.andThen_ok]
  exact hK' _ _ (next w' (S.step hi rfl fun F hF=>⟨F,h4.mono (fun x _ h e=>h ((hF.2 x).2 e)),⟨⟨es',c',h2,h3⟩,hF.2⟩,fun _ h=>.inl h⟩))
theorem wps_updK_set (hK : Keyed P K kv) (hT : P.underlying T = some (.map K E)) (S : St G w0 w L) (i : Nat) (hi : L[i]? = some (MapK false P K kv M l)) (k : κ) (v u : Value) (n : Nat) (hn : l[n]? = some (k,u))
 (hx : a.eval x = .map (some M)) (hy : a.eval y = whole P K (kv k)) (hz : a.eval z = v) (next : ∀ w',St G w0 w' (L.set i (MapK false P K kv M (l.set n (k,v)))) → wpList P ops Q rest (a.put d undef) w') (hgd : gOk gd ops a = true:=by with_unfolding_all rfl) :
 wpList P ops Q ({ dst:=d,op:=.mapUpdate T x y z,type:=tt,pos:=p,after:=af,guard:=gd } :: rest) a w:=
 wpList_ok hgd fun K' hK'=>by
  obtain ⟨F,hF⟩:=S.get hi
  obtain ⟨⟨es,c,h1,ht⟩,hF2⟩:=hF
  obtain ⟨w',es',hr,h2,h3,h4⟩:=run_updK_set hK hT h1 ht k v u n hn
  unfold Oper.wp execOp
  simp only [hx,hy,hz,hr,Sem.run_bind,Sem.run_pure,Result.andThen_ok]
  exact hK' _ _ (next w' (S.step hi rfl fun F hF=>⟨F,h4.mono (fun x _ h e=>h ((hF.2 x).2 e)),⟨⟨es',c,h2,h3⟩,hF.2⟩,fun _ h=>.inl h⟩))
omit [DecidableEq κ] in
theorem wps_rangeE {sh : Bool} {es : Array MapEntry} {clock : Nat} (hT : P.underlying T = some (.map K E)) (S : St G w0 w L) (i : Nat) (hi : L[i]? = some (MapE sh M es clock)) (hx : a.eval x = .map (some M))
 (next : ∀ r w',St G w0 w' (IterE r M clock #[] clock :: L) → wpList P ops Q rest (a.put d (.pointer (some ⟨r,0,none⟩))) w') (hgd : gOk gd ops a = true:=by with_unfolding_all rfl) :
 wpList P ops Q ({ dst:=d,op:=.range T x,type:=tt,pos:=p,after:=af,guard:=gd } :: rest) a w:=
 wpList_ok hgd fun K' hK'=>by
  obtain ⟨F,hF⟩:=S.get hi
  have hr:=run_range_map w T K E M es clock hT hF.1
  unfold Oper.wp execOp
  simp only [hx,hr,Sem.run_bind,Sem.run_pure,Result.andThen_ok]
  exact hK' _ _ (next _ _ (S.grow (F:=fun x=>x = w.heap.size) (keep_alloc w _) ⟨heap_alloc_new w _,fun _=>Iff.rfl⟩ (fun _ e=>Nat.le_of_eq e.symm)))
theorem keep_setBlock (w : World) (r : Nat) (o : Obj) : Keep (fun b=>b = r) w (setBlock w r o):=
 ⟨rfl,rfl,rfl,by simp [setBlock],fun b _ hb=>by simp only [setBlock];rw [Array.getElem?_setIfInBounds_ne (Ne.symm hb)],Nat.le_refl _⟩
theorem wps_nextE {sh : Bool} {es : Array MapEntry} {clock r c0 : Nat} {seen : Array Nat} (S : St G w0 w L) (i j : Nat) (hi : L[i]? = some (IterE r M clock seen c0)) (hj : L[j]? = some (MapE sh M es clock)) (hold : ∀ e ∈ es.toList,e.born < clock) (hc0 : clock ≤ c0)
 (hx : a.eval x = .pointer (some ⟨r,0,none⟩))
 (hdone : (∀ e ∈ es.toList,e.born ∈ seen) → wpList P ops Q rest (a.put d (.tuple #[.bool false])) w)
 (hmore : ∀ e w',e ∈ es.toList → e.born ∉ seen → St G w0 w' (L.set i (IterE r M clock (seen.push e.born) clock)) → wpList P ops Q rest (a.put d (.tuple #[.bool true,e.key,e.val])) w') (hgd : gOk gd ops a = true:=by with_unfolding_all rfl) :
 wpList P ops Q ({ dst:=d,op:=.next x false,type:=tt,pos:=p,after:=af,guard:=gd } :: rest) a w:=
 wpList_ok hgd fun K' hK'=>by
  obtain ⟨F,hF⟩:=S.get hi
  obtain ⟨F2,hF2⟩:=S.get hj
  rcases run_next_at (P:=P) w tt r M clock c0 seen es clock hF.1 hF2.1 hold hc0 with ⟨h0,hrun⟩ | ⟨e,he,w1,hal,hrun⟩
  · unfold Oper.wp execOp
    simp only [hx,hrun,Sem.run_bind,Sem.run_pure,Result.andThen_ok]
    refine hK' _ _ (hdone fun e he=>?_)
    have:=all_seen es seen h0 e he
    simpa using this
  · obtain ⟨hem,hes⟩:=mem_left he
    unfold Oper.wp execOp
    simp only [hx,hrun,Sem.run_bind,Sem.run_pure,Result.andThen_ok]
    have S1 : St G w0 w1 L:=by
     rcases hal with rfl | rfl
     · exact S
     · exact S.ext (keep_drew w)
    refine hK' _ _ (hmore e _ hem (by simpa using hes) (S1.step hi rfl fun F3 hF3=>⟨F3,(keep_setBlock w1 r _).mono (fun x _ h e=>h ((hF3.2 x).2 e)),⟨?_,hF3.2⟩,fun _ h=>.inl h⟩))
    exact (heap_set (o':=.mapIter (some M) clock (seen.push e.born) clock) hF3.1).1
theorem wps_entryE {sh : Bool} {es : Array MapEntry} {clock r : Nat} {seen : Array Nat} {e : MapEntry} (S : St G w0 w L) (i j : Nat) (hi : L[i]? = some (IterE r M clock (seen.push e.born) clock)) (hj : L[j]? = some (MapE sh M es clock)) (he : e ∈ es.toList) (hn : (es.toList.map (·.born)).Nodup)
 (hx : a.eval x = .pointer (some ⟨r,0,none⟩)) (next : wpList P ops Q rest (a.put d (.tuple #[e.key,e.val])) w) (hgd : gOk gd ops a = true:=by with_unfolding_all rfl) :
 wpList P ops Q ({ dst:=d,op:=.entry x,type:=tt,pos:=p,after:=af,guard:=gd } :: rest) a w:=
 wpList_ok hgd fun K' hK'=>by
  obtain ⟨F,hF⟩:=S.get hi
  obtain ⟨F2,hF2⟩:=S.get hj
  have hr:=run_entry_at (P:=P) w r M clock seen es clock e hF.1 hF2.1 he hn
  unfold Oper.wp execOp
  simp only [hx,hr,Sem.run_bind,Sem.run_pure,Result.andThen_ok]
  exact hK' _ _ next
end
end Go.Proofs.YtmjljoaakdocaaaGreatDoor.Mem
/- One thing of a state is lent to a call, which hands another one back in its place. Over any program. -/
namespace Go.Proofs.YtmjljoaakdocaaaGreatDoor.Mem
open Go Go.RowKit
open List (set_cons_succ set_cons_zero setIfInBounds_toArray cons_append nil_append)
section
variable {G : Nat → Prop} {w0 w w' : World} {L : List Asn} {A A' : Asn} {i : Nat}
theorem St.stepAt (S : St G w0 w L) (hi : L[i]? = some A) (ho : A.sh = false) : ∃ F,A.at_ w F ∧ ∀ w' A',(∃ F',Keep F w w' ∧ A'.at_ w' F' ∧ ∀ b,F' b → F b ∨ w.heap.size ≤ b) → St G w0 w' (L.set i A'):=by
 obtain ⟨Fs,hf,hd⟩:=S.ex
 refine ⟨Fs i,(hf i A hi).1,fun w' A' ⟨F',hK,hA',hF'⟩=>?_⟩
 have hil:=(List.getElem?_eq_some_iff.1 hi).1
 have hnew : ∀ b,F' b → Fs i b ∨ w.heap.size ≤ b:=hF'
 have apart : ∀ j B,j ≠ i → L[j]? = some B → ∀ b,Fs j b → ¬ Fs i b:=by
  intro j B hj hB b hb hb'
  rcases Nat.lt_or_gt_of_ne hj with h | h
  · rcases hd j i B A h hB hi with ⟨_,e⟩ | e
    · rw [ho] at e;cases e
    · exact e b hb hb'
  · rcases hd i j A B h hi hB with ⟨e,_⟩ | e
    · rw [ho] at e;cases e
    · exact e b hb' hb
 refine ⟨S.keep.trans hK (fun x hx hn=>⟨hn,fun hb=>?_⟩),fun j=>if j = i then F' else Fs j,fun j B hj=>?_,fun j k B C hjk hj hk=>?_⟩
 · rcases (hf i A hi).2 ho x hb with h | h
   · exact hn h
   · omega
 · by_cases e : j = i
   · subst e
     rw [List.getElem?_set_self hil] at hj
     cases hj
     simp only [if_true]
     refine ⟨hA',fun _ b hb=>?_⟩
     rcases hnew b hb with h | h
     · exact (hf j A hi).2 ho b h
     · exact .inr (Nat.le_trans S.size h)
   · rw [List.getElem?_set_ne (Ne.symm e)] at hj
     simp only [if_neg e]
     exact ⟨B.loc (hf j B hj).1 (fun b hb=>hK.block b (B.lt (hf j B hj).1 b hb) (apart j B e hj b hb)),(hf j B hj).2⟩
 · by_cases e : j = i
   · subst e
     have e' : k ≠ j:=by omega
     rw [List.getElem?_set_ne (Ne.symm e')] at hk
     simp only [if_true,if_neg e']
     refine .inr fun b hb hb'=>?_
     rcases hnew b hb with h | h
     · exact apart k C e' hk b hb' h
     · have:=C.lt (hf k C hk).1 b hb';omega
   · rw [List.getElem?_set_ne (Ne.symm e)] at hj
     by_cases e' : k = i
     · subst e'
       simp only [if_true,if_neg e]
       refine .inr fun b hb hb'=>?_
       rcases hnew b hb' with h | h
       · exact apart j B e hj b hb h
       · have:=B.lt (hf j B hj).1 b hb;omega
     · rw [List.getElem?_set_ne (Ne.symm e')] at hk
       simp only [if_neg e,if_neg e']
       exact hd j k B C hjk hj hk
theorem St.lend1 (S : St G w0 w L) (i : Nat) (hi : L[i]? = some A) (ho : A.sh = false) : ∃ F,A.at_ w F ∧ ∀ w' A',A'.sh = false → St F w w' [A'] → St G w0 w' (L.set i A'):=by
 obtain ⟨F,h1,h2⟩:=S.stepAt hi ho
 refine ⟨F,h1,fun w' A' ho' T=>?_⟩
 obtain ⟨Gs,hg,_⟩:=T.ex
 obtain ⟨g1,g2⟩:=hg 0 A' rfl
 exact h2 w' A' ⟨Gs 0,T.keep,g1,g2 ho'⟩
end
end Go.Proofs.YtmjljoaakdocaaaGreatDoor.Mem
/- Plain: the total order of events (by key, then by process, kind and data); a list sorted by it; events of one key counted once. No program in sight. -/
namespace Go.Proofs.YtmjljoaakdocaaaGreatDoor
open Go
open List (set_cons_succ set_cons_zero setIfInBounds_toArray cons_append nil_append)
def Event.tup (e : Event) : Int × Int × Int × Int × Int × Int × Int:=(e.key.at_,e.key.src,e.key.sent,e.key.no,e.dst,e.kind,e.data)
def evLt (a b : Event) : Prop:=
 a.key.at_ < b.key.at_ ∨ (a.key.at_ = b.key.at_ ∧ (a.key.src < b.key.src ∨ (a.key.src = b.key.src ∧ (a.key.sent < b.key.sent ∨ (a.key.sent = b.key.sent ∧ (a.key.no < b.key.no ∨ (a.key.no = b.key.no ∧
  (a.dst < b.dst ∨ (a.dst = b.dst ∧ (a.kind < b.kind ∨ (a.kind = b.kind ∧ a.data < b.data)))))))))))
instance (a b : Event) : Decidable (evLt a b):=by unfold evLt;infer_instance
theorem evLt_irrefl (a : Event) : ¬ evLt a a:=by unfold evLt;omega
theorem evLt_trans {a b c : Event} (h : evLt a b) (k : evLt b c) : evLt a c:=by unfold evLt at *;omega
theorem evLt_total {a b : Event} (h : ¬ evLt a b) (k : ¬ evLt b a) : a = b:=by
 obtain ⟨⟨a1,a2,a3,a4⟩,a5,a6,a7⟩:=a;obtain ⟨⟨b1,b2,b3,b4⟩,b5,b6,b7⟩:=b
 unfold evLt at *
 simp only [Event.mk.injEq,Key.mk.injEq] at *
 omega
def insTot (x : Event) : List Event → List Event
 | []=>[x]
 | y :: l=>if evLt x y then x :: y :: l else y :: insTot x l
def sortT (l : List Event) : List Event:=l.foldl (fun s x=>insTot x s) []
theorem insTot_perm (x : Event) : ∀ l,(insTot x l).Perm (x :: l)
 | []=>.refl _
 | y :: l=>by
   unfold insTot
   split
   · exact .refl _
   · exact ((insTot_perm x l).cons y).trans (.swap x y l)
def UpT (l : List Event) : Prop:=l.Pairwise fun a b=>¬ evLt b a
theorem insTot_up (x : Event) : ∀ l,UpT l → UpT (insTot x l)
 | [],_=>by simp [insTot,UpT]
 | y :: l,h=>by
   have h':=List.pairwise_cons.1 h
   unfold insTot
   split
   · rename_i hxy
     refine List.pairwise_cons.2 ⟨fun z hz=>?_,h⟩
     rcases List.mem_cons.1 hz with rfl | hz
     · exact fun k=>evLt_irrefl _ (evLt_trans hxy k)
     · intro k
       exact h'.1 z hz (evLt_trans k hxy)
   · rename_i hxy
     refine List.pairwise_cons.2 ⟨fun z hz=>?_,insTot_up x l h'.2⟩
     rcases List.mem_cons.1 ((insTot_perm x l).mem_iff.1 hz) with rfl | hz
     · exact hxy
     · exact h'.1 z hz
theorem foldT_perm : ∀ (l s : List Event),(l.foldl (fun s x=>insTot x s) s).Perm (l ++ s)
 | [],_=>.refl _
 | x :: l,s=>(foldT_perm l (insTot x s)).trans (((insTot_perm x s).append_left l).trans List.perm_middle)
theorem foldT_up : ∀ (l s : List Event),UpT s → UpT (l.foldl (fun s x=>insTot x s) s)
 | [],_,h=>h
 | x :: l,_,h=>foldT_up l _ (insTot_up x _ h)
theorem sortT_perm (l : List Event) : (sortT l).Perm l:=(foldT_perm l []).trans (by rw [List.append_nil])
theorem sortT_up (l : List Event) : UpT (sortT l):=foldT_up l [] List.Pairwise.nil
theorem upT_eq {l m : List Event} (hp : l.Perm m) (hl : UpT l) (hm : UpT m) : l = m:=
 hp.eq_of_pairwise (fun _ _ _ _ h k=>(evLt_total k h)) hl hm
theorem sortT_eq {l m : List Event} (hp : m.Perm l) (hm : UpT m) : m = sortT l:=upT_eq (hp.trans (sortT_perm l).symm) hm (sortT_up l)
def onceFrom : Option Key → List Event → List Event
 | _,[]=>[]
 | k,x :: l=>if k = some x.key then onceFrom k l else x :: onceFrom (some x.key) l
def once (l : List Event) : List Event:=onceFrom none l
end Go.Proofs.YtmjljoaakdocaaaGreatDoor
/- Plain: where an event stands in a sorted list, or would stand; put in, and taken out. No program in sight. -/
namespace Go.Proofs.YtmjljoaakdocaaaGreatDoor
open Go
open List (set_cons_succ set_cons_zero setIfInBounds_toArray cons_append nil_append)
def plT (l : List Event) (e : Event) : Nat:=(l.takeWhile fun x=>decide (evLt x e)).length
theorem plT_le (l : List Event) (e : Event) : plT l e ≤ l.length:=by
 unfold plT
 exact (List.takeWhile_prefix _).length_le
theorem plT_at : ∀ {l : List Event} {e : Event} {n : Nat},n ≤ l.length → (∀ (k : Nat) x,k < n → l[k]? = some x → evLt x e) → (∀ (k : Nat) x,n ≤ k → l[k]? = some x → ¬ evLt x e) → n = plT l e
 | [],e,n,hn,_,_=>by simp at hn;simp [plT,hn]
 | a :: l,e,0,_,_,h2=>by
   have:=h2 0 a (Nat.le_refl _) rfl
   simp [plT,this]
 | a :: l,e,n + 1,hn,h1,h2=>by
   have ha:=h1 0 a (by omega) rfl
   have:=plT_at (l:=l) (e:=e) (n:=n) (by simpa using hn) (fun k x hk hx=>h1 (k + 1) x (by omega) (by simpa using hx)) (fun k x hk hx=>h2 (k + 1) x (by omega) (by simpa using hx))
   simp only [plT,List.takeWhile_cons,ha,decide_true,if_true,List.length_cons] at *
   omega
theorem plT_lt : ∀ {l : List Event} {e : Event} {k : Nat} {x : Event},k < plT l e → l[k]? = some x → evLt x e
 | [],_,k,x,_,hx=>by simp at hx
 | a :: l,e,k,x,hk,hx=>by
   by_cases ha : evLt a e
   · have e1 : plT (a :: l) e = plT l e + 1:=by simp [plT,ha]
     cases k with
     | zero=>simp at hx;subst hx;exact ha
     | succ k=>exact plT_lt (l:=l) (k:=k) (by omega) (by simpa using hx)
   · have e1 : plT (a :: l) e = 0:=by simp [plT,ha]
     omega
theorem plT_ge {l : List Event} {e : Event} (hl : UpT l) : ∀ {k : Nat} {x : Event},plT l e ≤ k → l[k]? = some x → ¬ evLt x e:=by
 induction l with
 | nil=>intro k x _ hx;simp at hx
 | cons a l ih=>
   intro k x hk hx
   have h':=List.pairwise_cons.1 hl
   by_cases ha : evLt a e
   · have e1 : plT (a :: l) e = plT l e + 1:=by simp [plT,ha]
     cases k with
     | zero=>omega
     | succ k=>exact ih h'.2 (k:=k) (by omega) (by simpa using hx)
   · cases k with
     | zero=>simp at hx;subst hx;exact ha
     | succ k=>
       intro hxe
       have hx2 : x ∈ l:=List.mem_of_getElem? (by simpa using hx)
       rcases Classical.em (evLt e a) with h | h
       · exact h'.1 x hx2 (evLt_trans hxe h)
       · have:=evLt_total ha h;subst this;exact h'.1 x hx2 hxe
theorem plT_mem {l : List Event} {e : Event} (hl : UpT l) : e ∈ l ↔ l[plT l e]? = some e:=by
 refine ⟨fun h=>?_,fun h=>List.mem_of_getElem? h⟩
 obtain ⟨i,hi,hx⟩:=List.mem_iff_getElem.1 h
 have hx2 : l[i]? = some e:=by rw [List.getElem?_eq_getElem hi,hx]
 have hge : plT l e ≤ i:=by
  rcases Nat.lt_or_ge i (plT l e) with h | h
  · exact absurd (plT_lt h hx2) (evLt_irrefl e)
  · exact h
 have hlt : plT l e < l.length:=by omega
 have hy : l[plT l e]? = some l[plT l e]:=List.getElem?_eq_getElem hlt
 have h1:=plT_ge hl (Nat.le_refl _) hy
 have h2 : ¬ evLt e l[plT l e]:=by
  rcases Nat.lt_or_eq_of_le hge with h | h
  · have:=(List.pairwise_iff_getElem.1 hl) (plT l e) i hlt hi h
    rw [hx] at this;exact this
  · have e1 : l[plT l e] = e:=Option.some.inj (hy.symm.trans (by rw [h];exact hx2))
    rw [e1];exact evLt_irrefl e
 rw [hy,evLt_total h1 h2]
theorem ins_plT {l : List Event} (e : Event) (hl : UpT l) : l.take (plT l e) ++ e :: l.drop (plT l e) = insTot e l:=by
 refine upT_eq ?_ ?_ (insTot_up e l hl)
 · refine List.perm_middle.trans ?_
   rw [List.take_append_drop]
   exact (insTot_perm e l).symm
 · refine List.pairwise_append.2 ⟨hl.sublist (List.take_sublist _ _),List.pairwise_cons.2 ⟨fun y hy=>?_,hl.sublist (List.drop_sublist _ _)⟩,fun x hx y hy=>?_⟩
   · obtain ⟨i,hi,e1⟩:=List.mem_iff_getElem.1 hy
     exact plT_ge (e:=e) hl (k:=plT l e + i) (by omega) (by rw [← List.getElem?_drop,List.getElem?_eq_getElem hi,e1])
   · obtain ⟨i,hi,e1⟩:=List.mem_iff_getElem.1 hx
     rw [List.length_take] at hi
     have hxe : evLt x e:=plT_lt (l:=l) (k:=i) (by omega) (by rw [← e1,List.getElem_take,List.getElem?_eq_getElem (by omega)])
     rcases List.mem_cons.1 hy with rfl | hy
     · exact fun h=>evLt_irrefl _ (evLt_trans h hxe)
     · obtain ⟨j,hj,e2⟩:=List.mem_iff_getElem.1 hy
       have hye : ¬ evLt y e:=plT_ge hl (k:=plT l e + j) (x:=y) (by omega) (by rw [← List.getElem?_drop,List.getElem?_eq_getElem hj,e2])
       exact fun h=>hye (evLt_trans h hxe)
end Go.Proofs.YtmjljoaakdocaaaGreatDoor
/- The order of keys, plain. -/
namespace Go.Proofs.YtmjljoaakdocaaaGreatDoor
open Go.Sort
open List (set_cons_succ set_cons_zero setIfInBounds_toArray cons_append nil_append)
theorem Key.lt_iff (k l : Key) : k.lt l = true ↔ k.at_ < l.at_ ∨ (k.at_ = l.at_ ∧ (k.src < l.src ∨ (k.src = l.src ∧ (k.sent < l.sent ∨ (k.sent = l.sent ∧ k.no < l.no))))):=by
 unfold Key.lt
 split
 · simp;omega
 · split
   · simp;omega
   · split
     · simp;omega
     · simp;omega
end Go.Proofs.YtmjljoaakdocaaaGreatDoor
/- The library's slices.SortFunc on a slice that is owned, as a step of the state. Over any program. -/
namespace Go.Proofs.YtmjljoaakdocaaaGreatDoor.Mem
open Go Go.RowKit Reg Go.Shelf Go.Sort
open List (set_cons_succ set_cons_zero setIfInBounds_toArray cons_append nil_append)
def Grew (w w' : World) : Prop:=∃ q os,w' = grow (w.drewN q) os
theorem heap_grow (w : World) (os : Array Obj) {b : Nat} (hb : b < w.heap.size) : (grow w os).heap[b]? = w.heap[b]?:=by
 show (w.heap ++ os)[b]? = _
 rw [Array.getElem?_append_left hb]
theorem Grew.of_keep {w w' : World} (h : Keep (fun _=>False) w w') : Grew w w':=by
 refine ⟨w'.drawn - w.drawn,w'.heap.extract w.heap.size w'.heap.size,?_⟩
 have hh : w'.heap = w.heap ++ w'.heap.extract w.heap.size w'.heap.size:=by
  apply Array.ext_getElem?
  intro i
  by_cases hi : i < w.heap.size
  · rw [Array.getElem?_append_left hi,h.block i hi id]
  · rw [Array.getElem?_append_right (by omega),Array.getElem?_extract]
    have hs:=h.size
    split
    · congr 1;omega
    · rw [Array.getElem?_eq_none (by omega)]
 have hd:=h.drawn
 cases w;cases w'
 simp only [grow,World.drewN,World.mk.injEq]
 exact ⟨hh,h.tape,by simp only at hd ⊢;omega,h.os,h.output⟩
section
variable {α : Type} [Inhabited α]
theorem putCells_take {enc : α → Value} {d : Array α} {c : Array Value} (h : d.size ≤ c.size) : (putCells enc 0 d c).toList.take d.size = d.toList.map enc:=by
 apply List.ext_getElem?
 intro i
 by_cases hi : i < d.size
 · rw [List.getElem?_take_of_lt hi,Array.getElem?_toList,List.getElem?_map,Array.getElem?_toList,Array.getElem?_eq_getElem hi]
   simp only [putCells,Array.getElem?_mapIdx,Array.getElem?_eq_getElem (show i < c.size by omega),Option.map_some,Nat.zero_le,Nat.zero_add,true_and,if_pos hi,Nat.sub_zero,getElem!_pos d i hi]
 · rw [List.getElem?_eq_none (by simp;omega),List.getElem?_eq_none (by simp;omega)]
theorem size_putCells {enc : α → Value} {d : Array α} {c : Array Value} {o : Nat} : (putCells enc o d c).size = c.size:=by simp [putCells]
theorem heap_putRow {enc : α → Value} {w : World} {R m o : Nat} {d : Array α} {cur : Array Value} {E : TypeId} {fr : Nat × Nat} (os : Array Obj) (hR : w.heap[R]? = some (.cells cur E fr)) :
 (grow (putRow enc (Sort.ahead w m) R o d) os).heap[R]? = some (.cells (putCells enc o d cur) E fr):=by
 have hl:=(Array.getElem?_eq_some_iff.1 hR).1
 rw [heap_grow _ _ (by rw [size_putRow];exact hl)]
 show (w.heap.modify R (onCells (putCells enc o d)))[R]? = _
 rw [Array.getElem?_modify,if_pos rfl,hR];rfl
theorem keep_putRow {enc : α → Value} {w : World} {R m o : Nat} {d : Array α} (os : Array Obj) : Keep (fun b=>b = R) w (grow (putRow enc (Sort.ahead w m) R o d) os):=by
 refine ⟨rfl,rfl,rfl,?_,fun b hb hn=>?_,Nat.le_add_right _ _⟩
 · show w.heap.size ≤ ((w.heap.modify R _) ++ os).size
   simp
 · rw [heap_grow _ _ (by rw [size_putRow];exact hb)]
   show (w.heap.modify R _)[b]? = _
   rw [Array.getElem?_modify,if_neg (fun e=>hn e.symm)]
theorem flatK_list {enc : α → List Value} {k : Nat} (hk : ∀ x,(enc x).length = k) (d : Array α) : (flatK enc k d).toList = flatE enc d.toList:=by
 apply List.ext_getElem?
 intro i
 by_cases hi : i < d.size * k
 · have k0 : 0 < k:=by rcases Nat.eq_zero_or_pos k with h | h;· subst h;simp at hi
                       · exact h
   have hj : i / k < d.size:=(Nat.div_lt_iff_lt_mul k0).2 hi
   have e1 : (flatK enc k d).toList[i]? = some ((enc d[i / k]!)[i % k]!):=by
    rw [Array.getElem?_toList,Array.getElem?_eq_getElem (by simpa using hi),← get_flatK enc k d i hi,getElem!_pos (flatK enc k d) i (by simpa using hi)]
   have e2 : i / k * k + i % k = i:=by rw [Nat.mul_comm];exact Nat.div_add_mod i k
   have hg:=flatE_get (enc:=enc) hk (xs:=d.toList) (i:=i / k) (x:=d[i / k]) (by rw [Array.getElem?_toList,Array.getElem?_eq_getElem hj]) (i % k) (Nat.mod_lt _ k0)
   rw [e2] at hg
   rw [e1,hg,getElem!_pos d (i / k) hj,List.getElem?_eq_getElem (by rw [hk];exact Nat.mod_lt _ k0),getElem!_pos (enc d[i / k]) (i % k) (by rw [hk];exact Nat.mod_lt _ k0)]
 · rw [List.getElem?_eq_none (by simp;omega),List.getElem?_eq_none (by rw [flatE_length hk];simp;omega)]
theorem perm_list {d d' : Array α} (h : PermIn 0 d.size d d') : d'.toList.Perm d.toList:=by
 obtain ⟨hs,_,hp⟩:=h
 simp [← hs] at hp
 rwa [List.take_of_length_le (by simp [hs])] at hp
theorem sorted_list {lt : α → α → Bool} {d d' : Array α} (hs : d'.size = d.size) (h : SortedIn lt 0 d.size d') : d'.toList.Pairwise (fun a b=>lt b a = false):=by
 rw [List.pairwise_iff_getElem]
 intro i j hi hj hij
 simp only [Array.length_toList] at hi hj
 have:=h i j (Nat.zero_le _) hij (by omega)
 rwa [getElem!_pos d' i hi,getElem!_pos d' j hj] at this
end
section
variable {P : Program} {ρ : Ren} {α : Type} [Inhabited α] {E : TypeId} {enc : α → List Value} {k : Nat} {G : Nat → Prop} {w0 w : World} {L : List Asn} {i : Nat}
theorem sortK (Ly : SlLaysF0.n6 P ρ) (aE : ∀ w,(isAgg (ρ.t 24)).run P w = .ok true w) (zE : ∀ w,(Go.sizeOf (ρ.t 24)).run P w = .ok k w) (hk : ∀ x,(enc x).length = k) (h1 : ∀ x,∀ v ∈ enc x,v.oneCell' = true) (cf : α → α → Int) (hO : SWO (ltOf cf))
 (g : Nat) (cb : Array Value) (eg : ∀ args w,(callFunc g args).run P w = .ok (.enter g args) w) {R n c : Nat} {xs : List α} (S : St G w0 w L) (hi : L[i]? = some (Own E enc k (.slice (some ⟨R,0,none⟩) n c) xs)) (hn : xs.length < 4611686018427387904)
 (hcmp : ∀ W,Keep (fun b=>b = R) w W → ∀ x y : α,Calls P g (#[.agg (enc x).toArray,.agg (enc y).toArray] ++ cb) W fun e w'=>e = .returned (.int .i64 (cf x y)) ∧ Grew W w') :
 Calls P (ρ.f 6) #[.slice (some ⟨R,0,none⟩) n c,.func (.func g) #[] cb] w fun e w'=>e = .returned (.tuple #[]) ∧ ∃ ys : List α,ys.Perm xs ∧ ys.Pairwise (fun a b=>ltOf cf b a = false) ∧ St G w0 w' (L.set i (Own E enc k (.slice (some ⟨R,0,none⟩) n c) ys)):=by
 obtain ⟨F0,hF0⟩:=S.get hi
 obtain ⟨hlen,hown⟩:=hF0.1
 rcases hown with ⟨e,_⟩ | ⟨g',cap,cur,e,_,hg,hnc,hcm,hcs,htake⟩
 · simp at e
 · simp only [Value.slice.injEq,Option.some.injEq,Addr.mk.injEq] at e
   obtain ⟨⟨rfl,_,_⟩,rfl,rfl⟩:=e
   have hRl:=(Array.getElem?_eq_some_iff.1 hg).1
   have hcells:=World.ownsRow.cells (show w.ownsRow 0 E k _ _ _ from hF0.1) (g:=R) rfl
   have hfl : (flatK enc k xs.toArray).toList = flatE enc xs:=by rw [flatK_list hk]
   have hH : HoldsK enc k w R 0 xs.toArray:=fun j hj=>by
    have hj' : j < (flatE enc xs).length:=by rw [← hfl];simpa using hj
    refine ⟨?_,by rw [Nat.zero_add];exact frozen_of hg j⟩
    have:=hcells j (flatE enc xs)[j] (List.getElem?_eq_getElem hj')
    rw [add_none] at this
    rw [this]
    congr 1
    have e1 : (flatK enc k xs.toArray)[j]! = (flatE enc xs)[j]:=by
     rw [getElem!_pos _ j hj,← Array.getElem_toList]
     simp only [hfl]
    exact e1.symm
   have key:=AnyQ.slices_SortFunc Ly k aE zE enc hk h1 cf hO g cb R 0 c xs.toArray w eg (fun m os dk hd x y=>(hcmp _ (keep_putRow os) x y).mono fun _ _ ⟨he,q,os',hw⟩=>⟨he,q,os',hw⟩) hH hRl (by simpa using hn)
   simp only [List.size_toArray] at key
   refine key.mono ?_
   rintro e w' ⟨rfl,d',m,os,hp,hs,rfl⟩
   have hds : d'.size = xs.length:=by simpa using hp.1
   refine ⟨rfl,d'.toList,by simpa using perm_list (d:=xs.toArray) (by simpa using hp),sorted_list (d:=xs.toArray) (by simpa using hds) (by simpa using hs),S.step hi rfl fun F hF=>⟨F,(keep_putRow os).mono (fun x _ h e=>h ((hF.2 x).2 (by simp [Value.ownBlock,e]))),⟨?_,hF.2⟩,fun x h=>.inl h⟩⟩
   have hsz : (flatK enc k d').size = xs.length * k:=by simp [hds]
   have hcs' : xs.length * k ≤ cur.size:=by rw [hcs];exact Nat.mul_le_mul_right k hnc
   have hll : d'.toList.length = xs.length:=by simpa using hds
   refine ⟨by rw [flatE_length hk],.inr ⟨R,c,putCells id 0 (flatK enc k d') cur,by rw [hll],Nat.zero_le _,heap_putRow os hg,by rw [hll];exact hnc,hcm,by rw [size_putCells];exact hcs,?_⟩⟩
   have:=putCells_take (enc:=id) (d:=flatK enc k d') (c:=cur) (by rw [hsz];exact hcs')
   rw [hsz,List.map_id,flatK_list hk] at this
   rw [hll];exact this
end
end Go.Proofs.YtmjljoaakdocaaaGreatDoor.Mem
/- The walk of inq.Compare: a total order of events. -/
namespace Go.Proofs.YtmjljoaakdocaaaGreatDoor
open Go.RowKit Reg Mem Go.Sort
open List (set_cons_succ set_cons_zero setIfInBounds_toArray cons_append nil_append)
def Event.tcmp (a b : Event) : Int:=if a.key.lt b.key then -1 else if b.key.lt a.key then 1 else orL [icmp a.dst b.dst,icmp a.kind b.kind,icmp a.data b.data]
theorem bef_is {a b : Key} {v : Bool} (h : a.lt b = v) (w : World) : Calls Tryz.prog 114 #[.agg #[.int .i64 a.at_,.int .i64 a.src,.int .i64 a.sent,.int .i64 a.no],.agg #[.int .i64 b.at_,.int .i64 b.src,.int .i64 b.sent,.int .i64 b.no]] w fun e w'=>e = .returned (.bool v) ∧ Below w.heap.size w w':=by
 subst h;exact before_calls _ _ _ _ _ _ _ _ _
theorem icmpare_calls (a b : Event) (w : World) : Calls Tryz.prog 178 #[.agg #[.int .i64 a.key.at_,.int .i64 a.key.src,.int .i64 a.key.sent,.int .i64 a.key.no,.int .i64 a.dst,.int .i64 a.kind,.int .i64 a.data],.agg #[.int .i64 b.key.at_,.int .i64 b.key.src,.int .i64 b.key.sent,.int .i64 b.key.no,.int .i64 b.dst,.int .i64 b.kind,.int .i64 b.data]] w fun e w'=>e = .returned (.int .i64 (a.tcmp b)) ∧ Below w.heap.size w w':=by
 have S:=St.init (fun _=>False) w
 cases h1 : a.key.lt b.key with
 | true=>
   have H1:=Lib.hid (bef_is h1)
   go_enter Tryz.func178,Tryz.ntmps178
   go_wp2_with first | (go_at_call 114;have hcz:=fun w=>H1.out w;(with_reducible refine Calls.mono (hcz _) ?_);clear hcz;rintro e wz ⟨rfl,hE⟩;replace S:=S.ext (Keep.of_below hE);clear hE) | ((with_reducible apply wps_boxa S);(case hx=>rfl);clear S;intro bz wz S) | ((with_reducible apply wps_loada (T:=56) (k:=4) S 0);(case hx|hi=>rfl);(case hk=>exact nle rfl);(case hT=>decide +kernel)) | ((with_reducible apply wps_loada (T:=56) (k:=4) S 1);(case hx|hi=>rfl);(case hk=>exact nle rfl);(case hT=>decide +kernel))
   go_ret
   exact ⟨ret_int (by unfold Event.tcmp;rw [if_pos h1]),S.below⟩
 | false=>
   have H1:=Lib.hid (bef_is h1)
   cases h2 : b.key.lt a.key with
   | true=>
     have H2:=Lib.hid (bef_is h2)
     go_enter Tryz.func178,Tryz.ntmps178
     go_wp2_with first | (go_at_call 114;have hcz:=fun w=>H1.out w;(with_reducible refine Calls.mono (hcz _) ?_);clear hcz;rintro e wz ⟨rfl,hE⟩;replace S:=S.ext (Keep.of_below hE);clear hE) | (go_at_call 114;have hcz:=fun w=>H2.out w;(with_reducible refine Calls.mono (hcz _) ?_);clear hcz;rintro e wz ⟨rfl,hE⟩;replace S:=S.ext (Keep.of_below hE);clear hE) | ((with_reducible apply wps_boxa S);(case hx=>rfl);clear S;intro bz wz S) | ((with_reducible apply wps_loada (T:=56) (k:=4) S 0);(case hx|hi=>rfl);(case hk=>exact nle rfl);(case hT=>decide +kernel)) | ((with_reducible apply wps_loada (T:=56) (k:=4) S 1);(case hx|hi=>rfl);(case hk=>exact nle rfl);(case hT=>decide +kernel))
     go_ret
     exact ⟨ret_int (by unfold Event.tcmp;rw [h1,h2];rfl),S.below⟩
   | false=>
     have H2:=Lib.hid (bef_is h2)
     have e : a.tcmp b = orL [icmp a.dst b.dst,icmp a.kind b.kind,icmp a.data b.data]:=by unfold Event.tcmp;rw [h1,h2];rfl
     rw [e]
     clear h1 h2 e
     go_enter Tryz.func178,Tryz.ntmps178
     go_wp2_with first | (go_at_call 114;have hcz:=fun w=>H1.out w;(with_reducible refine Calls.mono (hcz _) ?_);clear hcz;rintro e wz ⟨rfl,hE⟩;replace S:=S.ext (Keep.of_below hE);clear hE) | (go_at_call 114;have hcz:=fun w=>H2.out w;(with_reducible refine Calls.mono (hcz _) ?_);clear hcz;rintro e wz ⟨rfl,hE⟩;replace S:=S.ext (Keep.of_below hE);clear hE) | ((with_reducible apply wps_boxa S);(case hx=>rfl);clear S;intro bz wz S) | ((with_reducible apply wps_loada (T:=56) (k:=4) S 0);(case hx|hi=>rfl);(case hk=>exact nle rfl);(case hT=>decide +kernel)) | ((with_reducible apply wps_loada (T:=56) (k:=4) S 1);(case hx|hi=>rfl);(case hk=>exact nle rfl);(case hT=>decide +kernel))
     (refine wp_region_w (soft:=[0,1,2,3,4,5,6,7,8,9,10,11,12,13,14]) S ?hm ?hB ?_);(case hm=>kernel_rfl);(case hB=>decide +kernel);clear S
     iterate 15
      (with_reducible apply softs_cons)
      (case hw=>
        (with_reducible apply soft_of);(case hi=>rfl)
        intro T wz S
        simp only [cons_append,nil_append] at S
        go_wp2_with first | (go_at_call 218;refine Calls.mono (cmpInt_calls _ _ _) ?_;rintro e wz ⟨rfl,hE⟩;replace S:=S.ext (Keep.of_below hE);clear hE) | ((with_reducible refine tot_done ?ht ?_);(case ht=>kernel_rfl)) | ((with_reducible apply wps_load S 0);(case hx|hi|hu=>rfl);(case hT=>decide +kernel)) | ((with_reducible apply wps_load S 1);(case hx|hi|hu=>rfl);(case hT=>decide +kernel))
        exact ⟨rfl,S⟩)
      (case hs=>exact ⟨_,rfl,by kernel_rfl⟩)
     refine softs_nil ?_
     repeat'
      (first
        | ((with_reducible apply W_hard1 (i:=15));(case hn=>rfl);(case hr=>decide +kernel)) | ((with_reducible apply W_hard1 (i:=16));(case hn=>rfl);(case hr=>decide +kernel)) | ((with_reducible apply W_hard1 (i:=17));(case hn=>rfl);(case hr=>decide +kernel)) | ((with_reducible apply W_hard2 (i:=16) (i':=17));(case hn=>rfl);(case hr=>decide +kernel)))
      all_goals
       intro wz S
       (with_reducible apply hard_of);(case hi=>rfl)
       simp only [cons_append,nil_append] at S
       try simp only [pick,nth] at S
       go_wp2_with first | ((with_reducible apply wps_buildSlice (T:=92) (E:=3) (cs:=#[.int .i64 (icmp a.dst b.dst),.int .i64 (icmp a.kind b.kind),.int .i64 (icmp a.data b.data)]) S);(case hr=>intro w;kernel_rfl);clear S;intro bz wz S) | (go_at_call 217;refine Calls.mono (orInt_calls _ [icmp a.dst b.dst,icmp a.kind b.kind,icmp a.data b.data] _ _ (blk_sl _ intE_len (S.get (i:=2) rfl).choose_spec rfl rfl) (Nat.le_of_ble_eq_true rfl)) ?_;rintro e wz ⟨rfl,hE⟩;replace S:=S.ext (Keep.of_below hE);clear hE) | ((with_reducible refine tot_done ?ht ?_);(case ht=>kernel_rfl))
       first
        | refine ⟨_,S.pick [1,2,3,4,5,6,0] rfl,?_⟩
        | refine ⟨_,S.pick [1,2,3,4,5,0] rfl,?_⟩
        | refine ⟨_,S.pick [1,2,3,4,0] rfl,?_⟩
        | refine ⟨_,S.pick [1,2,3,0] rfl,?_⟩
        | refine ⟨_,S.pick [1,2,0] rfl,?_⟩
        | refine ⟨_,S,?_⟩
     (with_reducible apply W_done);(case hn=>rfl);(case hr=>decide +kernel)
     clear S
     intro wz S
     simp only [cons_append,nil_append] at S
     try simp only [pick,nth] at S
     go_wp2_with first | ((with_reducible apply wps_loada (T:=56) (k:=4) S 3);(case hx|hi=>rfl);(case hk=>exact nle rfl);(case hT=>decide +kernel))
     go_ret
     exact ⟨rfl,S.below⟩
theorem icmp_cases (x y : Int) : (x < y ∧ icmp x y = -1) ∨ (x = y ∧ icmp x y = 0) ∨ (y < x ∧ icmp x y = 1):=by
 unfold icmp
 rcases Int.lt_trichotomy x y with h | h | h
 · exact .inl ⟨h,by rw [if_pos h]⟩
 · exact .inr (.inl ⟨h,by rw [if_neg (by omega),if_neg (by omega)]⟩)
 · exact .inr (.inr ⟨h,by rw [if_neg (by omega),if_pos h]⟩)
theorem tcmp_neg (a b : Event) : decide (a.tcmp b < 0) = decide (evLt a b):=by
 rw [decide_eq_decide]
 have hl : ∀ k l : Key,k.lt l = decide (k.at_ < l.at_ ∨ (k.at_ = l.at_ ∧ (k.src < l.src ∨ (k.src = l.src ∧ (k.sent < l.sent ∨ (k.sent = l.sent ∧ k.no < l.no)))))):=fun k l=>by
  rw [Bool.eq_iff_iff,Key.lt_iff];simp
 unfold Event.tcmp evLt
 rw [hl,hl]
 simp only [decide_eq_true_eq]
 split
 · constructor
   · intro _;omega
   · intro _;omega
 · split
   · constructor
     · intro h;omega
     · intro _;omega
   · simp only [orL]
     rcases icmp_cases a.dst b.dst with ⟨h1,e1⟩ | ⟨h1,e1⟩ | ⟨h1,e1⟩ <;> rw [e1]
     · constructor
       · intro _;omega
       · intro _;simp
     · rcases icmp_cases a.kind b.kind with ⟨h2,e2⟩ | ⟨h2,e2⟩ | ⟨h2,e2⟩ <;> rw [e2]
       · constructor
         · intro _;omega
         · intro _;simp
       · rcases icmp_cases a.data b.data with ⟨h3,e3⟩ | ⟨h3,e3⟩ | ⟨h3,e3⟩ <;> rw [e3]
         · constructor
           · intro _;omega
           · intro _;simp
         · constructor
           · intro h;exact absurd h (by simp)
           · intro _;omega
         · constructor
           · intro h;exact absurd h (by simp)
           · intro _;omega
       · constructor
         · intro h;exact absurd h (by simp)
         · intro _;omega
     · constructor
       · intro h;exact absurd h (by simp)
       · intro _;omega
theorem swo_ev : SWO (ltOf Event.tcmp):=by
 have e : (ltOf Event.tcmp) = fun x y=>decide (evLt x y):=by
  funext x y;exact tcmp_neg _ _
 rw [e]
 refine ⟨fun x=>?_,fun x y z h k=>?_,fun x y z h k=>?_⟩
 · simp [evLt_irrefl]
 · simp only [decide_eq_true_eq] at *;exact evLt_trans h k
 · simp only [decide_eq_false_iff_not] at *
   unfold evLt at *;omega
theorem sorted_ev {l ys : List Event} (hp : ys.Perm l) (hs : ys.Pairwise (fun a b=>ltOf Event.tcmp b a = false)) : ys = sortT l:=by
 refine sortT_eq hp (hs.imp fun {a b} h=>?_)
 have:=tcmp_neg b a
 unfold ltOf at h
 rw [h] at this
 simpa using this.symm
theorem icmpare_grew (a b : Event) (w : World) : Calls Tryz.prog 178 #[.agg a.cells.toArray,.agg b.cells.toArray] w fun e w'=>e = .returned (.int .i64 (a.tcmp b)) ∧ Grew w w':=
 (icmpare_calls a b w).mono fun _ _ h=>⟨h.1,Grew.of_keep (Keep.of_below h.2)⟩
end Go.Proofs.YtmjljoaakdocaaaGreatDoor
