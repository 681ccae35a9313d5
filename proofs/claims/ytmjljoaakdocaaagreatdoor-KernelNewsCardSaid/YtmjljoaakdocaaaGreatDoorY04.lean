import Derived.Test.YtmjljoaakdocaaaGreatDoorY03
import Derived.Laws.Rows
import Derived.Test.YtmjljoaakdocaaaGreatDoorY02
/- More laws on a state: elements of a slice that is owned, read and written; 'make'; a result that lies in a cell; what lies beside a slice that is being sorted. Over any program. -/
namespace Go.Proofs.YtmjljoaakdocaaaGreatDoor.Mem
open Go Go.RowKit Reg
section
variable {P : Program} {ops : Array Oper} {rest : List Oper} {a : Act} {Q : Exit → Act → World → Prop} {d : Option Tmp} {tt : TypeId} {p : String} {af : Array Edge} {gd : Option (Nat × Bool)} {x y z : Operand}
variable {G : Nat → Prop} {w0 w w' : World} {L : List Asn} {A A' : Asn} {i : Nat}
theorem St.ret_cell {fn : Func} {R : Ending → World → Prop} {q : Tmp} {ty t : TypeId} {b : Nat} {sh : Bool} {cs : Array Value} (S : St G w0 w L) (i : Nat) (hi : L[i]? = some (Blk sh b cs t)) (h : fn.results = #[.cell q ty]) (hp : a.tmps.getD q undef = .pointer (some ⟨b,0,none⟩)) (hA : aggB P ty cs.size = true) (hd : a.defers = [])
 (hR : R (.returned (.agg cs)) w) : bodyPost P fn R .ret a w:=by
 refine bodyPost_ret ?_ hd hR
 have hp' : a.tmps[q]?.getD undef = .pointer (some ⟨b,0,none⟩):=by simpa using hp
 have hl:=run_loadVar_agg (P:=P) (t:=ty) (b:=b) (o:=0) (w:=w) (vs:=cs.toList) (by simpa using hA) (fun j u hj=>by rw [Nat.zero_add,cell_of (S.blk i hi)];simpa using hj)
 simp [results,h,hp',asAddr,hl]
theorem cur_split {cur : Array Value} {e : List Value} {o : Nat} (h : ∀ (q : Nat) u,e[q]? = some u → cur[o + q]? = some u) : cur.toList.drop o = e ++ cur.toList.drop (o + e.length):=by
 apply List.ext_getElem?
 intro q
 rw [List.getElem?_drop,Array.getElem?_toList]
 by_cases hq : q < e.length
 · rw [List.getElem?_append_left hq,List.getElem?_eq_getElem hq]
   exact h q _ (List.getElem?_eq_getElem hq)
 · rw [List.getElem?_append_right (by omega),List.getElem?_drop,Array.getElem?_toList]
   congr 1;omega
theorem splice_part {cur : Array Value} {e e' vs : List Value} {o q : Nat} (h : ∀ (q : Nat) u,e[q]? = some u → cur[o + q]? = some u) (hq : q + vs.length ≤ e.length) (he : e' = e.take q ++ vs ++ e.drop (q + vs.length)) : splice cur (o + q) vs = splice cur o e':=by
 have hl : e'.length = e.length:=by rw [he];simp;omega
 have hs:=cur_split h
 have d1 : cur.toList.drop (o + q + vs.length) = e.drop (q + vs.length) ++ cur.toList.drop (o + e.length):=by
  rw [Nat.add_assoc,← List.drop_drop,hs,List.drop_append_of_le_length (by omega)]
 have t1 : cur.toList.take (o + q) = cur.toList.take o ++ e.take q:=by rw [List.take_add,hs,List.take_append_of_le_length (by omega)]
 unfold splice
 congr 1
 rw [t1,d1,hl,he]
 simp only [List.append_assoc]
theorem own_at {α : Type} {E : TypeId} {enc : α → List Value} {k : Nat} {R n c : Nat} {xs : List α} {F : Nat → Prop} (h : (Own E enc k (.slice (some ⟨R,0,none⟩) n c) xs).at_ w F) : ∃ cur,OwnAt E enc k 0 w R c cur xs ∧ n = xs.length:=by
 rcases h.1.2 with ⟨e,_⟩ | ⟨g,cap,cur,e,hb,hg,h1,h2,h3,h4⟩
 · simp at e
 · simp only [Value.slice.injEq,Option.some.injEq,Addr.mk.injEq] at e
   obtain ⟨⟨rfl,_,_⟩,rfl,rfl⟩:=e
   exact ⟨cur,⟨hg,hb,h1,h2,h3,h4⟩,rfl⟩
theorem wps_load_own {α : Type} {E : TypeId} {enc : α → List Value} {k R n c nn : Nat} {xs : List α} (hk : ∀ x,(enc x).length = k) (S : St G w0 w L) (i : Nat) (hi : L[i]? = some (Own E enc k (.slice (some ⟨R,0,none⟩) n c) xs)) {j : Nat} {e : α} (hj : xs[j]? = some e) (q : Nat) {u : Value} {T : TypeId}
 (hx : a.eval x = .pointer (some ⟨R,nn,none⟩)) (hn : nn = j * k + q) (hT : leafB P T = true) (hu : (enc e)[q]? = some u)
 (next : wpList P ops Q rest (a.put d u) w) (hgd : gOk gd ops a = true:=by with_unfolding_all rfl) : wpList P ops Q ({ dst:=d,op:=.load T x,type:=tt,pos:=p,after:=af,guard:=gd } :: rest) a w:=
 wps_load_el (S.freeze true i hk hi) i (by rw [List.getElem?_set_self (List.getElem?_eq_some_iff.1 hi).1]) hj q hx (by rw [hn,Nat.zero_add]) hT hu next hgd
theorem wps_loada_own {α : Type} {E : TypeId} {enc : α → List Value} {k R n c nn : Nat} {xs : List α} (hk : ∀ x,(enc x).length = k) (S : St G w0 w L) (i : Nat) (hi : L[i]? = some (Own E enc k (.slice (some ⟨R,0,none⟩) n c) xs)) {j : Nat} {e : α} (hj : xs[j]? = some e) (q : Nat) (vs : List Value) {T : TypeId} (m : Nat)
 (hx : a.eval x = .pointer (some ⟨R,nn,none⟩)) (hn : nn = j * k + q) (hT : aggB P T m = true) (hm : vs.length = m) (hv : ((enc e).drop q).take vs.length = vs)
 (next : wpList P ops Q rest (a.put d (.agg vs.toArray)) w) (hgd : gOk gd ops a = true:=by with_unfolding_all rfl) : wpList P ops Q ({ dst:=d,op:=.load T x,type:=tt,pos:=p,after:=af,guard:=gd } :: rest) a w:=
 wps_loada_el (S.freeze true i hk hi) i (by rw [List.getElem?_set_self (List.getElem?_eq_some_iff.1 hi).1]) hj q vs m hx (by rw [hn,Nat.zero_add]) hT hm hv next hgd
theorem own_put {α : Type} {E : TypeId} {enc : α → List Value} {k R n c : Nat} {xs : List α} (hk : ∀ x,(enc x).length = k) (S : St G w0 w L) (i : Nat) (hi : L[i]? = some (Own E enc k (.slice (some ⟨R,0,none⟩) n c) xs)) {j : Nat} (hj : j < xs.length) (e' : α) {cur : Array Value} (hO : OwnAt E enc k 0 w R c cur xs)
 (hb : w'.heap[R]? = some (.cells (splice cur (j * k) (enc e')) E (0,0))) (hK : Keep (fun b=>b = R) w w') : St G w0 w' (L.set i (Own E enc k (.slice (some ⟨R,0,none⟩) n c) (xs.set j e'))):=
 S.step hi rfl fun F hF=>by
  have hO':=(hO.store hk e' hj hb).own hk
  rw [List.length_set] at hO'
  have hn : n = xs.length:=by obtain ⟨_,_,e⟩:=own_at hF;exact e
  refine ⟨F,hK.mono (fun x _ h e=>h ((hF.2 x).2 (by simp [Value.ownBlock,e]))),⟨by rw [hn];exact hO',fun x=>by rw [hF.2 x]⟩,fun _ h=>.inl h⟩
theorem wps_store_owna {α : Type} {E : TypeId} {enc : α → List Value} {k R n c nn : Nat} {xs : List α} (hk : ∀ x,(enc x).length = k) (S : St G w0 w L) (i : Nat) (hi : L[i]? = some (Own E enc k (.slice (some ⟨R,0,none⟩) n c) xs)) {j : Nat} {e : α} (hj : xs[j]? = some e) (e' : α) (q : Nat) (vs : List Value) {T : TypeId} (m : Nat)
 (hx : a.eval x = .pointer (some ⟨R,nn,none⟩)) (hn : nn = j * k + q) (hy : a.eval y = .agg vs.toArray) (hT : aggB P T m = true) (hm : vs.length = m) (h1 : vs.all Value.oneCell' = true) (he : enc e' = (enc e).take q ++ vs ++ (enc e).drop (q + vs.length)) (hq : q + vs.length ≤ k)
 (next : ∀ w',St G w0 w' (L.set i (Own E enc k (.slice (some ⟨R,0,none⟩) n c) (xs.set j e'))) → wpList P ops Q rest (a.put d undef) w') (hgd : gOk gd ops a = true:=by with_unfolding_all rfl) :
 wpList P ops Q ({ dst:=d,op:=.store T x y,type:=tt,pos:=p,after:=af,guard:=gd } :: rest) a w:=by
 obtain ⟨F,hF⟩:=S.get hi
 obtain ⟨cur,hO,rfl⟩:=own_at hF
 have hjl:=(List.getElem?_eq_some_iff.1 hj).1
 have hfit:=hO.fit hjl
 subst hn hm
 refine wpList_store_agg (hgd:=hgd) vs hT hx hy hO.heap (by omega) (by simpa using h1) fun w' hb hK=>next w' ?_
 refine own_put hk S i hi hjl e' hO ?_ hK
 rw [hb,splice_part (e:=enc e) (e':=enc e') (fun q u hu=>by have:=hO.cells hk hj q u hu;rwa [cell_of hO.heap] at this) (by rw [hk];exact hq) he]
theorem wps_store_own {α : Type} {E : TypeId} {enc : α → List Value} {k R n c nn : Nat} {xs : List α} (hk : ∀ x,(enc x).length = k) (S : St G w0 w L) (i : Nat) (hi : L[i]? = some (Own E enc k (.slice (some ⟨R,0,none⟩) n c) xs)) {j : Nat} {e : α} (hj : xs[j]? = some e) (e' : α) (q : Nat) {u : Value} {T : TypeId}
 (hx : a.eval x = .pointer (some ⟨R,nn,none⟩)) (hn : nn = j * k + q) (hy : a.eval y = u) (hT : (match P.info? T with | some i=>i.size == 1 | none=>false) = true) (h1 : u.oneCell' = true) (he : enc e' = (enc e).take q ++ [u] ++ (enc e).drop (q + 1)) (hq : q + 1 ≤ k)
 (next : ∀ w',St G w0 w' (L.set i (Own E enc k (.slice (some ⟨R,0,none⟩) n c) (xs.set j e'))) → wpList P ops Q rest (a.put d undef) w') (hgd : gOk gd ops a = true:=by with_unfolding_all rfl) :
 wpList P ops Q ({ dst:=d,op:=.store T x y,type:=tt,pos:=p,after:=af,guard:=gd } :: rest) a w:=by
 obtain ⟨F,hF⟩:=S.get hi
 obtain ⟨cur,hO,rfl⟩:=own_at hF
 have hjl:=(List.getElem?_eq_some_iff.1 hj).1
 have hfit:=hO.fit hjl
 subst hn
 refine wpList_store_one (hgd:=hgd) u hT hx hy hO.heap (by omega) h1 fun w' hb hK=>next w' ?_
 refine own_put hk S i hi hjl e' hO ?_ hK
 rw [hb,splice_part (e:=enc e) (e':=enc e') (fun q u hu=>by have:=hO.cells hk hj q u hu;rwa [cell_of hO.heap] at this) (by rw [hk];exact hq) he]
def zeroIs (P : Program) (E : TypeId) (k : Nat) (cs : List Value) : Prop:=∃ i z,P.info? E = some i ∧ i.zero = some z ∧ i.size = k ∧ z.cells.toList = cs ∧ i.bytes ≤ 32768
theorem made_rep {α : Type} {enc : α → List Value} {k : Nat} {z : Value} {x0 : α} (hk : ∀ x,(enc x).length = k) (hz : z.cells.toList = enc x0) (n : Nat) : (madeCells z.cells (n * k)).toList = flatE enc (List.replicate n x0):=by
 have hzs : z.cells.size = k:=by rw [← Array.length_toList,hz,hk]
 apply List.ext_getElem?
 intro q
 by_cases hq : q < n * k
 · have hk0 : 0 < k:=by rcases Nat.eq_zero_or_pos k with h | h;· subst h;omega
                        · exact h
   have hj : q / k < n:=(Nat.div_lt_iff_lt_mul hk0).2 hq
   have hg:=flatE_get (enc:=enc) hk (xs:=List.replicate n x0) (i:=q / k) (x:=x0) (by rw [List.getElem?_replicate,if_pos hj]) (q % k) (Nat.mod_lt _ hk0)
   rw [show q / k * k + q % k = q by rw [Nat.mul_comm];exact Nat.div_add_mod q k] at hg
   rw [hg,← hz]
   simp only [madeCells,Array.toList_map,Array.toList_range,List.getElem?_map,List.getElem?_range hq,Option.map_some,hzs]
   rw [Array.getElem?_toList,Array.getElem?_eq_getElem (by rw [hzs];exact Nat.mod_lt _ hk0),getElem!_pos z.cells (q % k) (by rw [hzs];exact Nat.mod_lt _ hk0)]
 · rw [List.getElem?_eq_none (by simp [madeCells];omega),List.getElem?_eq_none (by rw [flatE_length hk];simp;omega)]
theorem wps_make {α : Type} {enc : α → List Value} {k : Nat} (hk : ∀ x,(enc x).length = k) {T E : TypeId} (hT : P.underlying T = some (.slice E)) (x0 : α) (hz : zeroIs P E k (enc x0)) (S : St G w0 w L) (n : Nat) (hx : a.eval x = .int .i64 n) (hy : a.eval y = .int .i64 n) (hn : n ≤ 4294967296)
 (next : ∀ b w',St G w0 w' (Own E enc k (.slice (some ⟨b,0,none⟩) n n) (List.replicate n x0) :: L) → wpList P ops Q rest (a.put d (.slice (some ⟨b,0,none⟩) n n)) w') (hgd : gOk gd ops a = true:=by with_unfolding_all rfl) :
 wpList P ops Q ({ dst:=d,op:=.makeSlice T x y,type:=tt,pos:=p,after:=af,guard:=gd } :: rest) a w:=
 wpList_ok hgd fun K hK=>by
  obtain ⟨i,z,h1,h2,h3,h4,h5⟩:=hz
  have hb : i.bytes * n ≤ 32768 * 4294967296:=Nat.mul_le_mul h5 hn
  have hb' : (i.bytes : Int) * (n : Int) ≤ 281474976710656:=by
   have : ((i.bytes * n : Nat) : Int) ≤ 281474976710656:=by omega
   rwa [Int.natCast_mul] at this
  have hr:=run_make (P:=P) w T E i z hT h1 h2 .i64 .i64 n n (by omega) (Int.le_refl _) hb' (by omega)
  simp only [Int.toNat_natCast] at hr
  unfold Oper.wp execOp
  simp only [hx,hy,hr,Sem.run_bind,Sem.run_pure,Result.andThen_ok]
  refine hK _ _ (next _ _ (S.grow (F:=fun x=>x = w.heap.size) (keep_alloc w _) ⟨?_,fun x=>by simp [Value.ownBlock,eq_comm]⟩ (fun _ e=>Nat.le_of_eq e.symm)))
  refine ⟨by rw [flatE_length hk],.inr ⟨w.heap.size,n,madeCells z.cells (n * i.size),by simp,Nat.zero_le _,heap_alloc_new w _,by simp,by simp [maxLen];omega,by rw [size_madeCells,h3],?_⟩⟩
  rw [h3,List.length_replicate,made_rep hk h4,List.take_of_length_le (by rw [flatE_length hk];simp)]
theorem blk_sl {α : Type} {enc : α → List Value} {k : Nat} {b : Nat} {sh : Bool} {cs : Array Value} {t : TypeId} {F : Nat → Prop} {n : Nat} (ys : List α) (hk : ∀ x,(enc x).length = k) (h : (Blk sh b cs t).at_ w F) (hy : flatE enc ys = cs.toList) (hn : ys.length = n) : (Sl true enc k (.slice (some ⟨b,0,none⟩) n n) ys).at_ w F:=by
 refine ⟨⟨some ⟨b,0,none⟩,n,by rw [hn],by omega,(fun e=>by cases e),fun i x hi=>⟨b,0,rfl,(h.2 b).2 rfl,fun j u hj=>?_⟩⟩,fun x hx=>(Blk sh b cs t).lt h x hx⟩
 have hjk : j < k:=by rw [← hk x];exact (List.getElem?_eq_some_iff.1 hj).1
 rw [cell_of h.1,Nat.zero_add,← Array.getElem?_toList,← hy,flatE_get hk hi j hjk];exact hj
theorem own_conv {α β : Type} {E : TypeId} {enc : α → List Value} {enc' : β → List Value} {k : Nat} {v : Value} {xs : List α} {ys : List β} (hl : xs.length = ys.length) (hf : flatE enc xs = flatE enc' ys) {F : Nat → Prop} (h : (Own E enc k v xs).at_ w F) : (Own E enc' k v ys).at_ w F:=by
 obtain ⟨h1,h2⟩:=h
 unfold Owns at h1
 rw [hl,hf] at h1
 exact ⟨h1,h2⟩
theorem St.conv {α β : Type} {E : TypeId} {enc : α → List Value} {enc' : β → List Value} {k : Nat} {v : Value} {xs : List α} (S : St G w0 w L) (i : Nat) (hi : L[i]? = some (Own E enc k v xs)) (ys : List β) (hl : xs.length = ys.length) (hf : flatE enc xs = flatE enc' ys) : St G w0 w (L.set i (Own E enc' k v ys)):=
 S.weak hi (fun _=>rfl) fun F h=>⟨F,fun _ hb=>hb,own_conv hl hf h⟩
end
end Go.Proofs.YtmjljoaakdocaaaGreatDoor.Mem
/- Several slices at once, and things that are shared read in more than one way. Over any program. -/
namespace Go.Proofs.YtmjljoaakdocaaaGreatDoor.Mem
open Go Go.RowKit
section
variable {G : Nat → Prop} {w0 w w' : World} {L : List Asn} {A A' B C : Asn} {i : Nat}
theorem St.also (S : St G w0 w L) (i : Nat) (hi : L[i]? = some A) (hs : A.sh = true) (hs' : A'.sh = true) (h : ∀ F,A.at_ w F → ∃ F',(∀ b,F' b → F b) ∧ A'.at_ w F') : St G w0 w (A' :: L):=by
 obtain ⟨Fs,hf,hd⟩:=S.ex
 obtain ⟨F',hF',hA'⟩:=h _ (hf i A hi).1
 refine ⟨S.keep,fun j=>match j with | 0=>F' | j + 1=>Fs j,fun j B hj=>?_,fun j k B C hjk hj hk=>?_⟩
 · cases j with
   | zero=>simp at hj;subst hj;exact ⟨hA',fun e=>by rw [hs'] at e;cases e⟩
   | succ j=>simp at hj;exact hf j B hj
 · cases k with
   | zero=>omega
   | succ k=>
     simp at hk
     cases j with
     | zero=>
       simp at hj;subst hj
       rcases Nat.lt_trichotomy i k with h1 | h1 | h1
       · rcases hd i k A C h1 hi hk with ⟨_,e⟩ | e
         · exact .inl ⟨hs',e⟩
         · exact .inr fun b hb=>e b (hF' b hb)
       · subst h1;rw [hi] at hk;cases hk;exact .inl ⟨hs',hs⟩
       · rcases hd k i C A h1 hk hi with ⟨e,_⟩ | e
         · exact .inl ⟨hs',e⟩
         · exact .inr fun b hb hb'=>e b hb' (hF' b hb)
     | succ j=>simp at hj;exact hd j k B C (by omega) hj hk
theorem St.merge (S : St G w0 w (A :: B :: L)) (C : Asn) (hA : A.sh = false) (hB : B.sh = false) (_ : C.sh = false) (h : ∀ F F',A.at_ w F → B.at_ w F' → C.at_ w (fun b=>F b ∨ F' b)) : St G w0 w (C :: L):=by
 obtain ⟨Fs,hf,hd⟩:=S.ex
 have a:=hf 0 A rfl
 have b:=hf 1 B rfl
 refine ⟨S.keep,fun j=>match j with | 0=>fun x=>Fs 0 x ∨ Fs 1 x | j + 1=>Fs (j + 2),fun j D hj=>?_,fun j k D E hjk hj hk=>?_⟩
 · cases j with
   | zero=>simp at hj;subst hj;exact ⟨h _ _ a.1 b.1,fun _ x hx=>hx.elim (a.2 hA x) (b.2 hB x)⟩
   | succ j=>simp at hj;exact hf (j + 2) D (by simpa using hj)
 · cases k with
   | zero=>omega
   | succ k=>
     simp at hk
     cases j with
     | zero=>
       simp at hj;subst hj
       refine .inr fun x hx hx'=>?_
       rcases hx with hx | hx
       · rcases hd 0 (k + 2) A E (by omega) rfl (by simpa using hk) with ⟨e,_⟩ | e
         · rw [hA] at e;cases e
         · exact e x hx hx'
       · rcases hd 1 (k + 2) B E (by omega) rfl (by simpa using hk) with ⟨e,_⟩ | e
         · rw [hB] at e;cases e
         · exact e x hx hx'
     | succ j=>simp at hj;exact hd (j + 2) (k + 2) D E (by omega) (by simpa using hj) (by simpa using hk)
theorem SlAt.mono {α : Type} {enc : α → List Value} {k : Nat} {F F' : Nat → Prop} {v : Value} {xs : List α} (h : SlAt enc k w F v xs) (hF : ∀ b,F b → F' b) : SlAt enc k w F' v xs:=by
 obtain ⟨a,c,e,h1,h2,h3⟩:=h
 exact ⟨a,c,e,h1,h2,fun i x hi=>let ⟨R,o,e1,hR,hc⟩:=h3 i x hi;⟨R,o,e1,hF R hR,hc⟩⟩
theorem SlAt.loc {α : Type} {enc : α → List Value} {k : Nat} {F : Nat → Prop} {v : Value} {xs : List α} (h : SlAt enc k w F v xs) (hb : ∀ b,F b → w'.heap[b]? = w.heap[b]?) : SlAt enc k w' F v xs:=by
 obtain ⟨a,c,e,h1,h2,h3⟩:=h
 refine ⟨a,c,e,h1,h2,fun i x hi=>?_⟩
 obtain ⟨R,o,e1,hR,hc⟩:=h3 i x hi
 exact ⟨R,o,e1,hR,fun j u hj=>(World.cell?_of_block (w:=w) (a:=⟨R,o + i * k + j,none⟩) (hb R hR)).trans (hc j u hj)⟩
theorem lt_loc {F : Nat → Prop} (h : ∀ b,F b → b < w.heap.size) (hb : ∀ b,F b → w'.heap[b]? = w.heap[b]?) : ∀ b,F b → b < w'.heap.size:=fun b hF=>by
 have:=hb b hF
 rw [Array.getElem?_eq_getElem (h b hF)] at this
 exact (Array.getElem?_eq_some_iff.1 this).1
def SlsAt {α : Type} (enc : α → List Value) (k : Nat) (w : World) (F : Nat → Prop) (vs : List Value) (xss : List (List α)) : Prop:=
 vs.length = xss.length ∧ ∀ (i : Nat) v xs,vs[i]? = some v → xss[i]? = some xs → SlAt enc k w F v xs
theorem SlsAt.mono {α : Type} {enc : α → List Value} {k : Nat} {F F' : Nat → Prop} {vs : List Value} {xss : List (List α)} (h : SlsAt enc k w F vs xss) (hF : ∀ b,F b → F' b) : SlsAt enc k w F' vs xss:=
 ⟨h.1,fun i v xs h1 h2=>(h.2 i v xs h1 h2).mono hF⟩
theorem SlsAt.loc {α : Type} {enc : α → List Value} {k : Nat} {F : Nat → Prop} {vs : List Value} {xss : List (List α)} (h : SlsAt enc k w F vs xss) (hb : ∀ b,F b → w'.heap[b]? = w.heap[b]?) : SlsAt enc k w' F vs xss:=
 ⟨h.1,fun i v xs h1 h2=>(h.2 i v xs h1 h2).loc hb⟩
def Sls {α : Type} (sh : Bool) (enc : α → List Value) (k : Nat) (vs : List Value) (xss : List (List α)) : Asn where
 sh:=sh
 at_ w F:=SlsAt enc k w F vs xss ∧ ∀ b,F b → b < w.heap.size
 loc h hb:=⟨h.1.loc hb,lt_loc h.2 hb⟩
 lt h:=h.2
theorem St.sls {α : Type} {sh : Bool} {enc : α → List Value} {k : Nat} {vs : List Value} {xss : List (List α)} (S : St G w0 w L) (i : Nat) (hi : L[i]? = some (Sls sh enc k vs xss)) : ∃ F,SlsAt enc k w F vs xss:=let ⟨F,h⟩:=S.get hi;⟨F,h.1⟩
theorem St.slsEl {α : Type} {enc : α → List Value} {k : Nat} {vs : List Value} {xss : List (List α)} (S : St G w0 w L) (i : Nat) (hi : L[i]? = some (Sls true enc k vs xss)) {j : Nat} {v : Value} {xs : List α} (hv : vs[j]? = some v) (hx : xss[j]? = some xs) : St G w0 w (Sl true enc k v xs :: L):=
 S.also i hi rfl rfl fun F h=>⟨F,fun _ h=>h,h.1.2 j v xs hv hx,h.2⟩
theorem St.slsNil {α : Type} (S : St G w0 w L) (enc : α → List Value) (k : Nat) : St G w0 w (Sls false enc k [] ([] : List (List α)) :: L):=
 S.grow (F:=fun _=>False) (Keep.refl _ _) ⟨⟨rfl,fun i v xs h=>by simp at h⟩,fun _ h=>h.elim⟩ (fun _ h=>h.elim)
theorem St.slsSnoc {α : Type} {enc : α → List Value} {k : Nat} {vs : List Value} {xss : List (List α)} {v : Value} {xs : List α} (S : St G w0 w (Sl false enc k v xs :: Sls false enc k vs xss :: L)) : St G w0 w (Sls false enc k (vs ++ [v]) (xss ++ [xs]) :: L):=
 S.merge _ rfl rfl rfl fun F F' h h'=>by
  refine ⟨⟨by simp [h'.1.1],fun j u ys hu hy=>?_⟩,fun b hb=>hb.elim (h.2 b) (h'.2 b)⟩
  by_cases hj : j < vs.length
  · rw [List.getElem?_append_left hj] at hu
    rw [List.getElem?_append_left (by rw [← h'.1.1];exact hj)] at hy
    exact (h'.1.2 j u ys hu hy).mono fun _=>.inr
  · have hjl:=(List.getElem?_eq_some_iff.1 hu).1
    simp at hjl
    obtain rfl : j = vs.length:=by omega
    rw [List.getElem?_append_right (Nat.le_refl _)] at hu
    rw [List.getElem?_append_right (by rw [h'.1.1];exact Nat.le_refl _)] at hy
    simp [h'.1.1] at hu hy
    subst hu;subst hy
    exact h.1.mono fun _=>.inl
end
section
variable {P : Program} {ops : Array Oper} {rest : List Oper} {a : Act} {Q : Exit → Act → World → Prop} {d : Option Tmp} {tt : TypeId} {p : String} {af : Array Edge} {gd : Option (Nat × Bool)} {x y : Operand} {w : World}
theorem run_index_leaf {T e : TypeId} {n : Nat} {cs : Array Value} {k : IntKind} {j : Nat} {v : Value} (hT : P.underlying T = some (.array n e)) (he : leafB P e = true) (hj : j < n) (hv : cs[j]? = some v) : (Instr.index T (.agg cs) (.int k j)).run P w = .ok v w:=by
 unfold leafB at he
 simp only [Bool.and_eq_true] at he
 have h1 : (isAgg e).run P w = .ok false w:=by
  cases hu : P.underlying e with
  | none=>rw [hu] at he;simp at he
  | some x=>rw [hu] at he;rw [run_isAgg hu];unfold isAggB;rw [hu];cases x <;> first | rfl | simp at he
 have h2 : (Go.sizeOf e).run P w = .ok 1 w:=by
  cases hu : P.underlying e with
  | none=>rw [hu] at he;simp at he
  | some u=>
    cases hi : P.info? e with
    | none=>rw [hi] at he;simp at he
    | some i=>
      rw [hi] at he
      have h3 : i.size = 1:=by simpa using he.2
      have h4 : P.cellsOf e = 1:=by unfold Program.cellsOf;rw [hi];exact h3
      rw [run_sizeOf hu,h4]
 have hn : (0 ≤ (j : Int) ∧ (j : Int) < (n : Int)):=by omega
 simp [Instr.index,run_underlying hT,asIntOf,hn,part,h1,h2,hv,go_sem,hj]
theorem wps_index {T e : TypeId} {n : Nat} {cs : Array Value} {k : IntKind} {j : Nat} {v : Value} (hx : a.eval x = .agg cs) (hy : a.eval y = .int k j) (hT : P.underlying T = some (.array n e)) (he : leafB P e = true) (hj : j < n) (hv : cs[j]? = some v)
 (next : wpList P ops Q rest (a.put d v) w) (hgd : gOk gd ops a = true:=by with_unfolding_all rfl) : wpList P ops Q ({ dst:=d,op:=.index T x y,type:=tt,pos:=p,after:=af,guard:=gd } :: rest) a w:=
 wpList_ok hgd fun K hK=>by
  unfold Oper.wp execOp
  simp only [hx,hy,run_index_leaf hT he hj hv,Sem.run_bind,Sem.run_pure,Result.andThen_ok]
  exact hK _ _ next
end
end Go.Proofs.YtmjljoaakdocaaaGreatDoor.Mem
/- Plain: programs, configurations, models: what they are, what is wrong with them. No program in sight. -/
namespace Go.Proofs.YtmjljoaakdocaaaGreatDoor
open Go Go.RowKit Mem
structure Instr where
 op : Int
 a : Int
 b : Int
 c : Int
 d : Int
 deriving DecidableEq
structure State where
 n0 : Int
 n1 : Int
 n2 : Int
 n3 : Int
 deriving DecidableEq
structure Place where
 program : Int
 first : State
 deriving DecidableEq
structure Start where
 dst : Int
 at_ : Int
 kind : Int
 data : Int
 deriving DecidableEq
structure Cfg where
 programs : List (List Instr)
 lps : List Place
 starts : List Start
 fin : Int
 fuel : Int
 fan : Int
instance : Inhabited Instr:=⟨⟨0,0,0,0,0⟩⟩
instance : Inhabited State:=⟨⟨0,0,0,0⟩⟩
instance : Inhabited Place:=⟨⟨0,default⟩⟩
instance : Inhabited Start:=⟨⟨0,0,0,0⟩⟩
def Instr.cells (x : Instr) : List Value:=[.int .i64 x.op,.int .i64 x.a,.int .i64 x.b,.int .i64 x.c,.int .i64 x.d]
def Place.cells (x : Place) : List Value:=[.int .i64 x.program,.int .i64 x.first.n0,.int .i64 x.first.n1,.int .i64 x.first.n2,.int .i64 x.first.n3]
def Start.cells (x : Start) : List Value:=[.int .i64 x.dst,.int .i64 x.at_,.int .i64 x.kind,.int .i64 x.data]
theorem incells : ∀ e : Instr,e.cells.length = 5:=fun _=>rfl
theorem inone : ∀ e : Instr,∀ u ∈ e.cells,u.oneCell' = true:=fun _=>by simp [Instr.cells,Value.oneCell']
theorem plcells : ∀ e : Place,e.cells.length = 5:=fun _=>rfl
theorem plone : ∀ e : Place,∀ u ∈ e.cells,u.oneCell' = true:=fun _=>by simp [Place.cells,Value.oneCell']
theorem stcells : ∀ e : Start,e.cells.length = 4:=fun _=>rfl
theorem stone : ∀ e : Start,∀ u ∈ e.cells,u.oneCell' = true:=fun _=>by simp [Start.cells,Value.oneCell']
def vcell (v : Value) : List Value:=[v]
theorem vcells : ∀ v : Value,(vcell v).length = 1:=fun _=>rfl
structure Word where
 text : ByteArray
 many : Int
structure About where
 word : Word
 num : State
def About.cells (x : About) : List Value:=[.string x.word.text,.int .i64 x.word.many,.int .i64 x.num.n0,.int .i64 x.num.n1,.int .i64 x.num.n2,.int .i64 x.num.n3]
def bytes (l : List UInt8) : ByteArray:=⟨l.toArray⟩
def table : List About:=[
 ⟨⟨bytes [],0⟩,⟨0,0,0,0⟩⟩,
 ⟨⟨bytes [115,101,116],2⟩,⟨1,2,0,0⟩⟩,
 ⟨⟨bytes [109,111,118,101],2⟩,⟨1,1,0,0⟩⟩,
 ⟨⟨bytes [97,100,100],3⟩,⟨1,1,1,0⟩⟩,
 ⟨⟨bytes [115,117,98],3⟩,⟨1,1,1,0⟩⟩,
 ⟨⟨bytes [109,117,108],3⟩,⟨1,1,1,0⟩⟩,
 ⟨⟨bytes [109,111,100],3⟩,⟨1,1,1,0⟩⟩,
 ⟨⟨bytes [108,101,115,115],3⟩,⟨1,1,1,0⟩⟩,
 ⟨⟨bytes [106,117,109,112],1⟩,⟨3,0,0,0⟩⟩,
 ⟨⟨bytes [122,101,114,111],2⟩,⟨1,3,0,0⟩⟩,
 ⟨⟨bytes [110,111,119],1⟩,⟨1,0,0,0⟩⟩,
 ⟨⟨bytes [107,105,110,100],1⟩,⟨1,0,0,0⟩⟩,
 ⟨⟨bytes [100,97,116,97],1⟩,⟨1,0,0,0⟩⟩,
 ⟨⟨bytes [115,101,108,102],1⟩,⟨1,0,0,0⟩⟩,
 ⟨⟨bytes [115,101,110,100],4⟩,⟨1,1,1,4⟩⟩,
 ⟨⟨bytes [115,116,111,112],0⟩,⟨0,0,0,0⟩⟩]
theorem table_len : table.length = 16:=rfl
def firstE : List Int → Int
 | []=>0
 | x :: l=>if x = 0 then firstE l else x
theorem firstE_zero {l : List Int} : firstE l = 0 ↔ ∀ x ∈ l,x = 0:=by
 induction l with
 | nil=>simp [firstE]
 | cons x l ih=>by_cases h : x = 0 <;> simp [firstE,h,ih]
def isOp (op : Int) : Bool:=decide (1 ≤ op ∧ op ≤ 15)
def fitsN (asked n many : Int) : Bool:=
 if asked = 1 then decide (0 ≤ n ∧ n < 8) else if asked = 2 then true else if asked = 3 then decide (0 ≤ n ∧ n ≤ many) else if asked = 4 then decide (0 ≤ n ∧ n ≤ 255) else decide (n = 0)
def mayE (x : Instr) (many : Int) : Int:=
 if isOp x.op then
  (match table[x.op.toNat]? with
  | some t=>if fitsN t.num.n0 x.a many && fitsN t.num.n1 x.b many && fitsN t.num.n2 x.c many && fitsN t.num.n3 x.d many then 0 else 10
  | none=>15)
 else 15
def codeE (p : List Instr) : Int:=if 64 < p.length then 11 else firstE (p.map (mayE · p.length))
def whereE : List Int → Int → Int
 | [],_=>0
 | x :: l,i=>if x = 0 then whereE l (i + 1) else i + 1
def codeAt (p : List Instr) : Int:=if 64 < p.length then 0 else whereE (p.map (mayE · p.length)) 0
def sizesOk (c : Cfg) : Prop:=(1 ≤ c.lps.length ∧ c.lps.length ≤ 32) ∧ (1 ≤ c.programs.length ∧ c.programs.length ≤ 32) ∧ (1 ≤ c.fin ∧ c.fin ≤ 1073741824) ∧ (1 ≤ c.fuel ∧ c.fuel ≤ 1024) ∧ (0 ≤ c.fan ∧ c.fan ≤ 8)
instance (c : Cfg) : Decidable (sizesOk c):=by unfold sizesOk;infer_instance
def sizesE (c : Cfg) : Int:=if sizesOk c then 0 else 10
def startsE (c : Cfg) : Int:=if 256 < c.starts.length then 11 else 0
def programsE (c : Cfg) : Int:=firstE (c.programs.map codeE)
def endsE (c : Cfg) : Int:=if (∀ p ∈ c.lps,0 ≤ p.program ∧ p.program < c.programs.length) ∧ (∀ s ∈ c.starts,0 ≤ s.dst ∧ s.dst < c.lps.length) then 0 else 14
def timesE (c : Cfg) : Int:=if ∀ s ∈ c.starts,0 ≤ s.at_ ∧ s.at_ ≤ c.fin then 0 else 18
def cfgE (c : Cfg) : Int:=firstE [sizesE c,startsE c,programsE c,endsE c,timesE c]
def startEv (i : Nat) (s : Start) : Event:=⟨⟨s.at_,-1,-1,i⟩,s.dst,s.kind,s.data⟩
def startsFrom : Nat → List Start → List Event
 | _,[]=>[]
 | i,s :: l=>startEv i s :: startsFrom (i + 1) l
theorem startsFrom_append (l m : List Start) (i : Nat) : startsFrom i (l ++ m) = startsFrom i l ++ startsFrom (i + l.length) m:=by
 induction l generalizing i with
 | nil=>simp [startsFrom]
 | cons x l ih=>simp [startsFrom,ih,Nat.add_assoc,Nat.add_comm 1]
theorem startsFrom_len (l : List Start) (i : Nat) : (startsFrom i l).length = l.length:=by
 induction l generalizing i with
 | nil=>rfl
 | cons x l ih=>simp [startsFrom,ih]
structure CfgAt (w : World) (F : Nat → Prop) (vs : List Value) (hs : List Value) (c : Cfg) : Prop where
 heads : ∃ vP vL vS,vs = [vP,vL,vS,.int .i64 c.fin,.int .i64 c.fuel,.int .i64 c.fan] ∧ SlAt vcell 1 w F vP hs ∧ SlAt Place.cells 5 w F vL c.lps ∧ SlAt Start.cells 4 w F vS c.starts
 progs : SlsAt Instr.cells 5 w F hs c.programs
theorem CfgAt.loc {w w' : World} {F : Nat → Prop} {vs hs : List Value} {c : Cfg} (h : CfgAt w F vs hs c) (hb : ∀ b,F b → w'.heap[b]? = w.heap[b]?) : CfgAt w' F vs hs c:=by
 obtain ⟨⟨vP,vL,vS,e,h1,h2,h3⟩,h4⟩:=h
 exact ⟨⟨vP,vL,vS,e,h1.loc hb,h2.loc hb,h3.loc hb⟩,h4.loc hb⟩
def CfgA (sh : Bool) (vs hs : List Value) (c : Cfg) : Asn where
 sh:=sh
 at_ w F:=CfgAt w F vs hs c ∧ ∀ b,F b → b < w.heap.size
 loc h hb:=⟨h.1.loc hb,lt_loc h.2 hb⟩
 lt h:=h.2
def ModA (sh : Bool) (T : TypeId) (R : Nat) (vs hs : List Value) (c : Cfg) : Asn where
 sh:=sh
 at_ w F:=(w.heap[R]? = some (.cells vs.toArray T (0,0)) ∧ F R ∧ CfgAt w F vs hs c) ∧ ∀ b,F b → b < w.heap.size
 loc h hb:=⟨⟨(hb _ h.1.2.1).trans h.1.1,h.1.2.1,h.1.2.2.loc hb⟩,lt_loc h.2 hb⟩
 lt h:=h.2
section
variable {G : Nat → Prop} {w0 w : World} {L : List Asn} {vs hs : List Value} {c : Cfg}
theorem Mem.St.cfg (S : St G w0 w L) (i : Nat) (hi : L[i]? = some (CfgA true vs hs c)) : ∃ aP cP aL cL aS cS,vs = [.slice aP c.programs.length cP,.slice aL c.lps.length cL,.slice aS c.starts.length cS,.int .i64 c.fin,.int .i64 c.fuel,.int .i64 c.fan] ∧ hs.length = c.programs.length ∧
 St G w0 w (Sls true Instr.cells 5 hs c.programs :: Sl true vcell 1 (.slice aP c.programs.length cP) hs :: Sl true Place.cells 5 (.slice aL c.lps.length cL) c.lps :: Sl true Start.cells 4 (.slice aS c.starts.length cS) c.starts :: L):=by
 obtain ⟨F,⟨⟨vP,vL,vS,e,h1,h2,h3⟩,h4⟩,h5⟩:=S.get hi
 obtain ⟨aP,cP,rfl,_⟩:=h1.form
 obtain ⟨aL,cL,rfl,_⟩:=h2.form
 obtain ⟨aS,cS,rfl,_⟩:=h3.form
 rw [h4.1] at e h1
 refine ⟨aP,cP,aL,cL,aS,cS,e,h4.1,?_⟩
 have key : ∀ F,(CfgA true vs hs c).at_ w F → SlAt vcell 1 w F (.slice aP c.programs.length cP) hs ∧ SlAt Place.cells 5 w F (.slice aL c.lps.length cL) c.lps ∧ SlAt Start.cells 4 w F (.slice aS c.starts.length cS) c.starts:=by
  rintro F ⟨⟨⟨vP,vL,vS,e',h1,h2,h3⟩,h4⟩,h5⟩
  rw [e] at e'
  simp only [List.cons.injEq] at e'
  obtain ⟨rfl,rfl,rfl,_⟩:=e'
  exact ⟨h1,h2,h3⟩
 have S1:=S.also (A:=CfgA true vs hs c) (A':=Sl true Start.cells 4 (.slice aS c.starts.length cS) c.starts) i hi rfl rfl fun F h=>⟨F,fun _ h=>h,(key F h).2.2,h.2⟩
 have S2:=S1.also (A:=CfgA true vs hs c) (A':=Sl true Place.cells 5 (.slice aL c.lps.length cL) c.lps) (i + 1) (by simpa using hi) rfl rfl fun F h=>⟨F,fun _ h=>h,(key F h).2.1,h.2⟩
 have S3:=S2.also (A:=CfgA true vs hs c) (A':=Sl true vcell 1 (.slice aP c.programs.length cP) hs) (i + 2) (by simpa using hi) rfl rfl fun F h=>⟨F,fun _ h=>h,(key F h).1,h.2⟩
 exact S3.also (A:=CfgA true vs hs c) (A':=Sls true Instr.cells 5 hs c.programs) (i + 3) (by simpa using hi) rfl rfl fun F h=>⟨F,fun _ h=>h,h.1.progs,h.2⟩
theorem Mem.St.modCfg {T : TypeId} {R : Nat} (S : St G w0 w L) (i : Nat) (hi : L[i]? = some (ModA true T R vs hs c)) : St G w0 w (CfgA true vs hs c :: L):=
 S.also (A:=ModA true T R vs hs c) (A':=CfgA true vs hs c) i hi rfl rfl fun F h=>⟨F,fun _ h=>h,h.1.2.2,h.2⟩
theorem Mem.St.modBlk {T : TypeId} {R : Nat} (S : St G w0 w L) (i : Nat) (hi : L[i]? = some (ModA true T R vs hs c)) : St G w0 w (Blk true R vs.toArray T :: L):=
 S.also (A:=ModA true T R vs hs c) (A':=Blk true R vs.toArray T) i hi rfl rfl fun _ h=>⟨fun x=>x = R,fun _ e=>e ▸ h.1.2.1,h.1.1,fun _=>Iff.rfl⟩
theorem Mem.St.modShare {T : TypeId} {R : Nat} (S : St G w0 w L) (i : Nat) (hi : L[i]? = some (ModA false T R vs hs c)) : St G w0 w (L.set i (ModA true T R vs hs c)):=
 S.weak hi (fun e=>by cases e) (fun F h=>⟨F,fun _ hb=>hb,h⟩)
end
end Go.Proofs.YtmjljoaakdocaaaGreatDoor
/- A region that draws its order, whose operations' values do not hang on the order: 'soft' ones come to one value wherever the state holds, and keep it; what is left is walked in each order. Over any program. -/
namespace Go.Proofs.YtmjljoaakdocaaaGreatDoor.Mem
open Go Go.RowKit Reg
section
variable {P : Program} {ops : Array Oper} {Q : Exit → Act → World → Prop} {G : Nat → Prop} {w0 : World} {L : List Asn}
theorem wpOp_ride {φ : Act → Act} {j : Nat} {o : Oper} {K : Act → World → Prop} {a : Act} {w : World} (hj : ops[j]? = some o) (he : execOp (φ a).eval o = execOp a.eval o) (hw : Region.wanted o (yielded ops (φ a).tmps) = Region.wanted o (yielded ops a.tmps))
 (hp : ∀ v,(φ a).put o.dst v = φ (a.put o.dst v)) (hd : ∀ d v,({ φ a with defers:=d :: (φ a).defers } : Act).put o.dst v = φ (({ a with defers:=d :: a.defers } : Act).put o.dst v)) :
 wpOp P ops (Tot [] Q) j K (φ a) w ↔ wpOp P ops (Tot [] Q) j (fun a' w'=>K (φ a') w') a w:=by
 unfold wpOp
 simp only [hj,hw]
 split
 · have hn : ∀ x : Prop,¬ (x ∧ LetsOut (Tot [] Q)):=fun _ h=>not_lets h.2
   rw [or_iff_left (hn _),or_iff_left (hn _)]
   unfold Oper.wp
   rw [he]
   generalize (execOp a.eval o).run P w = r
   cases r with
   | ok n w'=>
     cases n <;> simp only [Oper.upon,hp,hd]
     case enter f args=>
      constructor <;> intro h <;> refine Calls.mono h fun e w'' he=>?_ <;> cases e <;> first | exact he | exact absurd he not_lets | exact (he : False).elim
   | halt x w'=>cases x <;> simp only [Oper.upon] <;> exact Iff.rfl
 · rw [hp]
theorem wpOp_forms {j : Nat} {o : Oper} {K : Act → World → Prop} {a : Act} {w : World} (hj : ops[j]? = some o) (h : wpOp P ops (Tot [] Q) j K a w) :
 wpOp P ops (Tot [] Q) j (fun a' w'=>K a' w' ∧ ((∃ u,a' = a.put o.dst u) ∨ ∃ d u,a' = ({ a with defers:=d :: a.defers } : Act).put o.dst u)) a w:=by
 unfold wpOp at *
 simp only [hj] at *
 split at h
 · rename_i hw
   simp only [hw,if_true]
   rcases h with h | ⟨_,h⟩
   case inr=>exact absurd h not_lets
   refine .inl ?_
   unfold Oper.wp at *
   generalize (execOp a.eval o).run P w = r at *
   cases r with
   | ok n w'=>
     cases n <;> simp only [Oper.upon] at h ⊢
     case value v=>exact ⟨h,.inl ⟨v,rfl⟩⟩
     case skip=>exact ⟨h,.inl ⟨undef,rfl⟩⟩
     case defer d=>exact ⟨h,.inr ⟨d,undef,rfl⟩⟩
     case enter f args=>refine Calls.mono h fun e w'' he=>?_;cases e <;> first | exact ⟨he,.inl ⟨_,rfl⟩⟩ | exact he
     case row r args=>exact Rows.mono h fun v w'' he=>⟨he,.inl ⟨v,rfl⟩⟩
   | halt x w'=>cases x <;> simp only [Oper.upon] at h ⊢ <;> exact h
 · rename_i hw
   simp only [hw]
   exact ⟨h,.inl ⟨undef,rfl⟩⟩
def ordB (ops : Array Oper) : Bool:=
 Region.noSelect ops && (List.range ops.size).all fun i=>(List.range ops.size).all fun j=>i == j || ((masks .any ops.toList []).getD j 0).testBit i || ((masks .any ops.toList []).getD i 0).testBit j ||
  (match ops[i]?,ops[j]? with | some a,some b=>a.apart ops b | _,_=>true)
def W (P : Program) (ops : Array Oper) (Q : Exit → Act → World → Prop) (G : Nat → Prop) (w0 : World) (L : List Asn) : Nat → List Asn → Array Bool → Act → Prop
 | 0,T,listed,a=>Region.ready .any ops listed = [] ∧ ∀ w,St G w0 w (L ++ T) → Q .normal a w
 | f + 1,T,listed,a=>∀ w,St G w0 w (L ++ T) → (Region.ready .any ops listed = [] → Q .normal a w) ∧
    ∀ i ∈ Region.ready .any ops listed,wpOp P ops (Tot [] Q) i (fun a' w'=>∃ T',St G w0 w' (L ++ T') ∧ W P ops Q G w0 L f T' (listed.setIfInBounds i true) a') a w
theorem W_any : ∀ (f : Nat) (T : List Asn) (listed : Array Bool) (a : Act) (w : World),W P ops Q G w0 L f T listed a → St G w0 w (L ++ T) → wpAny P .any ops Q f listed a w
 | 0,_,_,_,w,h,S=>⟨h.1,h.2 w S⟩
 | f + 1,_,_,_,w,h,S=>⟨(h w S).1,fun i hi=>wpOp_tot (ns:=[]) (fun a' w' ⟨T',S',h'⟩=>W_any f T' _ a' w' h' S') ((h w S).2 i hi)⟩
def Soft (P : Program) (ops : Array Oper) (Q : Exit → Act → World → Prop) (G : Nat → Prop) (w0 : World) (L : List Asn) (i : Nat) (a A : Act) : Prop:=
 ∀ T w,St G w0 w (L ++ T) → wpOp P ops (Tot [] Q) i (fun a' w'=>a' = A ∧ St G w0 w' (L ++ T)) a w
theorem noSelect_spec (h : Region.noSelect ops = true) {j : Nat} {o : Oper} (hj : ops[j]? = some o) : ∀ cs b,o.op ≠ .select cs b:=by
 intro cs b e
 unfold Region.noSelect at h
 rw [Array.all_eq_true'] at h
 have:=h o (Array.mem_of_getElem? hj)
 simp [e] at this
theorem ordB_spec (h : ordB ops = true) : (∀ (j : Nat) (o : Oper),ops[j]? = some o → ∀ cs b,o.op ≠ .select cs b) ∧
 ∀ (i j : Nat) (a b : Oper),i ≠ j → ops[i]? = some a → ops[j]? = some b → ((masks .any ops.toList []).getD j 0).testBit i = false → ((masks .any ops.toList []).getD i 0).testBit j = false → a.apart ops b = true:=by
 simp only [ordB,Bool.and_eq_true] at h
 refine ⟨fun j o hj=>noSelect_spec h.1 hj,fun i j a b hij hi hj h1 h2=>?_⟩
 have:=List.all_eq_true.1 (List.all_eq_true.1 h.2 i (List.mem_range.2 (Array.getElem?_eq_some_iff.1 hi).1)) j (List.mem_range.2 (Array.getElem?_eq_some_iff.1 hj).1)
 simp only [h1,h2,hi,hj,Bool.or_false,Bool.or_eq_true,beq_iff_eq] at this
 exact this.resolve_left hij
theorem eval_defers (a : Act) (d : Deferred) : ({ a with defers:=d :: a.defers } : Act).eval = a.eval:=by funext x;cases x <;> rfl
theorem unlisted {listed : Array Bool} {i : Nat} (h : listed.getD i true = false) : listed.getD i false = false:=by
 rw [Array.getD_eq_getD_getElem?] at *
 cases hh : listed[i]? with
 | none=>rfl
 | some b=>rw [hh] at h;exact h
theorem put_size (a : Act) (d : Option Tmp) (v : Value) : (a.put d v).tmps.size = a.tmps.size:=by cases d <;> simp [Act.put]
theorem put_defers_eq (a : Act) (d : Option Tmp) (v : Value) : (a.put d v).defers = a.defers:=by cases d <;> rfl
theorem put_move {a b : Act} {d : Option Tmp} {u v : Value} (hs : b.tmps.size = a.tmps.size) (h : a.put d u = a.put d v) : b.put d u = b.put d v:=by
 cases d with
 | none=>rfl
 | some t=>
   simp only [Act.put,Act.mk.injEq,and_true] at h ⊢
   by_cases ht : t < a.tmps.size
   · have:=congrArg (fun x : Array Value=>x[t]?) h
     simp [ht] at this
     rw [this]
   · have hb : b.tmps.size ≤ t:=by rw [hs];exact Nat.le_of_not_lt ht
     rw [Array.setIfInBounds_eq_of_size_le hb,Array.setIfInBounds_eq_of_size_le hb]
theorem soft_ride {i : Nat} {o : Oper} {v : Value} {a b : Act} {w : World} {N : World → Prop} (hi : ops[i]? = some o) (he : execOp b.eval o = execOp a.eval o) (hw : Region.wanted o (yielded ops b.tmps) = Region.wanted o (yielded ops a.tmps)) (hsz : b.tmps.size = a.tmps.size)
 (h : wpOp P ops (Tot [] Q) i (fun a' w'=>a' = a.put o.dst v ∧ N w') a w) : wpOp P ops (Tot [] Q) i (fun a' w'=>a' = b.put o.dst v ∧ N w') b w:=by
 unfold wpOp at *
 simp only [hi,hw] at *
 split at h
 · rename_i hwt
   simp only [hwt,if_true]
   rcases h with h | ⟨_,h⟩
   case inr=>exact absurd h not_lets
   refine .inl ?_
   unfold Oper.wp at *
   rw [he]
   generalize (execOp a.eval o).run P w = r at *
   cases r with
   | ok n w'=>
     cases n <;> simp only [Oper.upon] at h ⊢
     case value u=>exact ⟨put_move hsz h.1,h.2⟩
     case skip=>exact ⟨put_move hsz h.1,h.2⟩
     case defer d=>
      have:=congrArg (fun x : Act=>x.defers.length) h.1
      simp [put_defers_eq] at this
     case enter f args=>refine Calls.mono h fun e w'' he=>?_;cases e <;> first | exact ⟨put_move hsz he.1,he.2⟩ | exact he
     case row r args=>exact Rows.mono h fun u w'' he=>⟨put_move hsz he.1,he.2⟩
   | halt x w'=>cases x <;> simp only [Oper.upon] at h ⊢ <;> exact h
 · rename_i hwt
   simp only [hwt]
   exact ⟨put_move hsz h.1,h.2⟩
theorem W_soft (hB : ordB ops = true) {i : Nat} {oi : Oper} {v : Value} (hi : ops[i]? = some oi) : ∀ (f : Nat) (T : List Asn) (listed : Array Bool) (a : Act),Closed .any ops listed → i ∈ Region.ready .any ops listed →
 Soft P ops Q G w0 L i a (a.put oi.dst v) → W P ops Q G w0 L f T (listed.setIfInBounds i true) (a.put oi.dst v) → W P ops Q G w0 L (f + 1) T listed a:=by
 obtain ⟨hsel,hap⟩:=ordB_spec hB
 intro f
 induction f with
 | zero=>
   intro T listed a hcl hr hs hw w S
   refine ⟨fun h=>by rw [h] at hr;(cases hr),fun j hj=>?_⟩
   by_cases hji : j = i
   · subst hji
     exact wpOp_mono (fun a' w' ⟨e,S'⟩=>⟨T,S',e ▸ hw⟩) (hs T w S)
   · have:=ready_mono hj hji
     rw [hw.1] at this
     cases this
 | succ f ih=>
   intro T listed a hcl hr hs hw w S
   refine ⟨fun h=>by rw [h] at hr;(cases hr),fun j hj=>?_⟩
   by_cases hji : j = i
   · subst hji
     exact wpOp_mono (fun a' w' ⟨e,S'⟩=>⟨T,S',e ▸ hw⟩) (hs T w S)
   · obtain ⟨hjun,oj,hoj,hall⟩:=mem_ready.1 hj
     obtain ⟨hiun,oi',hoi',halli⟩:=mem_ready.1 hr
     have e1 : ((masks .any ops.toList []).getD j 0).testBit i = false:=by
      cases hb : ((masks .any ops.toList []).getD j 0).testBit i with
      | false=>rfl
      | true=>have:=mask_listed hcl j oj hoj hall hb;rw [unlisted hiun] at this;cases this
     have e2 : ((masks .any ops.toList []).getD i 0).testBit j = false:=by
      cases hb : ((masks .any ops.toList []).getD i 0).testBit j with
      | false=>rfl
      | true=>have:=mask_listed hcl i oi' hoi' halli hb;rw [unlisted hjun] at this;cases this
     obtain ⟨h1,h2,h3⟩:=Oper.apart_spec (hap i j oi oj (Ne.symm hji) hi hoj e1 e2)
     have H:=(hw w S).2 j (ready_mono hj hji)
     have H2:=(wpOp_ride (P:=P) (Q:=Q) (φ:=fun b=>b.put oi.dst v) (a:=a) (w:=w) hoj (execOp_put oj (hsel j oj hoj) a oi.dst v h1) (wanted_put oj a oi.dst v h1) (fun u=>Act.put_comm a v u h2)
      (fun d u=>by rw [Act.put_defers];exact Act.put_comm _ v u h2)).1 H
     have hcl':=hcl.set hj
     have hr':=ready_mono hr (Ne.symm hji)
     have soft : ∀ (b : Act),execOp b.eval oi = execOp a.eval oi → Region.wanted oi (yielded ops b.tmps) = Region.wanted oi (yielded ops a.tmps) → b.tmps.size = a.tmps.size → Soft P ops Q G w0 L i b (b.put oi.dst v):=
      fun b he hwn hsz T' w' S'=>soft_ride hi he hwn hsz (hs T' w' S')
     refine wpOp_mono (fun a' w' ⟨⟨T',S',h'⟩,hf⟩=>⟨T',S',ih T' _ a' hcl' hr' ?_ ?_⟩) (wpOp_forms hoj H2)
     · rcases hf with ⟨u,rfl⟩ | ⟨d,u,rfl⟩
       · exact soft _ (execOp_put oi (hsel i oi hi) a oj.dst u h3) (wanted_put oi a oj.dst u h3) (put_size _ _ _)
       · exact soft _ (by rw [execOp_put oi (hsel i oi hi) _ oj.dst u h3,eval_defers]) (by rw [wanted_put oi _ oj.dst u h3]) (put_size _ _ _)
     · rw [Array.setIfInBounds_comm _ _ hji];exact h'
def slotIs (ops : Array Oper) (i : Nat) (a A : Act) : Prop:=∃ o,ops[i]? = some o ∧ A = a.put o.dst ((o.dst.map fun t=>A.tmps.getD t undef).getD undef)
def Softs (P : Program) (ops : Array Oper) (Q : Exit → Act → World → Prop) (G : Nat → Prop) (w0 : World) (L : List Asn) (F : Act → Prop) : List Nat → Act → Prop
 | [],a=>F a
 | i :: l,a=>∃ A,Soft P ops Q G w0 L i a A ∧ slotIs ops i a A ∧ Softs P ops Q G w0 L F l A
theorem softs_cons {F : Act → Prop} {i : Nat} {l : List Nat} {a A : Act} (hw : Soft P ops Q G w0 L i a A) (hs : slotIs ops i a A) (hn : Softs P ops Q G w0 L F l A) : Softs P ops Q G w0 L F (i :: l) a:=⟨A,hw,hs,hn⟩
theorem softs_nil {f : Nat} {T : List Asn} {listed : Array Bool} {a : Act} (h : W P ops Q G w0 L f T listed a) : Softs P ops Q G w0 L (fun A=>W P ops Q G w0 L f T listed A) [] a:=h
def readyAll (ops : Array Oper) : List Nat → Array Bool → Bool
 | [],_=>true
 | i :: l,listed=>(Region.ready .any ops listed).contains i && readyAll ops l (listed.setIfInBounds i true)
def after : List Nat → Array Bool → Array Bool
 | [],listed=>listed
 | i :: l,listed=>after l (listed.setIfInBounds i true)
theorem W_softs (hB : ordB ops = true) : ∀ (soft : List Nat) (f : Nat) (T : List Asn) (listed : Array Bool) (a : Act),Closed .any ops listed → readyAll ops soft listed = true →
 Softs P ops Q G w0 L (fun A=>W P ops Q G w0 L f T (after soft listed) A) soft a → W P ops Q G w0 L (f + soft.length) T listed a
 | [],_,_,_,_,_,_,h=>h
 | i :: l,f,T,listed,a,hcl,hr,⟨A,hs,⟨o,ho,hA⟩,h⟩=>by
   simp only [readyAll,Bool.and_eq_true,List.contains_iff_mem] at hr
   have:=W_softs hB l f T _ A (hcl.set hr.1) hr.2 h
   rw [hA] at hs this
   exact W_soft hB ho (f + l.length) T listed a hcl hr.1 hs this
def softB (ops : Array Oper) (soft : List Nat) : Bool:=ordB ops && readyAll ops soft (Array.replicate ops.size false) && Nat.ble soft.length ops.size
theorem wp_region_w {id : Nat} {soft : List Nat} {a : Act} {w : World} (S : St G w0 w L) (hm : P.follows .mixedOrders = true) (hB : softB ops soft = true)
 (h : Softs P ops Q G w0 L (fun A=>W P ops Q G w0 L (ops.size - soft.length) [] (after soft (Array.replicate ops.size false)) A) soft a) : (Code.region id ops true).wp P Q a w:=by
 simp only [softB,Bool.and_eq_true] at hB
 have hc : Closed .any ops (Array.replicate ops.size false):=fun j oj _ hl=>by
  rw [Array.getD_eq_getD_getElem?] at hl
  by_cases hj : j < ops.size
  · rw [Array.getElem?_replicate,if_pos hj] at hl;cases hl
  · rw [Array.getElem?_replicate,if_neg hj] at hl;cases hl
 have hle:=Nat.le_of_ble_eq_true hB.2
 have:=W_softs hB.1.1 soft (ops.size - soft.length) [] _ a hc hB.1.2 h
 rw [show ops.size - soft.length + soft.length = ops.size by omega] at this
 exact wp_region_any hm (W_any _ [] _ a _ this (by simpa using S.ext (keep_drew w)))
theorem W_done {n : Nat} {T : List Asn} {listed : Array Bool} {a : Act} (hn : n = 0) (hr : Region.ready .any ops listed = []) (h : ∀ w,St G w0 w (L ++ T) → Q .normal a w) : W P ops Q G w0 L n T listed a:=by subst hn;exact ⟨hr,h⟩
theorem W_hard1 {n f i : Nat} (hn : n = f + 1) {T : List Asn} {listed : Array Bool} {a : Act} (hr : Region.ready .any ops listed = [i])
 (h : ∀ w,St G w0 w (L ++ T) → wpOp P ops (Tot [] Q) i (fun a' w'=>∃ T',St G w0 w' (L ++ T') ∧ W P ops Q G w0 L f T' (listed.setIfInBounds i true) a') a w) : W P ops Q G w0 L n T listed a:=by
 subst hn
 exact fun w S=>⟨fun e=>by rw [hr] at e;(cases e),fun j hj=>by rw [hr] at hj;simp at hj;subst hj;exact h w S⟩
theorem W_hard2 {n f i i' : Nat} (hn : n = f + 1) {T : List Asn} {listed : Array Bool} {a : Act} (hr : Region.ready .any ops listed = [i,i'])
 (h : ∀ w,St G w0 w (L ++ T) → wpOp P ops (Tot [] Q) i (fun a' w'=>∃ T',St G w0 w' (L ++ T') ∧ W P ops Q G w0 L f T' (listed.setIfInBounds i true) a') a w)
 (h' : ∀ w,St G w0 w (L ++ T) → wpOp P ops (Tot [] Q) i' (fun a' w'=>∃ T',St G w0 w' (L ++ T') ∧ W P ops Q G w0 L f T' (listed.setIfInBounds i' true) a') a w) : W P ops Q G w0 L n T listed a:=by
 subst hn
 exact fun w S=>⟨fun e=>by rw [hr] at e;(cases e),fun j hj=>by
  rw [hr] at hj;simp at hj
  rcases hj with rfl | rfl
  · exact h w S
  · exact h' w S⟩
def SoftQ (A : Act) (G : Nat → Prop) (w0 : World) (L : List Asn) : Exit → Act → World → Prop:=fun _ a' w'=>a' = A ∧ St G w0 w' L
def HardQ (P : Program) (ops : Array Oper) (Q : Exit → Act → World → Prop) (G : Nat → Prop) (w0 : World) (L : List Asn) (f : Nat) (listed : Array Bool) : Exit → Act → World → Prop:=fun _ a' w'=>∃ T',St G w0 w' (L ++ T') ∧ W P ops Q G w0 L f T' listed a'
theorem op_list {i : Nat} {o : Oper} {K : Act → World → Prop} {R : Exit → Act → World → Prop} {a : Act} {w : World} (hi : ops[i]? = some o) (h : wpList P ops (Tot [] R) [o] a w) (hR : ∀ a' w',R .normal a' w' → K a' w') : wpOp P ops (Tot [] Q) i K a w:=by
 unfold wpOp
 simp only [hi]
 unfold wpList at h
 split at h
 · rename_i hw
   simp only [hw,if_true]
   rcases h with h | ⟨_,h⟩
   case inr=>exact absurd h not_lets
   refine .inl ?_
   unfold Oper.wp at *
   generalize (execOp a.eval o).run P w = r at *
   cases r with
   | ok n w'=>
     cases n <;> simp only [Oper.upon] at h ⊢
     case value v=>exact hR _ _ h.2
     case skip=>exact hR _ _ h.2
     case defer d=>exact hR _ _ h.2
     case enter f args=>refine Calls.mono h fun e w'' he=>?_;cases e <;> first | exact hR _ _ he.2 | exact absurd he not_lets | exact (he : False).elim
     case row r args=>exact Rows.mono h fun v w'' he=>hR _ _ he.2
   | halt x w'=>cases x <;> simp only [Oper.upon] at h ⊢ <;> exact h
 · rename_i hw
   simp only [hw]
   exact hR _ _ h.2
def opAt : List Oper → Nat → Option Oper
 | [],_=>none
 | o :: _,0=>some o
 | _ :: l,n + 1=>opAt l n
theorem opAt_get : ∀ (l : List Oper) (i : Nat),opAt l i = l[i]?
 | [],_=>by simp [opAt]
 | _ :: _,0=>rfl
 | _ :: l,n + 1=>by simp [opAt,opAt_get l n]
theorem opAt_arr {i : Nat} {o : Oper} (h : opAt ops.toList i = some o) : ops[i]? = some o:=by rw [opAt_get] at h;simpa using h
theorem soft_of {i : Nat} {o : Oper} {a A : Act} (hi : opAt ops.toList i = some o) (h : ∀ T w,St G w0 w (L ++ T) → wpList P ops (Tot [] (SoftQ A G w0 (L ++ T))) [o] a w) : Soft P ops Q G w0 L i a A:=fun T w S=>op_list (opAt_arr hi) (h T w S) fun _ _ h=>h
theorem hard_of {i f : Nat} {o : Oper} {a : Act} {w : World} {listed : Array Bool} (hi : opAt ops.toList i = some o) (h : wpList P ops (Tot [] (HardQ P ops Q G w0 L f listed)) [o] a w) :
 wpOp P ops (Tot [] Q) i (fun a' w'=>∃ T',St G w0 w' (L ++ T') ∧ W P ops Q G w0 L f T' listed a') a w:=op_list (opAt_arr hi) h fun _ _ h=>h
end
end Go.Proofs.YtmjljoaakdocaaaGreatDoor.Mem
/- Reading the arguments of a law: slices of plain structs; keys, events, messages. -/
namespace Go.Proofs.YtmjljoaakdocaaaGreatDoor
open Go Go.ChangeShapes Go.WideShapes Go.ChangeAt Go.RowKit Mem
theorem Tryz.own : ownKnob Tryz.prog.godebug = none:=by kernel_rfl
theorem Tryz.laidOut : laidOutB Tryz.prog = true:=by kernel_rfl
theorem fits_cons {k : TypeDesc} {ks : List TypeDesc} {vs : List Value} (h : fits (k :: ks) vs = true) : ∃ v us,vs = v :: us ∧ fit k v = true ∧ fits ks us = true:=by
 cases vs with
 | nil=>simp [fits] at h
 | cons v us=>simp only [fits,Bool.and_eq_true] at h;exact ⟨v,us,rfl,h.1,h.2⟩
theorem fits_none {vs : List Value} (h : fits [] vs = true) : vs = []:=by
 cases vs with
 | nil=>rfl
 | cons v us=>simp [fits] at h
theorem fit_int {v : Value} (h : fit (.int .i64) v = true) : ∃ a,v = .int .i64 a:=by cases v <;> simp [fit] at h;subst h;exact ⟨_,rfl⟩
theorem fit_bool {v : Value} (h : fit .bool v = true) : ∃ a,v = .bool a:=by cases v <;> simp [fit] at h;exact ⟨_,rfl⟩
theorem fits_cons_int {ks : List TypeDesc} {vs : List Value} (h : fits (.int .i64 :: ks) vs = true) : ∃ a us,vs = .int .i64 a :: us ∧ fits ks us = true:=by
 obtain ⟨v,us,rfl,h1,h2⟩:=fits_cons h
 obtain ⟨a,rfl⟩:=fit_int h1
 exact ⟨a,us,rfl,h2⟩
abbrev i4 : List TypeDesc:=[.int .i64,.int .i64,.int .i64,.int .i64]
abbrev i7 : List TypeDesc:=[.int .i64,.int .i64,.int .i64,.int .i64,.int .i64,.int .i64,.int .i64]
abbrev i7b : List TypeDesc:=[.int .i64,.int .i64,.int .i64,.int .i64,.int .i64,.int .i64,.int .i64,.bool]
section
variable {P : Program} {H : Type} {enc : TypeId × Value → H}
end
end Go.Proofs.YtmjljoaakdocaaaGreatDoor
