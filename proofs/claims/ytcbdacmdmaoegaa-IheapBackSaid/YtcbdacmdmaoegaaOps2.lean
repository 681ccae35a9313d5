import Derived.Test.YtcbdacmdmaoegaaOps
import Derived.Laws.Rows
/- More laws on a state: elements of a slice that is owned, read and written; 'make'; a result that lies in a cell; what lies beside a slice that is being sorted. Over any program. -/
namespace Go.Proofs.Ytcbdacmdmaoegaa.Mem
open Go Go.RowKit Reg

section
variable {P : Program} {ops : Array Oper} {rest : List Oper} {a : Act} {Q : Exit → Act → World → Prop} {d : Option Tmp} {tt : TypeId} {p : String} {af : Array Edge} {gd : Option (Nat × Bool)} {x y z : Operand}
variable {G : Nat → Prop} {w0 w w' : World} {L : List Asn} {A A' : Asn} {i : Nat}

theorem St.ret_cell {fn : Func} {R : Ending → World → Prop} {q : Tmp} {ty t : TypeId} {b : Nat} {sh : Bool} {cs : Array Value} (S : St G w0 w L) (i : Nat) (hi : L[i]? = some (Blk sh b cs t)) (h : fn.results = #[.cell q ty]) (hp : a.tmps.getD q undef = .pointer (some ⟨b, 0, none⟩)) (hA : aggB P ty cs.size = true) (hd : a.defers = [])
    (hR : R (.returned (.agg cs)) w) : bodyPost P fn R .ret a w := by
  refine bodyPost_ret ?_ hd hR
  have hp' : a.tmps[q]?.getD undef = .pointer (some ⟨b, 0, none⟩) := by simpa using hp
  have hl := run_loadVar_agg (P := P) (t := ty) (b := b) (o := 0) (w := w) (vs := cs.toList) (by simpa using hA) (fun j u hj => by rw [Nat.zero_add, cell_of (S.blk i hi)]; simpa using hj)
  simp [results, h, hp', asAddr, hl]
theorem cur_split {cur : Array Value} {e : List Value} {o : Nat} (h : ∀ (q : Nat) u, e[q]? = some u → cur[o + q]? = some u) : cur.toList.drop o = e ++ cur.toList.drop (o + e.length) := by
  apply List.ext_getElem?
  intro q
  rw [List.getElem?_drop, Array.getElem?_toList]
  by_cases hq : q < e.length
  · rw [List.getElem?_append_left hq, List.getElem?_eq_getElem hq]
    exact h q _ (List.getElem?_eq_getElem hq)
  · rw [List.getElem?_append_right (by omega), List.getElem?_drop, Array.getElem?_toList]
    congr 1; omega
theorem splice_part {cur : Array Value} {e e' vs : List Value} {o q : Nat} (h : ∀ (q : Nat) u, e[q]? = some u → cur[o + q]? = some u) (hq : q + vs.length ≤ e.length) (he : e' = e.take q ++ vs ++ e.drop (q + vs.length)) : splice cur (o + q) vs = splice cur o e' := by
  have hl : e'.length = e.length := by rw [he]; simp; omega
  have hs := cur_split h
  have d1 : cur.toList.drop (o + q + vs.length) = e.drop (q + vs.length) ++ cur.toList.drop (o + e.length) := by
    rw [Nat.add_assoc, ← List.drop_drop, hs, List.drop_append_of_le_length (by omega)]
  have t1 : cur.toList.take (o + q) = cur.toList.take o ++ e.take q := by rw [List.take_add, hs, List.take_append_of_le_length (by omega)]
  unfold splice
  congr 1
  rw [t1, d1, hl, he]
  simp only [List.append_assoc]
theorem own_at {α : Type} {E : TypeId} {enc : α → List Value} {k : Nat} {R n c : Nat} {xs : List α} {F : Nat → Prop} (h : (Own E enc k (.slice (some ⟨R, 0, none⟩) n c) xs).at_ w F) : ∃ cur, OwnAt E enc k 0 w R c cur xs ∧ n = xs.length := by
  rcases h.1.2 with ⟨e, _⟩ | ⟨g, cap, cur, e, hb, hg, h1, h2, h3, h4⟩
  · simp at e
  · simp only [Value.slice.injEq, Option.some.injEq, Addr.mk.injEq] at e
    obtain ⟨⟨rfl, _, _⟩, rfl, rfl⟩ := e
    exact ⟨cur, ⟨hg, hb, h1, h2, h3, h4⟩, rfl⟩
theorem wps_load_own {α : Type} {E : TypeId} {enc : α → List Value} {k R n c nn : Nat} {xs : List α} (hk : ∀ x, (enc x).length = k) (S : St G w0 w L) (i : Nat) (hi : L[i]? = some (Own E enc k (.slice (some ⟨R, 0, none⟩) n c) xs)) {j : Nat} {e : α} (hj : xs[j]? = some e) (q : Nat) {u : Value} {T : TypeId}
    (hx : a.eval x = .pointer (some ⟨R, nn, none⟩)) (hn : nn = j * k + q) (hT : leafB P T = true) (hu : (enc e)[q]? = some u)
    (next : wpList P ops Q rest (a.put d u) w) (hgd : gOk gd ops a = true := by with_unfolding_all rfl) : wpList P ops Q ({ dst := d, op := .load T x, type := tt, pos := p, after := af, guard := gd } :: rest) a w :=
  wps_load_el (S.freeze true i hk hi) i (by rw [List.getElem?_set_self (List.getElem?_eq_some_iff.1 hi).1]) hj q hx (by rw [hn, Nat.zero_add]) hT hu next hgd
theorem wps_loada_own {α : Type} {E : TypeId} {enc : α → List Value} {k R n c nn : Nat} {xs : List α} (hk : ∀ x, (enc x).length = k) (S : St G w0 w L) (i : Nat) (hi : L[i]? = some (Own E enc k (.slice (some ⟨R, 0, none⟩) n c) xs)) {j : Nat} {e : α} (hj : xs[j]? = some e) (q : Nat) (vs : List Value) {T : TypeId} (m : Nat)
    (hx : a.eval x = .pointer (some ⟨R, nn, none⟩)) (hn : nn = j * k + q) (hT : aggB P T m = true) (hm : vs.length = m) (hv : ((enc e).drop q).take vs.length = vs)
    (next : wpList P ops Q rest (a.put d (.agg vs.toArray)) w) (hgd : gOk gd ops a = true := by with_unfolding_all rfl) : wpList P ops Q ({ dst := d, op := .load T x, type := tt, pos := p, after := af, guard := gd } :: rest) a w :=
  wps_loada_el (S.freeze true i hk hi) i (by rw [List.getElem?_set_self (List.getElem?_eq_some_iff.1 hi).1]) hj q vs m hx (by rw [hn, Nat.zero_add]) hT hm hv next hgd
theorem own_put {α : Type} {E : TypeId} {enc : α → List Value} {k R n c : Nat} {xs : List α} (hk : ∀ x, (enc x).length = k) (S : St G w0 w L) (i : Nat) (hi : L[i]? = some (Own E enc k (.slice (some ⟨R, 0, none⟩) n c) xs)) {j : Nat} (hj : j < xs.length) (e' : α) {cur : Array Value} (hO : OwnAt E enc k 0 w R c cur xs)
    (hb : w'.heap[R]? = some (.cells (splice cur (j * k) (enc e')) E (0, 0))) (hK : Keep (fun b => b = R) w w') : St G w0 w' (L.set i (Own E enc k (.slice (some ⟨R, 0, none⟩) n c) (xs.set j e'))) :=
  S.step hi rfl fun F hF => by
    have hO' := (hO.store hk e' hj hb).own hk
    rw [List.length_set] at hO'
    have hn : n = xs.length := by obtain ⟨_, _, e⟩ := own_at hF; exact e
    refine ⟨F, hK.mono (fun x _ h e => h ((hF.2 x).2 (by simp [Value.ownBlock, e]))), ⟨by rw [hn]; exact hO', fun x => by rw [hF.2 x]⟩, fun _ h => .inl h⟩
/-- A part of an element is written. -/
theorem wps_store_owna {α : Type} {E : TypeId} {enc : α → List Value} {k R n c nn : Nat} {xs : List α} (hk : ∀ x, (enc x).length = k) (S : St G w0 w L) (i : Nat) (hi : L[i]? = some (Own E enc k (.slice (some ⟨R, 0, none⟩) n c) xs)) {j : Nat} {e : α} (hj : xs[j]? = some e) (e' : α) (q : Nat) (vs : List Value) {T : TypeId} (m : Nat)
    (hx : a.eval x = .pointer (some ⟨R, nn, none⟩)) (hn : nn = j * k + q) (hy : a.eval y = .agg vs.toArray) (hT : aggB P T m = true) (hm : vs.length = m) (h1 : vs.all Value.oneCell' = true) (he : enc e' = (enc e).take q ++ vs ++ (enc e).drop (q + vs.length)) (hq : q + vs.length ≤ k)
    (next : ∀ w', St G w0 w' (L.set i (Own E enc k (.slice (some ⟨R, 0, none⟩) n c) (xs.set j e'))) → wpList P ops Q rest (a.put d undef) w') (hgd : gOk gd ops a = true := by with_unfolding_all rfl) :
    wpList P ops Q ({ dst := d, op := .store T x y, type := tt, pos := p, after := af, guard := gd } :: rest) a w := by
  obtain ⟨F, hF⟩ := S.get hi
  obtain ⟨cur, hO, rfl⟩ := own_at hF
  have hjl := (List.getElem?_eq_some_iff.1 hj).1
  have hfit := hO.fit hjl
  subst hn hm
  refine wpList_store_agg (hgd := hgd) vs hT hx hy hO.heap (by omega) (by simpa using h1) fun w' hb hK => next w' ?_
  refine own_put hk S i hi hjl e' hO ?_ hK
  rw [hb, splice_part (e := enc e) (e' := enc e') (fun q u hu => by have := hO.cells hk hj q u hu; rwa [cell_of hO.heap] at this) (by rw [hk]; exact hq) he]
theorem wps_store_own {α : Type} {E : TypeId} {enc : α → List Value} {k R n c nn : Nat} {xs : List α} (hk : ∀ x, (enc x).length = k) (S : St G w0 w L) (i : Nat) (hi : L[i]? = some (Own E enc k (.slice (some ⟨R, 0, none⟩) n c) xs)) {j : Nat} {e : α} (hj : xs[j]? = some e) (e' : α) (q : Nat) {u : Value} {T : TypeId}
    (hx : a.eval x = .pointer (some ⟨R, nn, none⟩)) (hn : nn = j * k + q) (hy : a.eval y = u) (hT : (match P.info? T with | some i => i.size == 1 | none => false) = true) (h1 : u.oneCell' = true) (he : enc e' = (enc e).take q ++ [u] ++ (enc e).drop (q + 1)) (hq : q + 1 ≤ k)
    (next : ∀ w', St G w0 w' (L.set i (Own E enc k (.slice (some ⟨R, 0, none⟩) n c) (xs.set j e'))) → wpList P ops Q rest (a.put d undef) w') (hgd : gOk gd ops a = true := by with_unfolding_all rfl) :
    wpList P ops Q ({ dst := d, op := .store T x y, type := tt, pos := p, after := af, guard := gd } :: rest) a w := by
  obtain ⟨F, hF⟩ := S.get hi
  obtain ⟨cur, hO, rfl⟩ := own_at hF
  have hjl := (List.getElem?_eq_some_iff.1 hj).1
  have hfit := hO.fit hjl
  subst hn
  refine wpList_store_one (hgd := hgd) u hT hx hy hO.heap (by omega) h1 fun w' hb hK => next w' ?_
  refine own_put hk S i hi hjl e' hO ?_ hK
  rw [hb, splice_part (e := enc e) (e' := enc e') (fun q u hu => by have := hO.cells hk hj q u hu; rwa [cell_of hO.heap] at this) (by rw [hk]; exact hq) he]
/-- The zero of an element, as cells. -/
def zeroIs (P : Program) (E : TypeId) (k : Nat) (cs : List Value) : Prop := ∃ i z, P.info? E = some i ∧ i.zero = some z ∧ i.size = k ∧ z.cells.toList = cs ∧ i.bytes ≤ 32768
theorem made_rep {α : Type} {enc : α → List Value} {k : Nat} {z : Value} {x0 : α} (hk : ∀ x, (enc x).length = k) (hz : z.cells.toList = enc x0) (n : Nat) : (madeCells z.cells (n * k)).toList = flatE enc (List.replicate n x0) := by
  have hzs : z.cells.size = k := by rw [← Array.length_toList, hz, hk]
  apply List.ext_getElem?
  intro q
  by_cases hq : q < n * k
  · have hk0 : 0 < k := by rcases Nat.eq_zero_or_pos k with h | h; · subst h; omega
                           · exact h
    have hj : q / k < n := (Nat.div_lt_iff_lt_mul hk0).2 hq
    have hg := flatE_get (enc := enc) hk (xs := List.replicate n x0) (i := q / k) (x := x0) (by rw [List.getElem?_replicate, if_pos hj]) (q % k) (Nat.mod_lt _ hk0)
    rw [show q / k * k + q % k = q by rw [Nat.mul_comm]; exact Nat.div_add_mod q k] at hg
    rw [hg, ← hz]
    simp only [madeCells, Array.toList_map, Array.toList_range, List.getElem?_map, List.getElem?_range hq, Option.map_some, hzs]
    rw [Array.getElem?_toList, Array.getElem?_eq_getElem (by rw [hzs]; exact Nat.mod_lt _ hk0), getElem!_pos z.cells (q % k) (by rw [hzs]; exact Nat.mod_lt _ hk0)]
  · rw [List.getElem?_eq_none (by simp [madeCells]; omega), List.getElem?_eq_none (by rw [flatE_length hk]; simp; omega)]
theorem wps_make {α : Type} {enc : α → List Value} {k : Nat} (hk : ∀ x, (enc x).length = k) {T E : TypeId} (hT : P.underlying T = some (.slice E)) (x0 : α) (hz : zeroIs P E k (enc x0)) (S : St G w0 w L) (n : Nat) (hx : a.eval x = .int .i64 n) (hy : a.eval y = .int .i64 n) (hn : n ≤ 4294967296)
    (next : ∀ b w', St G w0 w' (Own E enc k (.slice (some ⟨b, 0, none⟩) n n) (List.replicate n x0) :: L) → wpList P ops Q rest (a.put d (.slice (some ⟨b, 0, none⟩) n n)) w') (hgd : gOk gd ops a = true := by with_unfolding_all rfl) :
    wpList P ops Q ({ dst := d, op := .makeSlice T x y, type := tt, pos := p, after := af, guard := gd } :: rest) a w :=
  wpList_ok hgd fun K hK => by
    obtain ⟨i, z, h1, h2, h3, h4, h5⟩ := hz
    have hb : i.bytes * n ≤ 32768 * 4294967296 := Nat.mul_le_mul h5 hn
    have hb' : (i.bytes : Int) * (n : Int) ≤ 281474976710656 := by
      have : ((i.bytes * n : Nat) : Int) ≤ 281474976710656 := by omega
      rwa [Int.natCast_mul] at this
    have hr := run_make (P := P) w T E i z hT h1 h2 .i64 .i64 n n (by omega) (Int.le_refl _) hb' (by omega)
    simp only [Int.toNat_natCast] at hr
    unfold Oper.wp execOp
    simp only [hx, hy, hr, Sem.run_bind, Sem.run_pure, Result.andThen_ok]
    refine hK _ _ (next _ _ (S.grow (F := fun x => x = w.heap.size) (keep_alloc w _) ⟨?_, fun x => by simp [Value.ownBlock, eq_comm]⟩ (fun _ e => Nat.le_of_eq e.symm)))
    refine ⟨by rw [flatE_length hk], .inr ⟨w.heap.size, n, madeCells z.cells (n * i.size), by simp, Nat.zero_le _, heap_alloc_new w _, by simp, by simp [maxLen]; omega, by rw [size_madeCells, h3], ?_⟩⟩
    rw [h3, List.length_replicate, made_rep hk h4, List.take_of_length_le (by rw [flatE_length hk]; simp)]
theorem blk_sl {α : Type} {enc : α → List Value} {k : Nat} {b : Nat} {sh : Bool} {cs : Array Value} {t : TypeId} {F : Nat → Prop} {n : Nat} (ys : List α) (hk : ∀ x, (enc x).length = k) (h : (Blk sh b cs t).at_ w F) (hy : flatE enc ys = cs.toList) (hn : ys.length = n) : (Sl true enc k (.slice (some ⟨b, 0, none⟩) n n) ys).at_ w F := by
  refine ⟨⟨some ⟨b, 0, none⟩, n, by rw [hn], by omega, (fun e => by cases e), fun i x hi => ⟨b, 0, rfl, (h.2 b).2 rfl, fun j u hj => ?_⟩⟩, fun x hx => (Blk sh b cs t).lt h x hx⟩
  have hjk : j < k := by rw [← hk x]; exact (List.getElem?_eq_some_iff.1 hj).1
  rw [cell_of h.1, Nat.zero_add, ← Array.getElem?_toList, ← hy, flatE_get hk hi j hjk]; exact hj
theorem own_conv {α β : Type} {E : TypeId} {enc : α → List Value} {enc' : β → List Value} {k : Nat} {v : Value} {xs : List α} {ys : List β} (hl : xs.length = ys.length) (hf : flatE enc xs = flatE enc' ys) {F : Nat → Prop} (h : (Own E enc k v xs).at_ w F) : (Own E enc' k v ys).at_ w F := by
  obtain ⟨h1, h2⟩ := h
  unfold Owns at h1
  rw [hl, hf] at h1
  exact ⟨h1, h2⟩
theorem St.conv {α β : Type} {E : TypeId} {enc : α → List Value} {enc' : β → List Value} {k : Nat} {v : Value} {xs : List α} (S : St G w0 w L) (i : Nat) (hi : L[i]? = some (Own E enc k v xs)) (ys : List β) (hl : xs.length = ys.length) (hf : flatE enc xs = flatE enc' ys) : St G w0 w (L.set i (Own E enc' k v ys)) :=
  S.weak hi (fun _ => rfl) fun F h => ⟨F, fun _ hb => hb, own_conv hl hf h⟩
/-- What lies beside a slice that is being sorted. -/
theorem St.beside {α : Type} {E : TypeId} {enc : α → List Value} {k : Nat} {R o n c : Nat} {xs : List α} {W : World} (S : St G w0 w L) (hi : L[i]? = some (Own E enc k (.slice (some ⟨R, o, none⟩) n c) xs)) (hK : Keep (fun b => b = R) w W) {j : Nat} (hj : L[j]? = some A) (hij : j ≠ i) : ∃ F, A.at_ W F := by
  obtain ⟨Fs, hf, hd⟩ := S.ex
  refine ⟨Fs j, A.loc (hf j A hj).1 fun b hb => hK.block b (A.lt (hf j A hj).1 b hb) fun e => ?_⟩
  have hR : Fs i b := ((hf i _ hi).1.2 b).2 (by simp [Value.ownBlock, e])
  rcases Nat.lt_or_gt_of_ne hij with h | h
  · rcases hd j i _ _ h hj hi with ⟨_, e⟩ | e'
    · cases e
    · exact e' b hb hR
  · rcases hd i j _ _ h hi hj with ⟨e, _⟩ | e'
    · cases e
    · exact e' b hR hb
end
end Go.Proofs.Ytcbdacmdmaoegaa.Mem
