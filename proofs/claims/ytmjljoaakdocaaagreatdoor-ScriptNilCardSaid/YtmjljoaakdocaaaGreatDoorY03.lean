import Derived.Test.YtmjljoaakdocaaaGreatDoorY02
import Derived.Laws.Rows
import Derived.Lib.FieldsP
import Derived.Lib.Split
import Derived.Lib.CutLaws
import Derived.Lib.CountLaws
import Derived.Lib.AtoiAll
import Derived.Lib.SpaceUEq
import Derived.Laws.RangeAny
import Derived.Laws.RangeString
import Derived.Lib.ItoaNum
/- More laws on a state: elements of a slice that is owned, read and written; 'make'; a result that lies in a cell; what lies beside a slice that is being sorted. Over any program. -/
namespace Go.Proofs.YtmjljoaakdocaaaGreatDoor.Mem
open Go Go.RowKit Reg

section
variable {P : Program} {ops : Array Oper} {rest : List Oper} {a : Act} {Q : Exit → Act → World → Prop} {d : Option Tmp} {tt : TypeId} {p : String} {af : Array Edge} {gd : Option (Nat × Bool)} {x y z : Operand}
variable {G : Nat → Prop} {w0 w w' : World} {L : List Asn} {A A' : Asn} {i : Nat}

theorem cur_split {cur : Array Value} {e : List Value} {o : Nat} (h : ∀ (q : Nat) u, e[q]? = some u → cur[o + q]? = some u) : cur.toList.drop o = e ++ cur.toList.drop (o + e.length) := by
  apply List.ext_getElem?
  intro q
  rw [List.getElem?_drop, Array.getElem?_toList]
  by_cases hq : q < e.length
  · rw [List.getElem?_append_left hq, List.getElem?_eq_getElem hq]
    exact h q _ (List.getElem?_eq_getElem hq)
  · rw [List.getElem?_append_right (by omega), List.getElem?_drop, Array.getElem?_toList]
    congr 1; omega
theorem splice_part {cur : Array Value} {e e' vs : List Value} {o q : Nat} (h : ∀ (q : Nat) u, e[q]? = some u → cur[o + q]? = some u) (hq : q + vs.length ≤ e.length) (he : e' = e.take q ++ vs ++ e.drop (q + vs.length)) : splice cur (o + q) vs = splice cur o e' := by
  have hl : e'.length = e.length := by rw [he]; simp; omega
  have hs := cur_split h
  have d1 : cur.toList.drop (o + q + vs.length) = e.drop (q + vs.length) ++ cur.toList.drop (o + e.length) := by
    rw [Nat.add_assoc, ← List.drop_drop, hs, List.drop_append_of_le_length (by omega)]
  have t1 : cur.toList.take (o + q) = cur.toList.take o ++ e.take q := by rw [List.take_add, hs, List.take_append_of_le_length (by omega)]
  unfold splice
  congr 1
  rw [t1, d1, hl, he]
  simp only [List.append_assoc]
theorem own_at {α : Type} {E : TypeId} {enc : α → List Value} {k : Nat} {R n c : Nat} {xs : List α} {F : Nat → Prop} (h : (Own E enc k (.slice (some ⟨R, 0, none⟩) n c) xs).at_ w F) : ∃ cur, OwnAt E enc k 0 w R c cur xs ∧ n = xs.length := by
  rcases h.1.2 with ⟨e, _⟩ | ⟨g, cap, cur, e, hb, hg, h1, h2, h3, h4⟩
  · simp at e
  · simp only [Value.slice.injEq, Option.some.injEq, Addr.mk.injEq] at e
    obtain ⟨⟨rfl, _, _⟩, rfl, rfl⟩ := e
    exact ⟨cur, ⟨hg, hb, h1, h2, h3, h4⟩, rfl⟩
theorem wps_load_own {α : Type} {E : TypeId} {enc : α → List Value} {k R n c nn : Nat} {xs : List α} (hk : ∀ x, (enc x).length = k) (S : St G w0 w L) (i : Nat) (hi : L[i]? = some (Own E enc k (.slice (some ⟨R, 0, none⟩) n c) xs)) {j : Nat} {e : α} (hj : xs[j]? = some e) (q : Nat) {u : Value} {T : TypeId}
    (hx : a.eval x = .pointer (some ⟨R, nn, none⟩)) (hn : nn = j * k + q) (hT : leafB P T = true) (hu : (enc e)[q]? = some u)
    (next : wpList P ops Q rest (a.put d u) w) (hgd : gOk gd ops a = true := by with_unfolding_all rfl) : wpList P ops Q ({ dst := d, op := .load T x, type := tt, pos := p, after := af, guard := gd } :: rest) a w :=
  wps_load_el (S.freeze true i hk hi) i (by rw [List.getElem?_set_self (List.getElem?_eq_some_iff.1 hi).1]) hj q hx (by rw [hn, Nat.zero_add]) hT hu next hgd
theorem wps_loada_own {α : Type} {E : TypeId} {enc : α → List Value} {k R n c nn : Nat} {xs : List α} (hk : ∀ x, (enc x).length = k) (S : St G w0 w L) (i : Nat) (hi : L[i]? = some (Own E enc k (.slice (some ⟨R, 0, none⟩) n c) xs)) {j : Nat} {e : α} (hj : xs[j]? = some e) (q : Nat) (vs : List Value) {T : TypeId} (m : Nat)
    (hx : a.eval x = .pointer (some ⟨R, nn, none⟩)) (hn : nn = j * k + q) (hT : aggB P T m = true) (hm : vs.length = m) (hv : ((enc e).drop q).take vs.length = vs)
    (next : wpList P ops Q rest (a.put d (.agg vs.toArray)) w) (hgd : gOk gd ops a = true := by with_unfolding_all rfl) : wpList P ops Q ({ dst := d, op := .load T x, type := tt, pos := p, after := af, guard := gd } :: rest) a w :=
  wps_loada_el (S.freeze true i hk hi) i (by rw [List.getElem?_set_self (List.getElem?_eq_some_iff.1 hi).1]) hj q vs m hx (by rw [hn, Nat.zero_add]) hT hm hv next hgd
theorem own_put {α : Type} {E : TypeId} {enc : α → List Value} {k R n c : Nat} {xs : List α} (hk : ∀ x, (enc x).length = k) (S : St G w0 w L) (i : Nat) (hi : L[i]? = some (Own E enc k (.slice (some ⟨R, 0, none⟩) n c) xs)) {j : Nat} (hj : j < xs.length) (e' : α) {cur : Array Value} (hO : OwnAt E enc k 0 w R c cur xs)
    (hb : w'.heap[R]? = some (.cells (splice cur (j * k) (enc e')) E (0, 0))) (hK : Keep (fun b => b = R) w w') : St G w0 w' (L.set i (Own E enc k (.slice (some ⟨R, 0, none⟩) n c) (xs.set j e'))) :=
  S.step hi rfl fun F hF => by
    have hO' := (hO.store hk e' hj hb).own hk
    rw [List.length_set] at hO'
    have hn : n = xs.length := by obtain ⟨_, _, e⟩ := own_at hF; exact e
    refine ⟨F, hK.mono (fun x _ h e => h ((hF.2 x).2 (by simp [Value.ownBlock, e]))), ⟨by rw [hn]; exact hO', fun x => by rw [hF.2 x]⟩, fun _ h => .inl h⟩
theorem wps_store_own {α : Type} {E : TypeId} {enc : α → List Value} {k R n c nn : Nat} {xs : List α} (hk : ∀ x, (enc x).length = k) (S : St G w0 w L) (i : Nat) (hi : L[i]? = some (Own E enc k (.slice (some ⟨R, 0, none⟩) n c) xs)) {j : Nat} {e : α} (hj : xs[j]? = some e) (e' : α) (q : Nat) {u : Value} {T : TypeId}
    (hx : a.eval x = .pointer (some ⟨R, nn, none⟩)) (hn : nn = j * k + q) (hy : a.eval y = u) (hT : (match P.info? T with | some i => i.size == 1 | none => false) = true) (h1 : u.oneCell' = true) (he : enc e' = (enc e).take q ++ [u] ++ (enc e).drop (q + 1)) (hq : q + 1 ≤ k)
    (next : ∀ w', St G w0 w' (L.set i (Own E enc k (.slice (some ⟨R, 0, none⟩) n c) (xs.set j e'))) → wpList P ops Q rest (a.put d undef) w') (hgd : gOk gd ops a = true := by with_unfolding_all rfl) :
    wpList P ops Q ({ dst := d, op := .store T x y, type := tt, pos := p, after := af, guard := gd } :: rest) a w := by
  obtain ⟨F, hF⟩ := S.get hi
  obtain ⟨cur, hO, rfl⟩ := own_at hF
  have hjl := (List.getElem?_eq_some_iff.1 hj).1
  have hfit := hO.fit hjl
  subst hn
  refine wpList_store_one (hgd := hgd) u hT hx hy hO.heap (by omega) h1 fun w' hb hK => next w' ?_
  refine own_put hk S i hi hjl e' hO ?_ hK
  rw [hb, splice_part (e := enc e) (e' := enc e') (fun q u hu => by have := hO.cells hk hj q u hu; rwa [cell_of hO.heap] at this) (by rw [hk]; exact hq) he]
def zeroIs (P : Program) (E : TypeId) (k : Nat) (cs : List Value) : Prop := ∃ i z, P.info? E = some i ∧ i.zero = some z ∧ i.size = k ∧ z.cells.toList = cs ∧ i.bytes ≤ 32768
theorem made_rep {α : Type} {enc : α → List Value} {k : Nat} {z : Value} {x0 : α} (hk : ∀ x, (enc x).length = k) (hz : z.cells.toList = enc x0) (n : Nat) : (madeCells z.cells (n * k)).toList = flatE enc (List.replicate n x0) := by
  have hzs : z.cells.size = k := by rw [← Array.length_toList, hz, hk]
  apply List.ext_getElem?
  intro q
  by_cases hq : q < n * k
  · have hk0 : 0 < k := by rcases Nat.eq_zero_or_pos k with h | h; · subst h; omega
                           · exact h
    have hj : q / k < n := (Nat.div_lt_iff_lt_mul hk0).2 hq
    have hg := flatE_get (enc := enc) hk (xs := List.replicate n x0) (i := q / k) (x := x0) (by rw [List.getElem?_replicate, if_pos hj]) (q % k) (Nat.mod_lt _ hk0)
    rw [show q / k * k + q % k = q by rw [Nat.mul_comm]; exact Nat.div_add_mod q k] at hg
    rw [hg, ← hz]
    simp only [madeCells, Array.toList_map, Array.toList_range, List.getElem?_map, List.getElem?_range hq, Option.map_some, hzs]
    rw [Array.getElem?_toList, Array.getElem?_eq_getElem (by rw [hzs]; exact Nat.mod_lt _ hk0), getElem!_pos z.cells (q % k) (by rw [hzs]; exact Nat.mod_lt _ hk0)]
  · rw [List.getElem?_eq_none (by simp [madeCells]; omega), List.getElem?_eq_none (by rw [flatE_length hk]; simp; omega)]
theorem wps_make {α : Type} {enc : α → List Value} {k : Nat} (hk : ∀ x, (enc x).length = k) {T E : TypeId} (hT : P.underlying T = some (.slice E)) (x0 : α) (hz : zeroIs P E k (enc x0)) (S : St G w0 w L) (n : Nat) (hx : a.eval x = .int .i64 n) (hy : a.eval y = .int .i64 n) (hn : n ≤ 4294967296)
    (next : ∀ b w', St G w0 w' (Own E enc k (.slice (some ⟨b, 0, none⟩) n n) (List.replicate n x0) :: L) → wpList P ops Q rest (a.put d (.slice (some ⟨b, 0, none⟩) n n)) w') (hgd : gOk gd ops a = true := by with_unfolding_all rfl) :
    wpList P ops Q ({ dst := d, op := .makeSlice T x y, type := tt, pos := p, after := af, guard := gd } :: rest) a w :=
  wpList_ok hgd fun K hK => by
    obtain ⟨i, z, h1, h2, h3, h4, h5⟩ := hz
    have hb : i.bytes * n ≤ 32768 * 4294967296 := Nat.mul_le_mul h5 hn
    have hb' : (i.bytes : Int) * (n : Int) ≤ 281474976710656 := by
      have : ((i.bytes * n : Nat) : Int) ≤ 281474976710656 := by omega
      rwa [Int.natCast_mul] at this
    have hr := run_make (P := P) w T E i z hT h1 h2 .i64 .i64 n n (by omega) (Int.le_refl _) hb' (by omega)
    simp only [Int.toNat_natCast] at hr
    unfold Oper.wp execOp
    simp only [hx, hy, hr, Sem.run_bind, Sem.run_pure, Result.andThen_ok]
    refine hK _ _ (next _ _ (S.grow (F := fun x => x = w.heap.size) (keep_alloc w _) ⟨?_, fun x => by simp [Value.ownBlock, eq_comm]⟩ (fun _ e => Nat.le_of_eq e.symm)))
    refine ⟨by rw [flatE_length hk], .inr ⟨w.heap.size, n, madeCells z.cells (n * i.size), by simp, Nat.zero_le _, heap_alloc_new w _, by simp, by simp [maxLen]; omega, by rw [size_madeCells, h3], ?_⟩⟩
    rw [h3, List.length_replicate, made_rep hk h4, List.take_of_length_le (by rw [flatE_length hk]; simp)]
end
end Go.Proofs.YtmjljoaakdocaaaGreatDoor.Mem
/- A region that draws its order, whose operations' values do not hang on the order: 'soft' ones come to one value wherever the state holds, and keep it; what is left is walked in each order. Over any program. -/
namespace Go.Proofs.YtmjljoaakdocaaaGreatDoor.Mem
open Go Go.RowKit Reg

section
variable {P : Program} {ops : Array Oper} {Q : Exit → Act → World → Prop} {G : Nat → Prop} {w0 : World} {L : List Asn}

theorem wpOp_ride {φ : Act → Act} {j : Nat} {o : Oper} {K : Act → World → Prop} {a : Act} {w : World} (hj : ops[j]? = some o) (he : execOp (φ a).eval o = execOp a.eval o) (hw : Region.wanted o (yielded ops (φ a).tmps) = Region.wanted o (yielded ops a.tmps))
    (hp : ∀ v, (φ a).put o.dst v = φ (a.put o.dst v)) (hd : ∀ d v, ({ φ a with defers := d :: (φ a).defers } : Act).put o.dst v = φ (({ a with defers := d :: a.defers } : Act).put o.dst v)) :
    wpOp P ops (Tot [] Q) j K (φ a) w ↔ wpOp P ops (Tot [] Q) j (fun a' w' => K (φ a') w') a w := by
  unfold wpOp
  simp only [hj, hw]
  split
  · have hn : ∀ x : Prop, ¬ (x ∧ LetsOut (Tot [] Q)) := fun _ h => not_lets h.2
    rw [or_iff_left (hn _), or_iff_left (hn _)]
    unfold Oper.wp
    rw [he]
    generalize (execOp a.eval o).run P w = r
    cases r with
    | ok n w' =>
      cases n <;> simp only [Oper.upon, hp, hd]
      case enter f args =>
        constructor <;> intro h <;> refine Calls.mono h fun e w'' he => ?_ <;> cases e <;> first | exact he | exact absurd he not_lets | exact (he : False).elim
    | halt x w' => cases x <;> simp only [Oper.upon] <;> exact Iff.rfl
  · rw [hp]
theorem wpOp_forms {j : Nat} {o : Oper} {K : Act → World → Prop} {a : Act} {w : World} (hj : ops[j]? = some o) (h : wpOp P ops (Tot [] Q) j K a w) :
    wpOp P ops (Tot [] Q) j (fun a' w' => K a' w' ∧ ((∃ u, a' = a.put o.dst u) ∨ ∃ d u, a' = ({ a with defers := d :: a.defers } : Act).put o.dst u)) a w := by
  unfold wpOp at *
  simp only [hj] at *
  split at h
  · rename_i hw
    simp only [hw, if_true]
    rcases h with h | ⟨_, h⟩
    case inr => exact absurd h not_lets
    refine .inl ?_
    unfold Oper.wp at *
    generalize (execOp a.eval o).run P w = r at *
    cases r with
    | ok n w' =>
      cases n <;> simp only [Oper.upon] at h ⊢
      case value v => exact ⟨h, .inl ⟨v, rfl⟩⟩
      case skip => exact ⟨h, .inl ⟨undef, rfl⟩⟩
      case defer d => exact ⟨h, .inr ⟨d, undef, rfl⟩⟩
      case enter f args => refine Calls.mono h fun e w'' he => ?_; cases e <;> first | exact ⟨he, .inl ⟨_, rfl⟩⟩ | exact he
      case row r args => exact Rows.mono h fun v w'' he => ⟨he, .inl ⟨v, rfl⟩⟩
    | halt x w' => cases x <;> simp only [Oper.upon] at h ⊢ <;> exact h
  · rename_i hw
    simp only [hw]
    exact ⟨h, .inl ⟨undef, rfl⟩⟩

def ordB (ops : Array Oper) : Bool :=
  Region.noSelect ops && (List.range ops.size).all fun i => (List.range ops.size).all fun j => i == j || ((masks .any ops.toList []).getD j 0).testBit i || ((masks .any ops.toList []).getD i 0).testBit j ||
    (match ops[i]?, ops[j]? with | some a, some b => a.apart ops b | _, _ => true)
def W (P : Program) (ops : Array Oper) (Q : Exit → Act → World → Prop) (G : Nat → Prop) (w0 : World) (L : List Asn) : Nat → List Asn → Array Bool → Act → Prop
  | 0, T, listed, a => Region.ready .any ops listed = [] ∧ ∀ w, St G w0 w (L ++ T) → Q .normal a w
  | f + 1, T, listed, a => ∀ w, St G w0 w (L ++ T) → (Region.ready .any ops listed = [] → Q .normal a w) ∧
      ∀ i ∈ Region.ready .any ops listed, wpOp P ops (Tot [] Q) i (fun a' w' => ∃ T', St G w0 w' (L ++ T') ∧ W P ops Q G w0 L f T' (listed.setIfInBounds i true) a') a w
theorem W_any : ∀ (f : Nat) (T : List Asn) (listed : Array Bool) (a : Act) (w : World), W P ops Q G w0 L f T listed a → St G w0 w (L ++ T) → wpAny P .any ops Q f listed a w
  | 0, _, _, _, w, h, S => ⟨h.1, h.2 w S⟩
  | f + 1, _, _, _, w, h, S => ⟨(h w S).1, fun i hi => wpOp_tot (ns := []) (fun a' w' ⟨T', S', h'⟩ => W_any f T' _ a' w' h' S') ((h w S).2 i hi)⟩
def Soft (P : Program) (ops : Array Oper) (Q : Exit → Act → World → Prop) (G : Nat → Prop) (w0 : World) (L : List Asn) (i : Nat) (a A : Act) : Prop :=
  ∀ T w, St G w0 w (L ++ T) → wpOp P ops (Tot [] Q) i (fun a' w' => a' = A ∧ St G w0 w' (L ++ T)) a w
theorem noSelect_spec (h : Region.noSelect ops = true) {j : Nat} {o : Oper} (hj : ops[j]? = some o) : ∀ cs b, o.op ≠ .select cs b := by
  intro cs b e
  unfold Region.noSelect at h
  rw [Array.all_eq_true'] at h
  have := h o (Array.mem_of_getElem? hj)
  simp [e] at this
theorem ordB_spec (h : ordB ops = true) : (∀ (j : Nat) (o : Oper), ops[j]? = some o → ∀ cs b, o.op ≠ .select cs b) ∧
    ∀ (i j : Nat) (a b : Oper), i ≠ j → ops[i]? = some a → ops[j]? = some b → ((masks .any ops.toList []).getD j 0).testBit i = false → ((masks .any ops.toList []).getD i 0).testBit j = false → a.apart ops b = true := by
  simp only [ordB, Bool.and_eq_true] at h
  refine ⟨fun j o hj => noSelect_spec h.1 hj, fun i j a b hij hi hj h1 h2 => ?_⟩
  have := List.all_eq_true.1 (List.all_eq_true.1 h.2 i (List.mem_range.2 (Array.getElem?_eq_some_iff.1 hi).1)) j (List.mem_range.2 (Array.getElem?_eq_some_iff.1 hj).1)
  simp only [h1, h2, hi, hj, Bool.or_false, Bool.or_eq_true, beq_iff_eq] at this
  exact this.resolve_left hij
theorem eval_defers (a : Act) (d : Deferred) : ({ a with defers := d :: a.defers } : Act).eval = a.eval := by funext x; cases x <;> rfl
theorem unlisted {listed : Array Bool} {i : Nat} (h : listed.getD i true = false) : listed.getD i false = false := by
  rw [Array.getD_eq_getD_getElem?] at *
  cases hh : listed[i]? with
  | none => rfl
  | some b => rw [hh] at h; exact h
theorem put_size (a : Act) (d : Option Tmp) (v : Value) : (a.put d v).tmps.size = a.tmps.size := by cases d <;> simp [Act.put]
theorem put_defers_eq (a : Act) (d : Option Tmp) (v : Value) : (a.put d v).defers = a.defers := by cases d <;> rfl
theorem put_move {a b : Act} {d : Option Tmp} {u v : Value} (hs : b.tmps.size = a.tmps.size) (h : a.put d u = a.put d v) : b.put d u = b.put d v := by
  cases d with
  | none => rfl
  | some t =>
    simp only [Act.put, Act.mk.injEq, and_true] at h ⊢
    by_cases ht : t < a.tmps.size
    · have := congrArg (fun x : Array Value => x[t]?) h
      simp [ht] at this
      rw [this]
    · have hb : b.tmps.size ≤ t := by rw [hs]; exact Nat.le_of_not_lt ht
      rw [Array.setIfInBounds_eq_of_size_le hb, Array.setIfInBounds_eq_of_size_le hb]
theorem soft_ride {i : Nat} {o : Oper} {v : Value} {a b : Act} {w : World} {N : World → Prop} (hi : ops[i]? = some o) (he : execOp b.eval o = execOp a.eval o) (hw : Region.wanted o (yielded ops b.tmps) = Region.wanted o (yielded ops a.tmps)) (hsz : b.tmps.size = a.tmps.size)
    (h : wpOp P ops (Tot [] Q) i (fun a' w' => a' = a.put o.dst v ∧ N w') a w) : wpOp P ops (Tot [] Q) i (fun a' w' => a' = b.put o.dst v ∧ N w') b w := by
  unfold wpOp at *
  simp only [hi, hw] at *
  split at h
  · rename_i hwt
    simp only [hwt, if_true]
    rcases h with h | ⟨_, h⟩
    case inr => exact absurd h not_lets
    refine .inl ?_
    unfold Oper.wp at *
    rw [he]
    generalize (execOp a.eval o).run P w = r at *
    cases r with
    | ok n w' =>
      cases n <;> simp only [Oper.upon] at h ⊢
      case value u => exact ⟨put_move hsz h.1, h.2⟩
      case skip => exact ⟨put_move hsz h.1, h.2⟩
      case defer d =>
        have := congrArg (fun x : Act => x.defers.length) h.1
        simp [put_defers_eq] at this
      case enter f args => refine Calls.mono h fun e w'' he => ?_; cases e <;> first | exact ⟨put_move hsz he.1, he.2⟩ | exact he
      case row r args => exact Rows.mono h fun u w'' he => ⟨put_move hsz he.1, he.2⟩
    | halt x w' => cases x <;> simp only [Oper.upon] at h ⊢ <;> exact h
  · rename_i hwt
    simp only [hwt]
    exact ⟨put_move hsz h.1, h.2⟩
theorem W_soft (hB : ordB ops = true) {i : Nat} {oi : Oper} {v : Value} (hi : ops[i]? = some oi) : ∀ (f : Nat) (T : List Asn) (listed : Array Bool) (a : Act), Closed .any ops listed → i ∈ Region.ready .any ops listed →
    Soft P ops Q G w0 L i a (a.put oi.dst v) → W P ops Q G w0 L f T (listed.setIfInBounds i true) (a.put oi.dst v) → W P ops Q G w0 L (f + 1) T listed a := by
  obtain ⟨hsel, hap⟩ := ordB_spec hB
  intro f
  induction f with
  | zero =>
    intro T listed a hcl hr hs hw w S
    refine ⟨fun h => by rw [h] at hr; (cases hr), fun j hj => ?_⟩
    by_cases hji : j = i
    · subst hji
      exact wpOp_mono (fun a' w' ⟨e, S'⟩ => ⟨T, S', e ▸ hw⟩) (hs T w S)
    · have := ready_mono hj hji
      rw [hw.1] at this
      cases this
  | succ f ih =>
    intro T listed a hcl hr hs hw w S
    refine ⟨fun h => by rw [h] at hr; (cases hr), fun j hj => ?_⟩
    by_cases hji : j = i
    · subst hji
      exact wpOp_mono (fun a' w' ⟨e, S'⟩ => ⟨T, S', e ▸ hw⟩) (hs T w S)
    · obtain ⟨hjun, oj, hoj, hall⟩ := mem_ready.1 hj
      obtain ⟨hiun, oi', hoi', halli⟩ := mem_ready.1 hr
      have e1 : ((masks .any ops.toList []).getD j 0).testBit i = false := by
        cases hb : ((masks .any ops.toList []).getD j 0).testBit i with
        | false => rfl
        | true => have := mask_listed hcl j oj hoj hall hb; rw [unlisted hiun] at this; cases this
      have e2 : ((masks .any ops.toList []).getD i 0).testBit j = false := by
        cases hb : ((masks .any ops.toList []).getD i 0).testBit j with
        | false => rfl
        | true => have := mask_listed hcl i oi' hoi' halli hb; rw [unlisted hjun] at this; cases this
      obtain ⟨h1, h2, h3⟩ := Oper.apart_spec (hap i j oi oj (Ne.symm hji) hi hoj e1 e2)
      have H := (hw w S).2 j (ready_mono hj hji)
      have H2 := (wpOp_ride (P := P) (Q := Q) (φ := fun b => b.put oi.dst v) (a := a) (w := w) hoj (execOp_put oj (hsel j oj hoj) a oi.dst v h1) (wanted_put oj a oi.dst v h1) (fun u => Act.put_comm a v u h2)
        (fun d u => by rw [Act.put_defers]; exact Act.put_comm _ v u h2)).1 H
      have hcl' := hcl.set hj
      have hr' := ready_mono hr (Ne.symm hji)
      have soft : ∀ (b : Act), execOp b.eval oi = execOp a.eval oi → Region.wanted oi (yielded ops b.tmps) = Region.wanted oi (yielded ops a.tmps) → b.tmps.size = a.tmps.size → Soft P ops Q G w0 L i b (b.put oi.dst v) :=
        fun b he hwn hsz T' w' S' => soft_ride hi he hwn hsz (hs T' w' S')
      refine wpOp_mono (fun a' w' ⟨⟨T', S', h'⟩, hf⟩ => ⟨T', S', ih T' _ a' hcl' hr' ?_ ?_⟩) (wpOp_forms hoj H2)
      · rcases hf with ⟨u, rfl⟩ | ⟨d, u, rfl⟩
        · exact soft _ (execOp_put oi (hsel i oi hi) a oj.dst u h3) (wanted_put oi a oj.dst u h3) (put_size _ _ _)
        · exact soft _ (by rw [execOp_put oi (hsel i oi hi) _ oj.dst u h3, eval_defers]) (by rw [wanted_put oi _ oj.dst u h3]) (put_size _ _ _)
      · rw [Array.setIfInBounds_comm _ _ hji]; exact h'
def slotIs (ops : Array Oper) (i : Nat) (a A : Act) : Prop := ∃ o, ops[i]? = some o ∧ A = a.put o.dst ((o.dst.map fun t => A.tmps.getD t undef).getD undef)
def Softs (P : Program) (ops : Array Oper) (Q : Exit → Act → World → Prop) (G : Nat → Prop) (w0 : World) (L : List Asn) (F : Act → Prop) : List Nat → Act → Prop
  | [], a => F a
  | i :: l, a => ∃ A, Soft P ops Q G w0 L i a A ∧ slotIs ops i a A ∧ Softs P ops Q G w0 L F l A
theorem softs_cons {F : Act → Prop} {i : Nat} {l : List Nat} {a A : Act} (hw : Soft P ops Q G w0 L i a A) (hs : slotIs ops i a A) (hn : Softs P ops Q G w0 L F l A) : Softs P ops Q G w0 L F (i :: l) a := ⟨A, hw, hs, hn⟩
theorem softs_nil {f : Nat} {T : List Asn} {listed : Array Bool} {a : Act} (h : W P ops Q G w0 L f T listed a) : Softs P ops Q G w0 L (fun A => W P ops Q G w0 L f T listed A) [] a := h
def readyAll (ops : Array Oper) : List Nat → Array Bool → Bool
  | [], _ => true
  | i :: l, listed => (Region.ready .any ops listed).contains i && readyAll ops l (listed.setIfInBounds i true)
def after : List Nat → Array Bool → Array Bool
  | [], listed => listed
  | i :: l, listed => after l (listed.setIfInBounds i true)
theorem W_softs (hB : ordB ops = true) : ∀ (soft : List Nat) (f : Nat) (T : List Asn) (listed : Array Bool) (a : Act), Closed .any ops listed → readyAll ops soft listed = true →
    Softs P ops Q G w0 L (fun A => W P ops Q G w0 L f T (after soft listed) A) soft a → W P ops Q G w0 L (f + soft.length) T listed a
  | [], _, _, _, _, _, _, h => h
  | i :: l, f, T, listed, a, hcl, hr, ⟨A, hs, ⟨o, ho, hA⟩, h⟩ => by
    simp only [readyAll, Bool.and_eq_true, List.contains_iff_mem] at hr
    have := W_softs hB l f T _ A (hcl.set hr.1) hr.2 h
    rw [hA] at hs this
    exact W_soft hB ho (f + l.length) T listed a hcl hr.1 hs this
def softB (ops : Array Oper) (soft : List Nat) : Bool := ordB ops && readyAll ops soft (Array.replicate ops.size false) && Nat.ble soft.length ops.size
theorem wp_region_w {id : Nat} {soft : List Nat} {a : Act} {w : World} (S : St G w0 w L) (hm : P.follows .mixedOrders = true) (hB : softB ops soft = true)
    (h : Softs P ops Q G w0 L (fun A => W P ops Q G w0 L (ops.size - soft.length) [] (after soft (Array.replicate ops.size false)) A) soft a) : (Code.region id ops true).wp P Q a w := by
  simp only [softB, Bool.and_eq_true] at hB
  have hc : Closed .any ops (Array.replicate ops.size false) := fun j oj _ hl => by
    rw [Array.getD_eq_getD_getElem?] at hl
    by_cases hj : j < ops.size
    · rw [Array.getElem?_replicate, if_pos hj] at hl; cases hl
    · rw [Array.getElem?_replicate, if_neg hj] at hl; cases hl
  have hle := Nat.le_of_ble_eq_true hB.2
  have := W_softs hB.1.1 soft (ops.size - soft.length) [] _ a hc hB.1.2 h
  rw [show ops.size - soft.length + soft.length = ops.size by omega] at this
  exact wp_region_any hm (W_any _ [] _ a _ this (by simpa using S.ext (keep_drew w)))
theorem W_done {n : Nat} {T : List Asn} {listed : Array Bool} {a : Act} (hn : n = 0) (hr : Region.ready .any ops listed = []) (h : ∀ w, St G w0 w (L ++ T) → Q .normal a w) : W P ops Q G w0 L n T listed a := by subst hn; exact ⟨hr, h⟩
theorem W_hard1 {n f i : Nat} (hn : n = f + 1) {T : List Asn} {listed : Array Bool} {a : Act} (hr : Region.ready .any ops listed = [i])
    (h : ∀ w, St G w0 w (L ++ T) → wpOp P ops (Tot [] Q) i (fun a' w' => ∃ T', St G w0 w' (L ++ T') ∧ W P ops Q G w0 L f T' (listed.setIfInBounds i true) a') a w) : W P ops Q G w0 L n T listed a := by
  subst hn
  exact fun w S => ⟨fun e => by rw [hr] at e; (cases e), fun j hj => by rw [hr] at hj; simp at hj; subst hj; exact h w S⟩
def SoftQ (A : Act) (G : Nat → Prop) (w0 : World) (L : List Asn) : Exit → Act → World → Prop := fun _ a' w' => a' = A ∧ St G w0 w' L
def HardQ (P : Program) (ops : Array Oper) (Q : Exit → Act → World → Prop) (G : Nat → Prop) (w0 : World) (L : List Asn) (f : Nat) (listed : Array Bool) : Exit → Act → World → Prop := fun _ a' w' => ∃ T', St G w0 w' (L ++ T') ∧ W P ops Q G w0 L f T' listed a'
theorem op_list {i : Nat} {o : Oper} {K : Act → World → Prop} {R : Exit → Act → World → Prop} {a : Act} {w : World} (hi : ops[i]? = some o) (h : wpList P ops (Tot [] R) [o] a w) (hR : ∀ a' w', R .normal a' w' → K a' w') : wpOp P ops (Tot [] Q) i K a w := by
  unfold wpOp
  simp only [hi]
  unfold wpList at h
  split at h
  · rename_i hw
    simp only [hw, if_true]
    rcases h with h | ⟨_, h⟩
    case inr => exact absurd h not_lets
    refine .inl ?_
    unfold Oper.wp at *
    generalize (execOp a.eval o).run P w = r at *
    cases r with
    | ok n w' =>
      cases n <;> simp only [Oper.upon] at h ⊢
      case value v => exact hR _ _ h.2
      case skip => exact hR _ _ h.2
      case defer d => exact hR _ _ h.2
      case enter f args => refine Calls.mono h fun e w'' he => ?_; cases e <;> first | exact hR _ _ he.2 | exact absurd he not_lets | exact (he : False).elim
      case row r args => exact Rows.mono h fun v w'' he => hR _ _ he.2
    | halt x w' => cases x <;> simp only [Oper.upon] at h ⊢ <;> exact h
  · rename_i hw
    simp only [hw]
    exact hR _ _ h.2
def opAt : List Oper → Nat → Option Oper
  | [], _ => none
  | o :: _, 0 => some o
  | _ :: l, n + 1 => opAt l n
theorem opAt_get : ∀ (l : List Oper) (i : Nat), opAt l i = l[i]?
  | [], _ => by simp [opAt]
  | _ :: _, 0 => rfl
  | _ :: l, n + 1 => by simp [opAt, opAt_get l n]
theorem opAt_arr {i : Nat} {o : Oper} (h : opAt ops.toList i = some o) : ops[i]? = some o := by rw [opAt_get] at h; simpa using h
theorem soft_of {i : Nat} {o : Oper} {a A : Act} (hi : opAt ops.toList i = some o) (h : ∀ T w, St G w0 w (L ++ T) → wpList P ops (Tot [] (SoftQ A G w0 (L ++ T))) [o] a w) : Soft P ops Q G w0 L i a A := fun T w S => op_list (opAt_arr hi) (h T w S) fun _ _ h => h
theorem hard_of {i f : Nat} {o : Oper} {a : Act} {w : World} {listed : Array Bool} (hi : opAt ops.toList i = some o) (h : wpList P ops (Tot [] (HardQ P ops Q G w0 L f listed)) [o] a w) :
    wpOp P ops (Tot [] Q) i (fun a' w' => ∃ T', St G w0 w' (L ++ T') ∧ W P ops Q G w0 L f T' listed a') a w := op_list (opAt_arr hi) h fun _ _ h => h
end
end Go.Proofs.YtmjljoaakdocaaaGreatDoor.Mem
/- A region that draws its order, beside things that its hard operations turn. Over any program. -/
namespace Go.Proofs.YtmjljoaakdocaaaGreatDoor.Mem
open Go Go.RowKit Reg
section
variable {P : Program} {ops : Array Oper} {Q : Exit → Act → World → Prop} {G : Nat → Prop} {w0 : World} {L : List Asn}
theorem wp_region_wt {id : Nat} {soft : List Nat} {a : Act} {w : World} {T : List Asn} (S : St G w0 w (L ++ T)) (hm : P.follows .mixedOrders = true) (hB : softB ops soft = true)
    (h : Softs P ops Q G w0 L (fun A => W P ops Q G w0 L (ops.size - soft.length) T (after soft (Array.replicate ops.size false)) A) soft a) : (Code.region id ops true).wp P Q a w := by
  simp only [softB, Bool.and_eq_true] at hB
  have hc : Closed .any ops (Array.replicate ops.size false) := fun j oj _ hl => by
    rw [Array.getD_eq_getD_getElem?] at hl
    by_cases hj : j < ops.size
    · rw [Array.getElem?_replicate, if_pos hj] at hl; cases hl
    · rw [Array.getElem?_replicate, if_neg hj] at hl; cases hl
  have hle := Nat.le_of_ble_eq_true hB.2
  have := W_softs hB.1.1 soft (ops.size - soft.length) T _ a hc hB.1.2 h
  rw [show ops.size - soft.length + soft.length = ops.size by omega] at this
  exact wp_region_any hm (W_any _ T _ a _ this (S.ext (keep_drew w)))
end
end Go.Proofs.YtmjljoaakdocaaaGreatDoor.Mem
/- Operations of one value in the midst of a region that draws its order. Over any program. -/
namespace Go.Proofs.YtmjljoaakdocaaaGreatDoor.Mem
open Go Go.RowKit Reg
section
variable {P : Program} {ops : Array Oper} {Q : Exit → Act → World → Prop} {G : Nat → Prop} {w0 : World} {L : List Asn}
def closedB (ops : Array Oper) (listed : Array Bool) : Bool :=
  (List.range ops.size).all fun j => !listed.getD j false || ((ops[j]?).map (·.after.all fun e => !Region.binds .any e || listed.getD e.on false)).getD true
theorem closed_of {listed : Array Bool} (h : closedB ops listed = true) : Closed .any ops listed := fun j oj hj hl e he hb => by
  have h1 := List.all_eq_true.1 h j (List.mem_range.2 (Array.getElem?_eq_some_iff.1 hj).1)
  rw [hj] at h1
  simp only [hl, Option.map_some, Option.getD_some, Bool.not_true, Bool.false_or, Array.all_eq_true'] at h1
  have := h1 e he
  rw [hb] at this
  simpa using this
theorem W_mid {n f : Nat} {soft : List Nat} {T : List Asn} {listed : Array Bool} {a : Act} (hn : n = f + soft.length) (hB : (ordB ops && closedB ops listed && readyAll ops soft listed) = true)
    (h : Softs P ops Q G w0 L (fun A => W P ops Q G w0 L f T (after soft listed) A) soft a) : W P ops Q G w0 L n T listed a := by
  simp only [Bool.and_eq_true] at hB
  rw [hn]
  exact W_softs hB.1.1 soft f T listed a (closed_of hB.1.2) hB.2 h
end
end Go.Proofs.YtmjljoaakdocaaaGreatDoor.Mem
/- Texts of things to do, plain: lines, words, numbers (chapter 21). No program in sight. -/
namespace Go.Proofs.YtmjljoaakdocaaaGreatDoor
open Go

/-! ### Cut at a byte -/
theorem idx_one (c : UInt8) : ∀ l : List UInt8, (Lib.index l [c] = -1 ∧ ∀ x ∈ l, x ≠ c) ∨ ∃ i : Nat, Lib.index l [c] = i ∧ i < l.length ∧ l[i]? = some c ∧ ∀ x ∈ l.take i, x ≠ c
  | [] => .inl ⟨rfl, by simp⟩
  | b :: l => by
    unfold Lib.index
    by_cases h : c = b
    · subst h
      exact .inr ⟨0, by simp [List.isPrefixOf], by simp, by simp, by simp⟩
    · have hp : List.isPrefixOf [c] (b :: l) = false := by simp [List.isPrefixOf, h]
      rw [if_neg (by rw [hp]; decide)]
      rcases idx_one c l with ⟨h1, h2⟩ | ⟨i, h1, h2, h3, h4⟩
      · refine .inl ⟨by rw [h1]; rfl, fun x hx => ?_⟩
        rcases List.mem_cons.1 hx with rfl | hx
        · exact Ne.symm h
        · exact h2 x hx
      · refine .inr ⟨i + 1, ?_, by simp; omega, by simpa using h3, fun x hx => ?_⟩
        · rw [h1, if_neg (by rw [beq_iff_eq]; omega)]; omega
        · rw [List.take_succ_cons] at hx
          rcases List.mem_cons.1 hx with rfl | hx
          · exact Ne.symm h
          · exact h4 x hx
def splitGo (c : UInt8) : List UInt8 → List UInt8 → List (List UInt8)
  | now, [] => [now]
  | now, x :: l => if x = c then now :: splitGo c [] l else splitGo c (now ++ [x]) l
theorem splitGo_run (c : UInt8) : ∀ (p l now : List UInt8), (∀ x ∈ p, x ≠ c) → splitGo c now (p ++ l) = splitGo c (now ++ p) l
  | [], l, now, _ => by simp
  | x :: p, l, now, h => by
    rw [List.cons_append, splitGo, if_neg (h x (by simp)), splitGo_run c p l _ fun y hy => h y (List.mem_cons_of_mem _ hy)]
    simp
theorem split_none (c : UInt8) {l : List UInt8} (h : ∀ x ∈ l, x ≠ c) : splitGo c [] l = [l] := by
  have := splitGo_run c l [] [] h
  simpa [splitGo] using this
theorem split_hit (c : UInt8) {l : List UInt8} {i : Nat} (hi : l[i]? = some c) (h : ∀ x ∈ l.take i, x ≠ c) : splitGo c [] l = l.take i :: splitGo c [] (l.drop (i + 1)) := by
  have hl := (List.getElem?_eq_some_iff.1 hi).1
  have e : l = l.take i ++ c :: l.drop (i + 1) := by
    have := (List.getElem?_eq_some_iff.1 hi).2
    rw [← this, ← List.drop_eq_getElem_cons hl, List.take_append_drop]
  have h1 := splitGo_run c (l.take i) (c :: l.drop (i + 1)) [] h
  rw [← e, List.nil_append, splitGo, if_pos rfl] at h1
  exact h1
theorem splitK_go (c : UInt8) : ∀ (k : Nat) (l : List UInt8), Lib.count l [c] ≤ k → Lib.splitK [c] 0 k l = splitGo c [] l
  | 0, l, hk => by
    rcases idx_one c l with ⟨h1, h2⟩ | ⟨i, h1, h2, h3, h4⟩
    · rw [split_none c h2]; rfl
    · have := Lib.count_hit (s := l) (sub := [c]) (i := i) (by simp) h1
      omega
  | k + 1, l, hk => by
    rcases idx_one c l with ⟨h1, h2⟩ | ⟨i, h1, h2, h3, h4⟩
    · rw [split_none c h2, Lib.splitK, if_pos (by rw [h1]; rfl)]
    · have hc := Lib.count_hit (s := l) (sub := [c]) (i := i) (by simp) h1
      rw [split_hit c h3 h4, Lib.splitK, if_neg (by rw [h1, beq_iff_eq]; omega), h1]
      simp only [Int.toNat_natCast, Nat.add_zero, List.length_cons, List.length_nil, Nat.zero_add]
      rw [splitK_go c k _ (by simp only [List.length_cons, List.length_nil, Nat.zero_add] at hc; omega)]
theorem splitB_go (c : UInt8) (s : ByteArray) : (Lib.splitB ⟨#[c]⟩ 0 (Lib.countB s ⟨#[c]⟩) s).map (·.data.toList) = splitGo c [] s.data.toList := by
  rw [Lib.splitB_data]
  exact splitK_go c _ _ (Nat.le_refl _)
theorem cut_go (c : UInt8) (l : List UInt8) : (Lib.cut l [c]).1 = (splitGo c [] l).headD [] := by
  unfold Lib.cut
  rcases idx_one c l with ⟨h1, h2⟩ | ⟨i, h1, h2, h3, h4⟩
  · rw [if_neg (by rw [h1]; decide), split_none c h2]; rfl
  · rw [if_pos (by rw [h1]; omega), split_hit c h3 h4, h1]; rfl
theorem split_cons (c : UInt8) : ∀ (l now : List UInt8), ∃ x r, splitGo c now l = x :: r
  | [], now => ⟨now, [], rfl⟩
  | x :: l, now => by
    unfold splitGo
    split
    · exact ⟨_, _, rfl⟩
    · exact split_cons c l _
theorem split_len (c : UInt8) : ∀ (l now : List UInt8), (splitGo c now l).length = l.count c + 1
  | [], now => rfl
  | x :: l, now => by
    unfold splitGo
    split
    · rename_i h; subst h; rw [List.length_cons, split_len, List.count_cons_self]
    · rename_i h; rw [split_len, List.count_cons_of_ne h]
theorem split_size (c : UInt8) : ∀ (l now : List UInt8), ∀ x ∈ splitGo c now l, x.length ≤ now.length + l.length
  | [], now, x, hx => by simp [splitGo] at hx; subst hx; simp
  | y :: l, now, x, hx => by
    unfold splitGo at hx
    split at hx
    · rcases List.mem_cons.1 hx with rfl | hx
      · omega
      · have := split_size c l [] x hx; simp at this ⊢; omega
    · have := split_size c l _ x hx; simp at this ⊢; omega
/-! ### Words -/
def sepB (b : UInt8) : Bool := b == 32 || b == 9 || b == 13
def sepR (x : Nat) : Bool := x == 32 || x == 9 || x == 13
theorem sep_eq (b : UInt8) : sepB b = sepR b.toNat := by
  have h : ∀ n : Nat, n < 256 → (b == UInt8.ofNat n) = (b.toNat == n) := fun n hn => by
    rw [Bool.eq_iff_iff, beq_iff_eq, beq_iff_eq]
    constructor
    · intro e; subst e; simp [UInt8.toNat_ofNat']; omega
    · intro e; rw [← e]; simp
  unfold sepB sepR
  rw [← h 32 (by omega), ← h 9 (by omega), ← h 13 (by omega)]
  rfl
def wordsGo : List UInt8 → List UInt8 → List (List UInt8)
  | now, [] => if now = [] then [] else [now]
  | now, x :: l => if sepB x = true then (if now = [] then wordsGo [] l else now :: wordsGo [] l) else wordsGo (now ++ [x]) l
theorem wordsGo_run : ∀ (p l now : List UInt8), (∀ x ∈ p, sepB x = false) → wordsGo now (p ++ l) = wordsGo (now ++ p) l
  | [], l, now, _ => by simp
  | x :: p, l, now, h => by
    rw [List.cons_append, wordsGo, if_neg (by rw [h x (by simp)]; decide), wordsGo_run p l _ fun y hy => h y (List.mem_cons_of_mem _ hy)]
    simp
theorem words_ne : ∀ (l now : List UInt8), ∀ x ∈ wordsGo now l, x ≠ []
  | [], now, x, hx => by
    unfold wordsGo at hx
    split at hx
    · simp at hx
    · simp at hx; subst hx; assumption
  | y :: l, now, x, hx => by
    unfold wordsGo at hx
    split at hx
    · split at hx
      · exact words_ne l _ x hx
      · rcases List.mem_cons.1 hx with rfl | hx
        · assumption
        · exact words_ne l _ x hx
    · exact words_ne l _ x hx
theorem words_size : ∀ (l now : List UInt8), ∀ x ∈ wordsGo now l, x.length ≤ now.length + l.length
  | [], now, x, hx => by
    unfold wordsGo at hx
    split at hx
    · simp at hx
    · simp at hx; subst hx; simp
  | y :: l, now, x, hx => by
    unfold wordsGo at hx
    split at hx
    · split at hx
      · have := words_size l [] x hx; simp at this ⊢; omega
      · rcases List.mem_cons.1 hx with rfl | hx
        · omega
        · have := words_size l [] x hx; simp at this ⊢; omega
    · have := words_size l _ x hx; simp at this ⊢; omega
theorem words_len : ∀ (l now : List UInt8), (wordsGo now l).length ≤ l.length + 1
  | [], now => by unfold wordsGo; split <;> simp
  | y :: l, now => by
    unfold wordsGo
    split
    · split
      · have := words_len l []; simp; omega
      · have := words_len l []; simp; omega
    · have := words_len l (now ++ [y]); simp; omega
theorem rune_high (s : ByteArray) (pos : Nat) (h : pos < s.size) (ha : 128 ≤ (s[pos]'h).toNat) :
    pos + (Utf8.decode s pos).2 ≤ s.size ∧ ∀ x ∈ (s.data.toList.drop pos).take (Utf8.decode s pos).2, 128 ≤ x.toNat := by
  have hc := Lib.decodeN_conts (s.data.toList.length - pos) (s.data.toList.getD pos 0).toNat (s.data.toList.getD (pos + 1) 0).toNat (s.data.toList.getD (pos + 2) 0).toNat (s.data.toList.getD (pos + 3) 0).toNat
  rw [← Lib.decode_N] at hc
  obtain ⟨c2, c3, c4, c5⟩ := hc
  have hs := Lib.size_eq s
  refine ⟨by omega, fun x hx => ?_⟩
  obtain ⟨j, hj, e⟩ := List.mem_iff_getElem.1 hx
  have hj2 : j < (Utf8.decode s pos).2 := by rw [List.length_take] at hj; omega
  have hj3 : pos + j < s.data.toList.length := by rw [List.length_take, List.length_drop] at hj; omega
  have e2 : x = s.data.toList.getD (pos + j) 0 := by
    rw [← e, List.getElem_take, List.getElem_drop, List.getD_eq_getElem?_getD, List.getElem?_eq_getElem hj3, Option.getD_some]
  have h0 : s.data.toList.getD pos 0 = s[pos]'h := by
    rw [List.getD_eq_getElem?_getD, List.getElem?_eq_getElem (by omega), Option.getD_some]; rfl
  rw [e2]
  rcases Nat.lt_or_ge j 1 with h1 | h1
  · obtain rfl : j = 0 := by omega
    rw [Nat.add_zero, h0]; exact ha
  · rcases Nat.lt_or_ge j 2 with h2 | h2
    · obtain rfl : j = 1 := by omega
      have := (c2 (by omega)).1; omega
    · rcases Nat.lt_or_ge j 3 with h3 | h3
      · obtain rfl : j = 2 := by omega
        have := (c3 (by omega)).1; omega
      · obtain rfl : j = 3 := by omega
        have := (c4 (by omega)).1; omega
theorem spans_words (s : ByteArray) : ∀ (f pos : Nat) (st : Option Nat) (acc : List (Nat × Nat)), s.size - pos ≤ f → pos ≤ s.size → (∀ a, st = some a → a < pos) →
    ((Lib.closeSpans s (Lib.spansFromP sepR s f pos st acc)).map fun x => (s.extract x.1 x.2).data.toList) =
      (acc.map fun x => (s.extract x.1 x.2).data.toList) ++ wordsGo (Lib.openPiece s.data.toList st pos) (s.data.toList.drop pos) := by
  have ext : ∀ a b, (s.extract a b).data.toList = Lib.pieceU s.data.toList a b := fun a b => Lib.extract_data s a b
  have hs := Lib.size_eq s
  have fin : ∀ (st : Option Nat) (acc : List (Nat × Nat)) (pos : Nat), pos = s.size → (∀ a, st = some a → a < pos) →
      ((Lib.closeSpans s (acc, st)).map fun x => (s.extract x.1 x.2).data.toList) = (acc.map fun x => (s.extract x.1 x.2).data.toList) ++ wordsGo (Lib.openPiece s.data.toList st pos) (s.data.toList.drop pos) := by
    intro st acc pos hp ha
    subst hp
    rw [List.drop_eq_nil_of_le (by omega), wordsGo]
    cases st with
    | none => simp [Lib.closeSpans, Lib.openPiece]
    | some a =>
      have hne := Lib.pieceU_ne s.data.toList a s.size (ha a rfl) (by omega)
      rw [if_neg (show ¬ Lib.openPiece s.data.toList (some a) s.size = [] from hne)]
      simp [Lib.closeSpans, Lib.openPiece, Lib.pieceU]
  intro f
  induction f with
  | zero =>
    intro pos st acc hf hp ha
    exact fin st acc pos (by omega) ha
  | succ f ih =>
    intro pos st acc hf hp ha
    by_cases h : pos < s.size
    · unfold Lib.spansFromP
      rw [if_pos h]
      have hd : s.data.toList.drop pos = s[pos]'h :: s.data.toList.drop (pos + 1) := List.drop_eq_getElem_cons (by omega)
      by_cases h8 : (s[pos]'h).toNat < 128
      · have hdec := decode_ascii s pos h h8
        rw [hdec]
        simp only
        rw [hd]
        cases hsep : sepR (s[pos]'h).toNat with
        | true =>
          rw [if_pos rfl, wordsGo, if_pos (by rw [sep_eq]; exact hsep)]
          cases st with
          | none =>
            simp only
            rw [ih (pos + 1) none acc (by omega) (by omega) (by simp)]
            simp [Lib.openPiece]
          | some a =>
            have hne := Lib.pieceU_ne s.data.toList a pos (ha a rfl) (by omega)
            simp only
            rw [ih (pos + 1) none _ (by omega) (by omega) (by simp), if_neg (show ¬ Lib.openPiece s.data.toList (some a) pos = [] from hne)]
            simp [Lib.openPiece, Lib.pieceU]
        | false =>
          rw [if_neg (by decide), wordsGo, if_neg (by rw [sep_eq, hsep]; decide)]
          have hone : (s.data.toList.drop pos).take 1 = [s[pos]'h] := by rw [hd]; rfl
          cases st with
          | none =>
            simp only
            rw [ih (pos + 1) (some pos) acc (by omega) (by omega) (by intro a e; cases e; omega)]
            congr 2
            show Lib.pieceU s.data.toList pos (pos + 1) = _
            rw [← Lib.pieceU_grow _ pos pos 1 (Nat.le_refl _), hone]
            simp [Lib.pieceU, Lib.openPiece]
          | some a =>
            simp only
            rw [ih (pos + 1) (some a) acc (by omega) (by omega) (by intro b e; cases e; have := ha a rfl; omega)]
            congr 2
            show Lib.pieceU s.data.toList a (pos + 1) = Lib.pieceU s.data.toList a pos ++ _
            rw [← Lib.pieceU_grow _ a pos 1 (by have := ha a rfl; omega), hone]
      · obtain ⟨hr, hw⟩ := decode_high s pos h (by omega)
        obtain ⟨hfit, hall⟩ := rune_high s pos h (by omega)
        have hsep : sepR (Utf8.decode s pos).1 = false := by
          unfold sepR
          simp only [Bool.or_eq_false_iff, beq_eq_false_iff_ne]
          omega
        rw [if_neg (by rw [hsep]; decide)]
        have hsplit : s.data.toList.drop pos = (s.data.toList.drop pos).take (Utf8.decode s pos).2 ++ s.data.toList.drop (pos + (Utf8.decode s pos).2) := by
          rw [← List.drop_drop, List.take_append_drop]
        have hrun := wordsGo_run ((s.data.toList.drop pos).take (Utf8.decode s pos).2) (s.data.toList.drop (pos + (Utf8.decode s pos).2)) (Lib.openPiece s.data.toList st pos) (fun x hx => by
          have := hall x hx
          rw [sep_eq]
          unfold sepR
          simp only [Bool.or_eq_false_iff, beq_eq_false_iff_ne]
          omega)
        rw [← hsplit] at hrun
        rw [hrun]
        cases st with
        | none =>
          simp only
          rw [ih _ (some pos) acc (by omega) (by omega) (by intro a e; cases e; omega)]
          congr 2
          show Lib.pieceU s.data.toList pos _ = _
          rw [← Lib.pieceU_grow _ pos pos _ (Nat.le_refl _)]
          simp [Lib.pieceU, Lib.openPiece]
        | some a =>
          simp only
          rw [ih _ (some a) acc (by omega) (by omega) (by intro b e; cases e; have := ha a rfl; omega)]
          congr 2
          show Lib.pieceU s.data.toList a _ = Lib.pieceU s.data.toList a pos ++ _
          rw [← Lib.pieceU_grow _ a pos _ (by have := ha a rfl; omega)]
    · rw [Lib.spansFromP_end _ _ _ _ _ _ h]
      exact fin st acc pos (by omega) ha
/-! ### Numbers -/
def digB (b : UInt8) : Bool := decide (48 ≤ b.toNat) && decide (b.toNat ≤ 57)
def valGo : Nat → List UInt8 → Nat
  | n, [] => n
  | n, b :: l => valGo (n * 10 + (b.toNat - 48)) l
theorem val_ge : ∀ (l : List UInt8) (n : Nat), n ≤ valGo n l
  | [], n => Nat.le_refl _
  | b :: l, n => Nat.le_trans (by omega) (val_ge l _)
def badForm (l : List UInt8) : Bool := decide (l = []) || (decide (1 < l.length) && decide (l.head? = some 48))
def numE (l : List UInt8) : Nat × Int :=
  if badForm l = true ∨ l.all digB = false then (0, 15) else if valGo 0 l ≤ 4095 then (valGo 0 l, 0) else (0, 10)
theorem parse_digits : ∀ (l : List UInt8) (acc : Nat), l.all digB = true → Lib.parseUint10 acc l = .ok (valGo acc l) ∨ (Lib.parseUint10 acc l = .range ∧ 1844674407370955162 ≤ valGo acc l)
  | [], acc, _ => .inl rfl
  | b :: l, acc, h => by
    simp only [List.all_cons, Bool.and_eq_true, digB, decide_eq_true_eq] at h
    unfold Lib.parseUint10 valGo
    rw [if_pos h.1]
    have hv := val_ge l (acc * 10 + (b.toNat - 48))
    split
    · exact .inr ⟨rfl, by omega⟩
    · split
      · exact .inr ⟨rfl, by omega⟩
      · exact parse_digits l _ h.2
theorem atoi_digits {l : List UInt8} (h : l.all digB = true) (h0 : l ≠ []) : Lib.atoiAll l = .ok (valGo 0 l) ∨ (Lib.atoiAll l = .range ∧ 4095 < valGo 0 l) := by
  cases l with
  | nil => exact absurd rfl h0
  | cons c r =>
    have hc : 48 ≤ c.toNat ∧ c.toNat ≤ 57 := by simp only [List.all_cons, Bool.and_eq_true, digB, decide_eq_true_eq] at h; exact h.1
    have hn : ¬ (c.toNat = 43 ∨ c.toNat = 45) := by omega
    have hn2 : ¬ c.toNat = 45 := by omega
    unfold Lib.atoiAll
    simp only [if_neg hn, Lib.parseMag, if_neg (List.cons_ne_nil c r)]
    rcases parse_digits (c :: r) 0 h with e | ⟨e, hv⟩
    · rw [e]
      simp only
      by_cases hb : 9223372036854775808 ≤ valGo 0 (c :: r)
      · exact .inr ⟨by rw [if_pos ⟨hn2, hb⟩], by omega⟩
      · exact .inl (by rw [if_neg (fun q => hb q.2), if_neg (fun q => hn2 q.1), if_neg hn2])
    · rw [e]; exact .inr ⟨rfl, by omega⟩
def capGo : Nat → List UInt8 → Nat
  | n, [] => n
  | n, b :: l => capGo (min 9999 (n * 10 + (b.toNat - 48))) l
/-! ### Lines -/
structure DoE where
  what : Int
  a : Int
  b : Int
def kindE (w : List UInt8) : Nat :=
  if w = [115, 116, 101, 112] then 0 else if w = [100, 101, 108, 105, 118, 101, 114] then 1 else if w = [114, 111, 117, 110, 100] then 2 else if w = [99, 97, 110, 99, 101, 108] then 3 else 4
def manyE (k : Nat) : Nat := if k = 1 then 2 else if k = 2 then 0 else 1
def numsE (l : List (List UInt8)) : Int := if l.any (fun w => (numE w).2 == 15) then 15 else if l.any (fun w => (numE w).2 == 10) then 10 else 0
def xB (f : List (List UInt8)) : Bool := match f.getLast? with | some t => decide (t.head? = some 120) | none => false
def toldL (f : List (List UInt8)) : List (List UInt8) := if xB f = true then f.dropLast else f
def timesW (f : List (List UInt8)) : List UInt8 := if xB f = true then (f.getLast?.getD []).tail else [49]
def nthE (l : List (List UInt8)) (i : Nat) : Int := match l[i]? with | some w => (numE w).1 | none => 0
def lineE : List (List UInt8) → DoE × Nat × Int
  | [] => (⟨0, 0, 0⟩, 0, 0)
  | w :: f =>
    if kindE w = 4 ∨ (toldL f).length ≠ manyE (kindE w) then (⟨0, 0, 0⟩, 0, 15)
    else if numsE (timesW f :: toldL f) ≠ 0 then (⟨0, 0, 0⟩, 0, numsE (timesW f :: toldL f))
    else if (numE (timesW f)).1 = 0 then (⟨0, 0, 0⟩, 0, 10)
    else (⟨kindE w, nthE (toldL f) 0, nthE (toldL f) 1⟩, (numE (timesW f)).1, 0)
def wordsOf (l : List UInt8) : List (List UInt8) := wordsGo [] ((splitGo 35 [] l).headD [])
def parseE : List (List UInt8) → Nat → List DoE → List DoE × Nat × Int
  | [], _, acc => (acc, 0, 0)
  | s :: r, i, acc =>
    if (lineE (wordsOf s)).2.2 ≠ 0 then ([], i + 1, (lineE (wordsOf s)).2.2)
    else if 4096 < acc.length + (lineE (wordsOf s)).2.1 then ([], i + 1, 11)
    else parseE r (i + 1) (acc ++ List.replicate (lineE (wordsOf s)).2.1 (lineE (wordsOf s)).1)
def parseT (l : List UInt8) : List DoE × Nat × Int := if 65536 < l.length then ([], 0, 11) else parseE (splitGo 10 [] l) 0 []
theorem numE_le (l : List UInt8) : (numE l).1 ≤ 4095 := by
  unfold numE
  split
  · simp
  · split <;> simp <;> omega
theorem numE_err (l : List UInt8) : (numE l).2 = 0 ∨ (numE l).2 = 10 ∨ (numE l).2 = 15 := by
  unfold numE
  split
  · simp
  · split <;> simp
theorem line_times (l : List (List UInt8)) : (lineE l).2.1 ≤ 4095 := by
  unfold lineE
  split
  · simp
  · split
    · simp
    · split
      · simp
      · split
        · simp
        · exact numE_le _
theorem parse_bad {s : List UInt8} (h : (lineE (wordsOf s)).2.2 ≠ 0) (r : List (List UInt8)) (i : Nat) (acc : List DoE) : parseE (s :: r) i acc = ([], i + 1, (lineE (wordsOf s)).2.2) := by rw [parseE, if_pos h]
theorem parse_full {s : List UInt8} (h : (lineE (wordsOf s)).2.2 = 0) {acc : List DoE} (h2 : 4096 < acc.length + (lineE (wordsOf s)).2.1) (r : List (List UInt8)) (i : Nat) : parseE (s :: r) i acc = ([], i + 1, 11) := by rw [parseE, if_neg (fun q => q h), if_pos h2]
theorem parse_next {s : List UInt8} (h : (lineE (wordsOf s)).2.2 = 0) {acc : List DoE} (h2 : ¬ 4096 < acc.length + (lineE (wordsOf s)).2.1) (r : List (List UInt8)) (i : Nat) : parseE (s :: r) i acc = parseE r (i + 1) (acc ++ List.replicate (lineE (wordsOf s)).2.1 (lineE (wordsOf s)).1) := by rw [parseE, if_neg (fun q => q h), if_neg h2]
theorem parse_wrong : ∀ (ls : List (List UInt8)) (i : Nat) (acc : List DoE), (parseE ls i acc).2.2 ≠ 0 → (parseE ls i acc).1 = [] ∧ i < (parseE ls i acc).2.1 ∧ (parseE ls i acc).2.1 ≤ i + ls.length
  | [], i, acc, h => absurd rfl h
  | s :: r, i, acc, h => by
    by_cases h1 : (lineE (wordsOf s)).2.2 = 0
    · by_cases h2 : 4096 < acc.length + (lineE (wordsOf s)).2.1
      · rw [parse_full h1 h2]; exact ⟨rfl, by simp, by simp⟩
      · rw [parse_next h1 h2] at h ⊢
        obtain ⟨a, b, c⟩ := parse_wrong r _ _ h
        exact ⟨a, by omega, by simp; omega⟩
    · rw [parse_bad h1]; exact ⟨rfl, by simp, by simp⟩
theorem parse_right : ∀ (ls : List (List UInt8)) (i : Nat) (acc : List DoE), (parseE ls i acc).2.2 = 0 → (parseE ls i acc).2.1 = 0
  | [], i, acc, h => rfl
  | s :: r, i, acc, h => by
    by_cases h1 : (lineE (wordsOf s)).2.2 = 0
    · by_cases h2 : 4096 < acc.length + (lineE (wordsOf s)).2.1
      · rw [parse_full h1 h2] at h; exact absurd h (by simp)
      · rw [parse_next h1 h2] at h ⊢
        exact parse_right r _ _ h
    · rw [parse_bad h1] at h; exact absurd h h1
end Go.Proofs.YtmjljoaakdocaaaGreatDoor
/- Things to do as a text, plain (chapter 21). No program in sight. -/
namespace Go.Proofs.YtmjljoaakdocaaaGreatDoor
open Go

def manyI (k : Int) : Nat := if k = 1 then 2 else if k = 2 then 0 else 1
def toldE (d : DoE) : DoE := ⟨d.what, if manyI d.what < 1 then 0 else d.a, if manyI d.what < 2 then 0 else d.b⟩
def mayE (d : DoE) : Bool := decide (0 ≤ d.what) && decide (d.what ≤ 3) && decide (0 ≤ (toldE d).a) && decide ((toldE d).a ≤ 4095) && decide (0 ≤ (toldE d).b) && decide ((toldE d).b ≤ 4095)
def sameD (d e : DoE) : Bool := decide ((toldE d).what = (toldE e).what) && decide ((toldE d).a = (toldE e).a) && decide ((toldE d).b = (toldE e).b)
def nameI (k : Int) : List UInt8 := if k = 0 then [115, 116, 101, 112] else if k = 1 then [100, 101, 108, 105, 118, 101, 114] else if k = 2 then [114, 111, 117, 110, 100] else [99, 97, 110, 99, 101, 108]
def numT (n : Int) : List UInt8 := Lib.decDigits n.toNat
def textE (d : DoE) : List UInt8 := nameI d.what ++ (if 0 < manyI d.what then 32 :: numT d.a else []) ++ (if 1 < manyI d.what then 32 :: numT d.b else [])
def rowT (d : DoE) (n : Nat) : List UInt8 := textE d ++ (if 1 < n then 32 :: 120 :: numT n else []) ++ [10]
def rowsGo : Nat → List DoE → List UInt8
  | _, [] => []
  | n, d :: r => match r with
    | [] => rowT d (n + 1)
    | e :: r' => if n + 1 < 4095 ∧ sameD e d = true then rowsGo (n + 1) (e :: r') else rowT d (n + 1) ++ rowsGo 0 (e :: r')
def printE (l : List DoE) : List UInt8 × Int := if l.all mayE = true then (if l.length ≤ 4096 then (rowsGo 0 l, 0) else ([], 11)) else ([], 10)
def runD (d : DoE) : Nat → List DoE → Nat
  | 0, _ => 0
  | _, [] => 0
  | m + 1, e :: r => if sameD e d = true then runD d m r + 1 else 0
end Go.Proofs.YtmjljoaakdocaaaGreatDoor
