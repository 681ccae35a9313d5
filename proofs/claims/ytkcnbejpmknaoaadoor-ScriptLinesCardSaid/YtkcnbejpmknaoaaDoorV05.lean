import Derived.Test.YtkcnbejpmknaoaaDoorV03
import Derived.Lib.BufferWrite
import Derived.Lib.UnsafeStr
import Derived.Lib.AppendStr
import Derived.Test.YtkcnbejpmknaoaaDoorProg
import Derived.Test.YtkcnbejpmknaoaaDoorV06
import Derived.WalkKit
import Derived.WalkSpells
import Derived.WalkLawsBesides
import Derived.Lib.IfaceEq
import Derived.Laws.DeepNot64
/- Operations on bytes and runes of strings as laws: append(bytes, s..), copy(bytes, s), unsafe.String, a range over a string. Over any program. -/
namespace Go.Proofs.YtkcnbejpmknaoaaDoor
open Go
def bcell (b : UInt8) : List Value := [.int .u8 b.toNat]
theorem bcells : ∀ x, (bcell x).length = 1 := fun _ => rfl
end Go.Proofs.YtkcnbejpmknaoaaDoor
namespace Go.Proofs.YtkcnbejpmknaoaaDoor.Mem
open Go Go.RowKit Reg

/-! ### What an operation draws -/
theorem ask_drawn {α : Type} : ∀ (x : Ask α) (w : World), w.drawn ≤ (w.ask x).2.drawn
  | .done a, w => Nat.le_refl _
  | .ask what range k, w => by
    unfold World.ask
    simp only
    split
    · exact ask_drawn _ w
    · exact Nat.le_trans (Nat.le_succ _) (ask_drawn (k _) { w with drawn := w.drawn + 1 })
theorem sys_drawn (w : World) (c : Sys) : w.drawn ≤ (w.sys c).2.drawn := by
  have h := ask_drawn (Kernel.perform c w.os) w
  unfold World.sys
  split
  · exact Nat.le_refl _
  · rename_i e; rw [e] at h; exact h
theorem view_drawn {P : Program} {w w' : World} {at_ k : Addr} {u : TypeId} {v : Value} {b : Bool} {l : List Addr} (h : w.viewStore P at_ u k v b = .ok (w', l)) : w'.drawn = w.drawn := by
  unfold World.viewStore at h
  simp only [bind, Except.bind, pure, Except.pure] at h
  repeat' split at h
  all_goals first | cases h; rfl | cases h
theorem far_drawn {P : Program} {w w' : World} {a : Addr} {v : Value} {b : Bool} {l : List Addr} (h : w.farStore P a v b = .ok (w', l)) : w'.drawn = w.drawn := by
  unfold World.farStore at h
  repeat' split at h
  all_goals first | (rename_i e; cases h; exact view_drawn e) | cases h
theorem run_drawn {P : Program} {α : Type} : ∀ (x : Sem α) (w : World) {v : α} {w' : World}, x.run P w = .ok v w' → w.drawn ≤ w'.drawn
  | .pure a, w, v, w', h => by simp only [Sem.run, Result.ok.injEq] at h; rw [h.2]; exact Nat.le_refl _
  | .load m a k, w, v, w', h => by
    unfold Sem.run at h
    split at h
    · exact run_drawn _ w h
    · split at h
      · exact run_drawn _ w h
      · cases h
  | .store m a x k, w, v, w', h => by
    have key : ∀ (r : Result α), (match w.cell? a with
        | some _ => if w.frozen? a then Result.halt (.unsupported (.unsafePointer "a write to bytes that a string shares")) w else k.run P (w.setCell a x)
        | none => match w.farStore P a x (m == .atomic) with
          | .ok (w1, _) => k.run P w1
          | .error e => .halt e w) = r → r = .ok v w' → w.drawn ≤ w'.drawn := by
      intro r hr he
      subst hr
      split at he
      · split at he
        · cases he
        · exact run_drawn k (w.setCell _ _) he
      · split at he
        · rename_i w1 l e
          have := run_drawn k w1 he
          rw [far_drawn e] at this
          exact this
        · cases he
    cases x with
    | agg _ => simp [Sem.run] at h
    | tuple _ => simp [Sem.run] at h
    | _ => simp only [Sem.run] at h; exact key _ rfl h
  | .new o k, w, v, w', h => by unfold Sem.run at h; exact run_drawn _ { w with heap := w.heap.push o } h
  | .shape r k, w, v, w', h => by unfold Sem.run at h; exact run_drawn _ w h
  | .freeze a n k, w, v, w', h => by
    unfold Sem.run at h
    have := run_drawn k (w.freeze a n) h
    have e : (w.freeze a n).drawn = w.drawn := by unfold World.freeze; split <;> rfl
    rw [e] at this; exact this
  | .frozen a k, w, v, w', h => by unfold Sem.run at h; exact run_drawn _ w h
  | .getObj r k, w, v, w', h => by
    unfold Sem.run at h
    split at h
    · cases h
    · exact run_drawn _ w h
    · cases h
  | .setObj r o k, w, v, w', h => by
    unfold Sem.run at h
    split at h
    · cases h
    · exact run_drawn k { w with heap := w.heap.setIfInBounds r o } h
    · cases h
  | .choose q k, w, v, w', h => by
    unfold Sem.run at h
    split at h
    · exact run_drawn _ w h
    · exact Nat.le_trans (Nat.le_succ _) (run_drawn _ { w with drawn := w.drawn + 1 } h)
  | .sys c k, w, v, w', h => by unfold Sem.run at h; exact Nat.le_trans (sys_drawn w c) (run_drawn _ _ h)
  | .program k, w, v, w', h => by unfold Sem.run at h; exact run_drawn _ w h
  | .mark m k, w, v, w', h => by unfold Sem.run at h; exact run_drawn _ w h
  | .halt hh, w, v, w', h => by simp [Sem.run] at h

section
variable {P : Program} {ops : Array Oper} {rest : List Oper} {a : Act} {Q : Exit → Act → World → Prop} {d : Option Tmp} {tt : TypeId} {p : String} {af : Array Edge} {gd : Option (Nat × Bool)} {x y : Operand}
variable {G : Nat → Prop} {w0 w w' : World} {L : List Asn} {A A' : Asn} {i : Nat}

theorem flat_bytes (l : List UInt8) : flatE bcell l = Lib.byteCells l := by
  induction l with
  | nil => rfl
  | cons b l ih => rw [flatE_cons, ih]; rfl
structure ByteOf (P : Program) (T E : TypeId) : Prop where
  und : P.underlying T = some (.slice E)
  elem : P.underlying E = some (.int .u8)
  info : ∃ i, P.info? E = some i ∧ i.zero = some (.int .u8 0) ∧ i.size = 1 ∧ i.bytes = 1
theorem wps_copystr {T U E : TypeId} {R c n : Nat} {l : List UInt8} (B : ByteOf P T E) (hln : l.length = n) (S : St G w0 w L) (i : Nat) (hi : L[i]? = some (Own E bcell 1 (.slice (some ⟨R, 0, none⟩) n c) l)) (m : List UInt8) (hm : m.length = n) (hx : a.eval x = .slice (some ⟨R, 0, none⟩) n c) (hy : a.eval y = strV m)
    (next : ∀ w', St G w0 w' (L.set i (Own E bcell 1 (.slice (some ⟨R, 0, none⟩) n c) m)) → wpList P ops Q rest (a.put d (.int .i64 m.length)) w') (hgd : gOk gd ops a = true := by with_unfolding_all rfl) :
    wpList P ops Q ({ dst := d, op := .call { callee := .builtin .copy, args := #[x, y], argTypes := #[T, U] }, type := tt, pos := p, after := af, guard := gd } :: rest) a w := by
  subst hln
  obtain ⟨F0, h0, hF0⟩ := S.get hi
  obtain ⟨ti, hti, hz, hs1, hb1⟩ := B.info
  rcases h0.2 with ⟨e, _⟩ | ⟨g, cap, cur, e, hbg, hg, hnc, hcm, hcs, htake⟩
  · cases e
  · simp only [Value.slice.injEq, Option.some.injEq, Addr.mk.injEq] at e
    obtain ⟨⟨rfl, _⟩, _, rfl⟩ := e
    have hsz := str_size m
    have hr := Lib.run_copy_row_string (P := P) w T U tt E R 0 l.length c (str m) cur E B.und (by rw [hti]; simp [hs1]) hg (by omega) (by rw [hsz]; omega)
    rw [str_data, hsz] at hr
    have hown : Owns E bcell 1 0 (w.setRow R (cur.toList.take 0 ++ Lib.byteCells m ++ cur.toList.drop (0 + m.length)).toArray) (.slice (some ⟨R, 0, none⟩) l.length c) m := by
      refine ⟨flatE_length bcells m, .inr ⟨R, c, _, by rw [hm], Nat.zero_le _, setRow_heap w R cur _ E _ hg, by omega, hcm, ?_, ?_⟩⟩
      · simp only [List.size_toArray, List.length_append, List.length_take, List.length_drop, Array.length_toList, Lib.byteCells_length]; omega
      · simp only [List.take_zero, List.nil_append, Nat.mul_one]
        rw [flat_bytes, show m.length = (Lib.byteCells m).length from (Lib.byteCells_length m).symm]
        exact List.take_left
    have hK : Keep (fun b => b = R) w (w.setRow R (cur.toList.take 0 ++ Lib.byteCells m ++ cur.toList.drop (0 + m.length)).toArray) :=
      ⟨rfl, rfl, rfl, by simp, fun b _ hb => setRow_other w R b _ hb, Nat.le_refl _⟩
    have S' := S.step (A' := Own E bcell 1 (.slice (some ⟨R, 0, none⟩) l.length c) m) hi rfl fun F hF => ⟨F, hK.mono (fun x _ h e => h ((hF.2 x).2 (by simp [Value.ownBlock, e]))), ⟨hown, hF.2⟩, fun b hb => .inl hb⟩
    refine wpList_ok hgd fun _ hK' => ?_
    unfold Oper.wp execOp
    have hr2 : (Builtin.copy_ #[T, U] tt #[.slice (some ⟨R, 0, none⟩) l.length c, strV m]).run P w = .ok (.int .i64 m.length) (w.setRow R (cur.toList.take 0 ++ Lib.byteCells m ++ cur.toList.drop (0 + m.length)).toArray) := hr
    simp only [resolve, invoke, builtin, Sem.run_bind, Sem.run_pure, Result.andThen_ok, List.map_toArray, List.map_cons, List.map_nil, hx, hy, hr2]
    exact hK' _ _ (next _ S')
theorem wps_unsafestr {PT IT E : TypeId} {R c : Nat} {l : List UInt8} (hp : P.underlying PT = some (.pointer E)) (hc : P.cellsOf E = 1) (S : St G w0 w (Own E bcell 1 (.slice (some ⟨R, 0, none⟩) l.length c) l :: L)) (h0 : l ≠ [])
    (hx : a.eval x = .pointer (some ⟨R, 0, none⟩)) (hy : a.eval y = .int .i64 l.length) (hn : l.length ≤ 9223372036854775807)
    (next : ∀ w', St G w0 w' L → wpList P ops Q rest (a.put d (strV l)) w') (hgd : gOk gd ops a = true := by with_unfolding_all rfl) :
    wpList P ops Q ({ dst := d, op := .call { callee := .builtin .unsafeString, args := #[x, y], argTypes := #[PT, IT] }, type := tt, pos := p, after := af, guard := gd } :: rest) a w := by
  obtain ⟨Fs, hf, hd⟩ := S.ex
  obtain ⟨⟨hO, hF⟩, hnew⟩ := hf 0 _ rfl
  rcases hO.2 with ⟨e, _⟩ | ⟨g, cap, cur, e, hbg, hg, hnc, hcm, hcs, htake⟩
  · cases e
  · simp only [Value.slice.injEq, Option.some.injEq, Addr.mk.injEq] at e
    obtain ⟨⟨rfl, _⟩, _, rfl⟩ := e
    have hsh : w.shape? R = some (E, cur.size) := by simp [World.shape?, hg]
    have hcells := World.ownsRow.cells (show w.ownsRow 0 E 1 _ _ _ from hO) (g := R) rfl
    have hr := Lib.run_unsafeString_row (P := P) w PT IT tt E hp hc R cur.size hsh l h0 (by rw [hcs]; omega) hn (fun j x hj => hcells j _ (by rw [flat_bytes]; simp [Lib.byteCells, hj]))
    have hblk : ∀ b, b ≠ R → (w.freeze ⟨R, 0, none⟩ l.length).heap[b]? = w.heap[b]? := fun b hb => by
      unfold World.freeze
      split
      · rfl
      · simp only [Array.getElem?_modify]; rw [if_neg (fun e => hb e.symm)]
    have hK : Keep (fun b => b = R) w (w.freeze ⟨R, 0, none⟩ l.length) := by
      refine ⟨?_, ?_, ?_, ?_, fun b _ hb => hblk b hb, run_drawn _ _ hr⟩
      all_goals (unfold World.freeze; split <;> first | rfl | simp)
    have hRF : Fs 0 R := (hF R).2 rfl
    have hRn := hnew rfl R hRF
    have S' : St G w0 (w.freeze ⟨R, 0, none⟩ l.length) L := by
      refine ⟨S.keep.trans hK (fun x hx hn => ⟨hn, fun e => ?_⟩), fun j => Fs (j + 1), fun j B hj => ⟨B.loc (hf (j + 1) B hj).1 (fun b hb => hblk b fun e => ?_), (hf (j + 1) B hj).2⟩, fun j k B C hjk hj hk => hd (j + 1) (k + 1) B C (by omega) hj hk⟩
      · subst e; rcases hRn with h | h
        · exact hn h
        · omega
      · subst e
        rcases hd 0 (j + 1) _ B (by omega) rfl hj with ⟨e1, _⟩ | e1
        · cases e1
        · exact e1 b hRF hb
    refine wpList_ok hgd fun _ hK' => ?_
    unfold Oper.wp execOp
    simp only [resolve, invoke, builtin, Sem.run_bind, Sem.run_pure, Result.andThen_ok, List.map_toArray, List.map_cons, List.map_nil, hx, hy, hr]
    exact hK' _ _ (next _ S')
/-! ### A range over a string -/
def IterA (b : Nat) (s : ByteArray) (pos : Nat) : Asn where
  sh := false
  at_ w F := w.heap[b]? = some (.stringIter s pos) ∧ ∀ x, F x ↔ x = b
  loc h hb := ⟨(hb b ((h.2 b).2 rfl)).trans h.1, h.2⟩
  lt h b hb := by rw [(h.2 b).1 hb]; exact (Array.getElem?_eq_some_iff.1 h.1).1
theorem wps_rangestr {T : TypeId} {s : ByteArray} (hT : P.underlying T = some .string) (S : St G w0 w L) (hx : a.eval x = .string s)
    (next : ∀ b w', St G w0 w' (IterA b s 0 :: L) → wpList P ops Q rest (a.put d (.pointer (some ⟨b, 0, none⟩))) w') (hgd : gOk gd ops a = true := by with_unfolding_all rfl) :
    wpList P ops Q ({ dst := d, op := .range T x, type := tt, pos := p, after := af, guard := gd } :: rest) a w :=
  wpList_ok hgd fun K hK => by
    have hr := run_range_string (P := P) w T s hT
    unfold Oper.wp execOp
    simp only [hx, hr, Sem.run_bind, Sem.run_pure, Result.andThen_ok]
    refine hK _ _ (next _ _ (S.grow (F := fun x => x = w.heap.size) (keep_alloc w _) ⟨World.iter_heap w s 0, fun _ => Iff.rfl⟩ (fun _ e => Nat.le_of_eq e.symm)))
theorem wps_next {s : ByteArray} {b pos : Nat} (S : St G w0 w L) (i : Nat) (hi : L[i]? = some (IterA b s pos)) (h : pos < s.size) (hx : a.eval x = .pointer (some ⟨b, 0, none⟩))
    (next : ∀ w', St G w0 w' (L.set i (IterA b s (pos + (Utf8.decode s pos).2))) → wpList P ops Q rest (a.put d (.tuple #[.bool true, .int .i64 pos, .int .i32 (Utf8.decode s pos).1])) w') (hgd : gOk gd ops a = true := by with_unfolding_all rfl) :
    wpList P ops Q ({ dst := d, op := .next x true, type := tt, pos := p, after := af, guard := gd } :: rest) a w := by
  obtain ⟨F0, h0, hF0⟩ := S.get hi
  have hlt := (Array.getElem?_eq_some_iff.1 h0).1
  have hr : (Instr.next (.pointer (some ⟨b, 0, none⟩)) true tt).run P w = .ok (.tuple #[.bool true, .int .i64 pos, .int .i32 (Utf8.decode s pos).1]) { w with heap := w.heap.setIfInBounds b (.stringIter s (pos + (Utf8.decode s pos).2)) } := by
    simp only [Instr.next, getObj, setObj, Sem.run_bind, Sem.run, h0, Result.andThen, h, if_true]
    simp [goInt]
  have hK : Keep (fun x => x = b) w { w with heap := w.heap.setIfInBounds b (.stringIter s (pos + (Utf8.decode s pos).2)) } :=
    ⟨rfl, rfl, rfl, by simp, fun x _ hx => by simp only; rw [Array.getElem?_setIfInBounds_ne (Ne.symm hx)], Nat.le_refl _⟩
  have S' := S.step (A' := IterA b s (pos + (Utf8.decode s pos).2)) hi rfl fun F hF => ⟨F, hK.mono (fun x _ h e => h ((hF.2 x).2 e)), ⟨by simp only; rw [Array.getElem?_setIfInBounds_self_of_lt hlt], hF.2⟩, fun _ h => .inl h⟩
  refine wpList_ok hgd fun K hK' => ?_
  unfold Oper.wp execOp
  simp only [hx, hr, Sem.run_bind, Sem.run_pure, Result.andThen_ok]
  exact hK' _ _ (next _ S')
theorem wps_nextend {s : ByteArray} {b pos : Nat} (S : St G w0 w L) (i : Nat) (hi : L[i]? = some (IterA b s pos)) (h : ¬ pos < s.size) (hx : a.eval x = .pointer (some ⟨b, 0, none⟩))
    (next : wpList P ops Q rest (a.put d (.tuple #[.bool false])) w) (hgd : gOk gd ops a = true := by with_unfolding_all rfl) :
    wpList P ops Q ({ dst := d, op := .next x true, type := tt, pos := p, after := af, guard := gd } :: rest) a w := by
  obtain ⟨F0, h0, hF0⟩ := S.get hi
  have hr : (Instr.next (.pointer (some ⟨b, 0, none⟩)) true tt).run P w = .ok (.tuple #[.bool false]) w := by
    simp [Instr.next, getObj, Sem.run, h0, h]
  refine wpList_ok hgd fun K hK' => ?_
  unfold Oper.wp execOp
  simp only [hx, hr, Sem.run_bind, Sem.run_pure, Result.andThen_ok]
  exact hK' _ _ next
theorem wps_makecap {α : Type} {enc : α → List Value} {k : Nat} {T E : TypeId} (hT : P.underlying T = some (.slice E)) (x0 : α) (hz : zeroIs P E k (enc x0)) (S : St G w0 w L) (n : Nat) (hx : a.eval x = .int .i64 0) (hy : a.eval y = .int .i64 n) (hn : n ≤ 4294967296)
    (next : ∀ b w', St G w0 w' (Own E enc k (.slice (some ⟨b, 0, none⟩) 0 n) [] :: L) → wpList P ops Q rest (a.put d (.slice (some ⟨b, 0, none⟩) 0 n)) w') (hgd : gOk gd ops a = true := by with_unfolding_all rfl) :
    wpList P ops Q ({ dst := d, op := .makeSlice T x y, type := tt, pos := p, after := af, guard := gd } :: rest) a w :=
  wpList_ok hgd fun K hK => by
    obtain ⟨i, z, h1, h2, h3, h4, h5⟩ := hz
    have hb : i.bytes * n ≤ 32768 * 4294967296 := Nat.mul_le_mul h5 hn
    have hb' : (i.bytes : Int) * (n : Int) ≤ 281474976710656 := by
      have : ((i.bytes * n : Nat) : Int) ≤ 281474976710656 := by omega
      rwa [Int.natCast_mul] at this
    have hr := run_make (P := P) w T E i z hT h1 h2 .i64 .i64 0 n (by omega) (by omega) hb' (by omega)
    simp only [Int.toNat_natCast, Int.toNat_zero] at hr
    unfold Oper.wp execOp
    simp only [hx, hy, hr, Sem.run_bind, Sem.run_pure, Result.andThen_ok]
    refine hK _ _ (next _ _ (S.grow (F := fun x => x = w.heap.size) (keep_alloc w _) ⟨?_, fun x => by simp [Value.ownBlock, eq_comm]⟩ (fun _ e => Nat.le_of_eq e.symm)))
    refine ⟨by simp [flatE], .inr ⟨w.heap.size, n, madeCells z.cells (n * i.size), by simp, Nat.zero_le _, heap_alloc_new w _, by simp, by simp [maxLen]; omega, by rw [size_madeCells, h3], by simp [flatE]⟩⟩
end
end Go.Proofs.YtkcnbejpmknaoaaDoor.Mem
/- The walks of the library's Clone, rangeError, toError, Atoi. -/
namespace Go.Proofs.YtkcnbejpmknaoaaDoor
open Go Go.RowKit Reg Mem

set_option maxRecDepth 100000 in
theorem byteOf : ByteOf Tryd.prog 50 5 := ⟨Tryd.underlying50, Tryd.underlying5, ⟨_, rfl, by kernel_rfl, by kernel_rfl, by kernel_rfl⟩⟩
set_option maxRecDepth 100000 in
theorem zero_Byte : zeroIs Tryd.prog 5 1 (bcell 0) := ⟨_, .int .u8 0, rfl, by kernel_rfl, by kernel_rfl, rfl, by decide⟩
structure LibVars (tE : TypeId) (pE : Value) (w : World) : Prop where
  size : 9 ≤ w.heap.size
  maxLen : ∃ m, w.cell? ⟨1, 0, none⟩ = some (.int .i64 m)
  range : w.cell? ⟨6, 0, none⟩ = some (.iface tE pE)
  pow : Lib.TabIs Tryd.prog w "internal/strconv.uint64pow10" .u64 Lib.pow10Tab
theorem gPow : Tryd.prog.globalNamed "internal/strconv.uint64pow10" = some 2 := by kernel_rfl
def LibA (tE : TypeId) (pE : Value) : Asn where
  sh := true
  at_ w F := LibVars tE pE w ∧ ∀ b, F b ↔ b < 9
  loc {w w' F} h hb := by
    refine ⟨?_, h.2⟩
    have h8 := hb 8 ((h.2 8).2 (by omega))
    have hs : 8 < w'.heap.size := by
      have hh : 8 < w.heap.size := by have := h.1.size; omega
      rw [Array.getElem?_eq_getElem hh] at h8
      exact (Array.getElem?_eq_some_iff.1 h8).1
    have hq : ∀ b, b < 9 → w'.heap[b]? = w.heap[b]? := fun b hb9 => hb b ((h.2 b).2 hb9)
    have h0 := h.1
    refine ⟨by omega, ?_, ?_, ?_⟩
    · obtain ⟨m, hm⟩ := h0.maxLen
      exact ⟨m, (World.cell?_of_block (w := w) (a := ⟨1, 0, none⟩) (hq 1 (by omega))).trans hm⟩
    · exact (World.cell?_of_block (w := w) (a := ⟨6, 0, none⟩) (hq 6 (by omega))).trans h0.range
    · have h4 := h0.pow
      unfold Lib.TabIs at *
      rw [← h4]
      simp only [World.var?, gPow, Option.bind_some, hq 2 (by omega)]
  lt h b hb := by have := (h.2 b).1 hb; have := h.1.size; omega
set_option maxRecDepth 100000 in
set_option maxHeartbeats 4000000 in
theorem clone_calls (l : List UInt8) (w : World) (hn : l.length ≤ 4294967296) : Calls Tryd.prog 76 #[strV l] w fun e w' => e = .returned (strV l) ∧ Below w.heap.size w w' := by
  have S := St.init (fun _ => False) w
  by_cases h0 : l = []
  · subst h0
    go_enter Tryd.func76, Tryd.ntmps76
    go_wp2_with first | ((with_reducible apply wps_slen (T := 9)); (case hx => rfl); (case hT => exact Tryd.underlying9)) | ((with_reducible refine tot_done ?ht ?_); (case ht => kernel_rfl))
    go_ret
    exact ⟨rfl, S.below⟩
  · have hl : 0 < l.length := List.length_pos_iff.2 h0
    have h1 : ((l.length : Int) == 0) = false := by rw [beq_eq_false_iff_ne]; omega
    have H0 := Lib.hid h0
    clear h0
    go_enter Tryd.func76, Tryd.ntmps76
    go_wp2_with first | ((with_reducible apply wps_slen (T := 9)); (case hx => rfl); (case hT => exact Tryd.underlying9)) | ((with_reducible apply wps_make bcells Tryd.underlying50 _ zero_Byte S (n := l.length)); (case hx | hy => rfl); (case hn => omega); clear S; intro bz wz S) | ((with_reducible apply wps_copystr byteOf List.length_replicate S 0); (case hi | hx | hy | hm => rfl); clear S; intro wz S; simp only [List.set_cons_zero] at S) | ((with_reducible apply wps_unsafestr (l := l) (PT := 76) (E := 5) Tryd.underlying76 (by kernel_rfl) S H0.out); (case hx | hy => rfl); (case hn => omega); clear S; intro wz S) | ((with_reducible refine tot_done ?ht ?_); (case ht => kernel_rfl))
    go_ret
    exact ⟨rfl, S.below⟩
end Go.Proofs.YtkcnbejpmknaoaaDoor
namespace Go.Proofs.YtkcnbejpmknaoaaDoor.Mem
open Go Go.RowKit Reg
section
variable {ops : Array Oper} {rest : List Oper} {a : Act} {Q : Exit → Act → World → Prop} {d : Option Tmp} {tt : TypeId} {p : String} {af : Array Edge} {gd : Option (Nat × Bool)} {x y : Operand}
variable {G : Nat → Prop} {w0 w : World} {L : List Asn}
theorem wps_loadlib {tE : TypeId} {pE : Value} (S : St G w0 w L) (i : Nat) (hi : L[i]? = some (LibA tE pE)) {T : TypeId} (hx : a.eval x = .pointer (some ⟨6, 0, none⟩)) (hT : leafB Tryd.prog T = true)
    (next : wpList Tryd.prog ops Q rest (a.put d (.iface tE pE)) w) (hgd : gOk gd ops a = true := by with_unfolding_all rfl) : wpList Tryd.prog ops Q ({ dst := d, op := .load T x, type := tt, pos := p, after := af, guard := gd } :: rest) a w :=
  wpList_ok hgd fun K hK => by
    obtain ⟨F, hF⟩ := S.get hi
    unfold Oper.wp execOp
    simp only [Instr.loadAt, hx, Instr.sureAddr, Sem.run_bind, Sem.run_pure, Result.andThen_ok, run_load_leaf hT hF.1.range]
    exact hK _ _ next
end
end Go.Proofs.YtkcnbejpmknaoaaDoor.Mem
namespace Go.Proofs.YtkcnbejpmknaoaaDoor
open Go Go.RowKit Reg Mem
set_option maxRecDepth 100000 in
set_option maxHeartbeats 4000000 in
theorem ranger_calls (tE : TypeId) (pE : Value) (f l : List UInt8) (w : World) (F : Nat → Prop) (h : (LibA tE pE).at_ w F) (hn : l.length ≤ 4294967296) : Calls Tryd.prog 70 #[strV f, strV l] w fun e w' => ∃ N, e = .returned (.pointer (some ⟨N, 0, none⟩)) ∧ Below w.heap.size w w' := by
  have S : St (fun _ => False) w w [LibA tE pE] := (St.init _ w).share rfl rfl h
  clear h
  have HC : Hid (∀ w : World, Calls Tryd.prog 76 #[.string (str l)] w fun e w' => e = .returned (.string (str l)) ∧ Below w.heap.size w w') := Lib.hid fun w => clone_calls l w hn
  show Calls Tryd.prog 70 #[.string (str f), .string (str l)] w _
  generalize str l = sl at HC ⊢
  generalize str f = sf
  go_enter Tryd.func70, Tryd.ntmps70
  go_upto_region 1 with first | ((with_reducible refine tot_done ?ht ?_); (case ht => kernel_rfl)) | ((with_reducible apply wps_text S); (case hm => kernel_rfl); (case hB => decide +kernel); clear S; intro wz S) | ((with_reducible apply wps_boxa S); (case hx => rfl); clear S; intro bz wz S) | ((with_reducible apply wps_box1 (v := .int _ _) S); (case hx | h1 => rfl); clear S; intro bz wz S) | ((with_reducible apply wps_box1 (v := .bool _) S); (case hx | h1 => rfl); clear S; intro bz wz S) | ((with_reducible apply wps_box1 (v := .slice _ _ _) S); (case hx | h1 => rfl); clear S; intro bz wz S) | ((with_reducible apply wps_box1 (v := .pointer _) S); (case hx | h1 => rfl); clear S; intro bz wz S) | ((with_reducible apply wps_box1 (v := .map _) S); (case hx | h1 => rfl); clear S; intro bz wz S) | ((with_reducible apply wps_box1 (v := .string _) S); (case hx | h1 => rfl); clear S; intro bz wz S) | ((with_reducible apply wps_box1 (v := .func _ _ _) S); (case hx | h1 => rfl); clear S; intro bz wz S) | ((with_reducible apply wps_load S 0); (case hx | hi | hu => rfl); (case hT => decide +kernel))
  (refine wp_region_w (soft := [0, 1, 2, 3, 4]) S ?hm ?hB ?_); (case hm => kernel_rfl); (case hB => decide +kernel); clear S
  iterate 5
    (with_reducible apply softs_cons)
    (case hw =>
      (with_reducible apply soft_of); (case hi => rfl)
      intro T wz S
      simp only [List.cons_append, List.nil_append] at S
      go_wp2_with first | (go_at_call 76; refine Calls.mono (HC.out _) ?_; rintro e wz ⟨rfl, hE⟩; replace S := S.ext (Keep.of_below hE); clear hE) | ((with_reducible apply wps_loadlib S 0); (case hi | hx => rfl); (case hT => decide +kernel)) | ((with_reducible apply wps_boxa (E := 121) S); (case hx => rfl); clear S; intro bN wz S) | ((with_reducible refine tot_done ?ht ?_); (case ht => kernel_rfl)) | ((with_reducible apply wps_boxa S); (case hx => rfl); clear S; intro bz wz S) | ((with_reducible apply wps_box1 (v := .int _ _) S); (case hx | h1 => rfl); clear S; intro bz wz S) | ((with_reducible apply wps_box1 (v := .bool _) S); (case hx | h1 => rfl); clear S; intro bz wz S) | ((with_reducible apply wps_box1 (v := .slice _ _ _) S); (case hx | h1 => rfl); clear S; intro bz wz S) | ((with_reducible apply wps_box1 (v := .pointer _) S); (case hx | h1 => rfl); clear S; intro bz wz S) | ((with_reducible apply wps_box1 (v := .map _) S); (case hx | h1 => rfl); clear S; intro bz wz S) | ((with_reducible apply wps_box1 (v := .string _) S); (case hx | h1 => rfl); clear S; intro bz wz S) | ((with_reducible apply wps_box1 (v := .func _ _ _) S); (case hx | h1 => rfl); clear S; intro bz wz S) | ((with_reducible apply wps_load S 0); (case hx | hi | hu => rfl); (case hT => decide +kernel))
      exact ⟨rfl, S⟩)
    (case hs => exact ⟨_, rfl, by kernel_rfl⟩)
  refine softs_nil ?_
  (with_reducible apply W_hard1 (i := 5)); (case hn => rfl); (case hr => decide +kernel)
  intro wz S
  (with_reducible apply hard_of); (case hi => rfl)
  simp only [List.cons_append, List.nil_append] at S
  go_wp2_with first | (go_at_call 76; refine Calls.mono (HC.out _) ?_; rintro e wz ⟨rfl, hE⟩; replace S := S.ext (Keep.of_below hE); clear hE) | ((with_reducible apply wps_loadlib S 0); (case hi | hx => rfl); (case hT => decide +kernel)) | ((with_reducible apply wps_boxa (E := 121) S); (case hx => rfl); clear S; intro bN wz S) | ((with_reducible refine tot_done ?ht ?_); (case ht => kernel_rfl)) | ((with_reducible apply wps_boxa S); (case hx => rfl); clear S; intro bz wz S) | ((with_reducible apply wps_box1 (v := .int _ _) S); (case hx | h1 => rfl); clear S; intro bz wz S) | ((with_reducible apply wps_box1 (v := .bool _) S); (case hx | h1 => rfl); clear S; intro bz wz S) | ((with_reducible apply wps_box1 (v := .slice _ _ _) S); (case hx | h1 => rfl); clear S; intro bz wz S) | ((with_reducible apply wps_box1 (v := .pointer _) S); (case hx | h1 => rfl); clear S; intro bz wz S) | ((with_reducible apply wps_box1 (v := .map _) S); (case hx | h1 => rfl); clear S; intro bz wz S) | ((with_reducible apply wps_box1 (v := .string _) S); (case hx | h1 => rfl); clear S; intro bz wz S) | ((with_reducible apply wps_box1 (v := .func _ _ _) S); (case hx | h1 => rfl); clear S; intro bz wz S) | ((with_reducible apply wps_load S 0); (case hx | hi | hu => rfl); (case hT => decide +kernel))
  refine ⟨_, S.pick [1, 0] rfl, ?_⟩
  clear S
  (refine W_mid (f := 0) (soft := [6]) rfl ?hB ?_); (case hB => decide +kernel)
  iterate 1
    (with_reducible apply softs_cons)
    (case hw =>
      (with_reducible apply soft_of); (case hi => rfl)
      intro T wz S
      simp only [List.cons_append, List.nil_append] at S
      go_wp2_with first | (go_at_call 76; refine Calls.mono (HC.out _) ?_; rintro e wz ⟨rfl, hE⟩; replace S := S.ext (Keep.of_below hE); clear hE) | ((with_reducible apply wps_loadlib S 0); (case hi | hx => rfl); (case hT => decide +kernel)) | ((with_reducible apply wps_boxa (E := 121) S); (case hx => rfl); clear S; intro bN wz S) | ((with_reducible refine tot_done ?ht ?_); (case ht => kernel_rfl)) | ((with_reducible apply wps_boxa S); (case hx => rfl); clear S; intro bz wz S) | ((with_reducible apply wps_box1 (v := .int _ _) S); (case hx | h1 => rfl); clear S; intro bz wz S) | ((with_reducible apply wps_box1 (v := .bool _) S); (case hx | h1 => rfl); clear S; intro bz wz S) | ((with_reducible apply wps_box1 (v := .slice _ _ _) S); (case hx | h1 => rfl); clear S; intro bz wz S) | ((with_reducible apply wps_box1 (v := .pointer _) S); (case hx | h1 => rfl); clear S; intro bz wz S) | ((with_reducible apply wps_box1 (v := .map _) S); (case hx | h1 => rfl); clear S; intro bz wz S) | ((with_reducible apply wps_box1 (v := .string _) S); (case hx | h1 => rfl); clear S; intro bz wz S) | ((with_reducible apply wps_box1 (v := .func _ _ _) S); (case hx | h1 => rfl); clear S; intro bz wz S) | ((with_reducible apply wps_load S 0); (case hx | hi | hu => rfl); (case hT => decide +kernel))
      exact ⟨rfl, S⟩)
    (case hs => exact ⟨_, rfl, by kernel_rfl⟩)
  refine softs_nil ?_
  (with_reducible apply W_done); (case hn => rfl); (case hr => decide +kernel)
  intro wz S
  repeat (first | simp only at S | simp only [pick] at S | simp only [nth] at S | simp only [List.set_cons_succ] at S | simp only [List.set_cons_zero] at S | simp only [List.setIfInBounds_toArray] at S | simp only [setAll] at S | simp only [List.cons_append] at S | simp only [List.nil_append] at S | simp only [List.append_nil] at S)
  go_wp2_with first | ((with_reducible refine tot_done ?ht ?_); (case ht => kernel_rfl)) | ((with_reducible apply wps_text S); (case hm => kernel_rfl); (case hB => decide +kernel); clear S; intro wz S) | ((with_reducible apply wps_boxa S); (case hx => rfl); clear S; intro bz wz S) | ((with_reducible apply wps_box1 (v := .int _ _) S); (case hx | h1 => rfl); clear S; intro bz wz S) | ((with_reducible apply wps_box1 (v := .bool _) S); (case hx | h1 => rfl); clear S; intro bz wz S) | ((with_reducible apply wps_box1 (v := .slice _ _ _) S); (case hx | h1 => rfl); clear S; intro bz wz S) | ((with_reducible apply wps_box1 (v := .pointer _) S); (case hx | h1 => rfl); clear S; intro bz wz S) | ((with_reducible apply wps_box1 (v := .map _) S); (case hx | h1 => rfl); clear S; intro bz wz S) | ((with_reducible apply wps_box1 (v := .string _) S); (case hx | h1 => rfl); clear S; intro bz wz S) | ((with_reducible apply wps_box1 (v := .func _ _ _) S); (case hx | h1 => rfl); clear S; intro bz wz S) | ((with_reducible apply wps_load S 0); (case hx | hi | hu => rfl); (case hT => decide +kernel))
  go_ret
  exact ⟨_, rfl, S.below⟩
set_option maxRecDepth 100000 in
set_option maxHeartbeats 4000000 in
theorem toerr_calls (tE : TypeId) (pE : Value) (f l : List UInt8) (b c : Int) (w : World) (F : Nat → Prop) (h : (LibA tE pE).at_ w F) (hn : l.length ≤ 4294967296) : Calls Tryd.prog 60 #[strV f, strV l, .int .i64 b, .int .i64 c, .iface 110 (.int .i64 1)] w fun e w' => ∃ N, e = .returned (.iface 113 (.pointer (some ⟨N, 0, none⟩))) ∧ Below w.heap.size w w' := by
  have S : St (fun _ => False) w w [LibA tE pE] := (St.init _ w).share rfl rfl h
  clear h
  have hq12 : ∀ W, (binOp .eql 55 (.iface 110 (.int .i64 1)) (.iface 110 (.int .i64 2))).run Tryd.prog W = .ok (.bool false) W := fun W => Lib.run_eql_iface_int W 1 2 Tryd.underlying55 (by kernel_rfl) Tryd.underlying110
  have hq11 : ∀ W, (binOp .eql 55 (.iface 110 (.int .i64 1)) (.iface 110 (.int .i64 1))).run Tryd.prog W = .ok (.bool true) W := fun W => Lib.run_eql_iface_int W 1 1 Tryd.underlying55 (by kernel_rfl) Tryd.underlying110
  go_enter Tryd.func60, Tryd.ntmps60
  go_wp2_with first | (go_at_call 70; refine Calls.mono (ranger_calls tE pE _ _ _ _ (S.get (i := 0) rfl).choose_spec hn) ?_; rintro e wz ⟨N, rfl, hE⟩; replace S := S.ext (Keep.of_below hE); clear hE) | ((with_reducible refine tot_done ?ht ?_); (case ht => kernel_rfl))
  go_ret
  exact ⟨_, rfl, S.below⟩
theorem heap_freeze (w : World) (a : Addr) (n k : Nat) (h : k ≠ a.block) : (w.freeze a n).heap[k]? = w.heap[k]? := by
  unfold World.freeze
  split
  · rfl
  · simp only [Array.getElem?_modify]
    rw [if_neg (fun e => h e.symm)]
theorem size_freeze (w : World) (a : Addr) (n : Nat) : (w.freeze a n).heap.size = w.heap.size := by
  unfold World.freeze; split <;> simp
theorem bytes_below (w : World) (e : TypeId) (s : ByteArray) : Below w.heap.size w (Lib.bytesWorld w e s) := by
  unfold Lib.bytesWorld
  refine ⟨?_, ?_, ?_, ?_, fun k hk => ?_, ?_⟩
  · unfold World.freeze; split <;> rfl
  · unfold World.freeze; split <;> rfl
  · unfold World.freeze; split <;> rfl
  · rw [size_freeze]; simp
  · rw [heap_freeze _ _ _ _ (by simp only; omega)]; exact heap_alloc_old w.drew _ hk
  · unfold World.freeze; split <;> exact Nat.le_succ _
set_option maxRecDepth 100000 in
set_option maxHeartbeats 4000000 in
theorem atoi_ok (l : List UInt8) (v : Nat) (w : World) (hn : l.length ≤ 4294967296) (hv : Lib.atoiAll l = .ok (v : Int)) : Calls Tryd.prog 49 #[strV l] w fun e w' => e = .returned (.tuple #[.int .i64 v, .nilIface]) ∧ Below w.heap.size w w' := by
  have hc := Tryd.strconv_Atoi_ok (str l) (by rw [str_size]; omega) v (by rw [str_data]; exact hv) w
  refine hc.mono fun e w' ⟨he, hw⟩ => ⟨he, ?_⟩
  rcases hw with rfl | ⟨t, rfl⟩
  · exact Below.refl _ _
  · exact bytes_below _ _ _
set_option maxRecDepth 100000 in
set_option maxHeartbeats 4000000 in
theorem atoi_range (tE : TypeId) (pE : Value) (l : List UInt8) (w : World) (F : Nat → Prop) (h : (LibA tE pE).at_ w F) (hn : l.length ≤ 4294967296) (hv : Lib.atoiAll l = .range) : Calls Tryd.prog 49 #[strV l] w fun e w' => ∃ z N, e = .returned (.tuple #[.int .i64 z, .iface 113 (.pointer (some ⟨N, 0, none⟩))]) ∧ Below w.heap.size w w' := by
  have S : St (fun _ => False) w w [LibA tE pE] := (St.init _ w).share rfl rfl h
  clear h
  have HC : Hid (∀ w : World, Calls Tryd.prog 59 #[strV l] w fun e w' => e = .returned (.tuple #[.int .i64 (Lib.atoiSat l), .iface 110 (.int .i64 1)]) ∧ Below w.heap.size w w') := Lib.hid fun w => by
    have hc := Tryd.internal_strconv_Atoi_all (str l) (by rw [str_size]; omega) w
    rw [str_data, hv] at hc
    refine hc.mono fun e w' ⟨he, hw⟩ => ⟨he, ?_⟩
    rcases hw with rfl | ⟨t, rfl⟩
    · exact Below.refl _ _
    · exact bytes_below _ _ _
  generalize Lib.atoiSat l = z at HC
  clear hv
  go_enter Tryd.func49, Tryd.ntmps49
  go_wp2_with first | (go_at_call 59; refine Calls.mono (HC.out _) ?_; rintro e wz ⟨rfl, hE⟩; replace S := S.ext (Keep.of_below hE); clear hE) | (go_at_call 60; refine Calls.mono (toerr_calls tE pE [65, 116, 111, 105] l 0 0 _ _ (S.get (i := 0) rfl).choose_spec hn) ?_; rintro e wz ⟨N, rfl, hE⟩; replace S := S.ext (Keep.of_below hE); clear hE) | ((with_reducible refine tot_done ?ht ?_); (case ht => kernel_rfl))
  (try simp only [Exit.inBlock, Exit.then]); refine bodyPost_ret (results2 rfl (res_tmp rfl) (res_tmp rfl)) rfl ?_
  exact ⟨_, _, rfl, S.below⟩
end Go.Proofs.YtkcnbejpmknaoaaDoor
/- The walk of strings.FieldsFunc at the script's blanks (chapter 21). -/
namespace Go.Proofs.YtkcnbejpmknaoaaDoor
open Go Go.RowKit Reg Mem

def spcell (x : Nat × Nat) : List Value := [.int .i64 x.1, .int .i64 x.2]
theorem spcells : ∀ x, (spcell x).length = 2 := fun _ => rfl
theorem spone : ∀ x, ∀ u ∈ spcell x, u.oneCell' = true := fun x u hu => by
  simp only [spcell, List.mem_cons, List.not_mem_nil, or_false] at hu; rcases hu with rfl | rfl <;> rfl
set_option maxRecDepth 100000 in
theorem elem_Spn : Elem Tryd.prog 79 81 2 16 := ⟨_, .agg #[.int .i64 0, .int .i64 0], Tryd.underlying79, rfl, by kernel_rfl, by kernel_rfl, by kernel_rfl, by kernel_rfl, by omega⟩
set_option maxRecDepth 100000 in
theorem zero_Spn : zeroIs Tryd.prog 81 2 (spcell (0, 0)) := ⟨_, .agg #[.int .i64 0, .int .i64 0], rfl, by kernel_rfl, by kernel_rfl, rfl, by decide⟩
set_option maxRecDepth 100000 in
theorem zero_Str : zeroIs Tryd.prog 9 1 (strcell []) := ⟨_, .string ⟨#[]⟩, rfl, by kernel_rfl, by kernel_rfl, rfl, by decide⟩
set_option maxRecDepth 100000 in
theorem sep_calls (x : Nat) (w : World) : Calls Tryd.prog 30 #[.int .i32 x] w fun e w' => e = .returned (.bool (sepR x)) ∧ Below w.heap.size w w' := by
  have S := St.init (fun _ => False) w
  have key : (((x : Int) == 32) = true ∧ sepR x = true) ∨ (((x : Int) == 32) = false ∧ ((x : Int) == 9) = true ∧ sepR x = true) ∨ (((x : Int) == 32) = false ∧ ((x : Int) == 9) = false ∧ ((x : Int) == 13) = true ∧ sepR x = true) ∨ (((x : Int) == 32) = false ∧ ((x : Int) == 9) = false ∧ ((x : Int) == 13) = false ∧ sepR x = false) := by
    unfold sepR
    simp only [beq_iff_eq, beq_eq_false_iff_ne, Bool.or_eq_true, Bool.or_eq_false_iff]
    omega
  rcases key with ⟨c1, c4⟩ | ⟨c1, c2, c4⟩ | ⟨c1, c2, c3, c4⟩ | ⟨c1, c2, c3, c4⟩
  all_goals
    have HR := Lib.hid c4
    clear c4
    go_enter Tryd.func30, Tryd.ntmps30
    go_wp2_with first | ((with_reducible refine tot_done ?ht ?_); (case ht => kernel_rfl))
    go_ret
    rw [HR.out]
    exact ⟨rfl, S.below⟩
theorem dec_fit (s : ByteArray) (pos : Nat) (h : pos < s.size) : 1 ≤ (Utf8.decode s pos).2 ∧ pos + (Utf8.decode s pos).2 ≤ s.size := by
  by_cases h8 : (s[pos]'h).toNat < 128
  · rw [decode_ascii s pos h h8]; exact ⟨Nat.le_refl _, h⟩
  · exact ⟨(decode_high s pos h (by omega)).2, (rune_high s pos h (by omega)).1⟩
theorem not64 (a : Nat) (h : a < 9223372036854775808) : bits BinOp.xor IntKind.i64 (if IntKind.i64.signed = true then -1 else 9223372036854775807) (a : Int) = -1 - (a : Int) := i64_not a h
def StZ (st : Option Nat) (pos : Nat) (z : Int) : Prop := (st = none ∧ z < 0 ∧ -9223372036854775808 ≤ z) ∨ ∃ a : Nat, st = some a ∧ z = a ∧ a ≤ pos
def FfRel (b : Nat) (s : ByteArray) (w : World) (sv start : Value) (wr : World) : Prop :=
  ∃ (pos f : Nat) (acc : List (Nat × Nat)) (st : Option Nat) (z : Int), pos ≤ s.size ∧ start = .int .i64 z ∧ s.size - pos ≤ f ∧ Hid (StZ st pos z) ∧ Hid (Lib.spansFromP sepR s f pos st acc = Lib.spansFromP sepR s s.size 0 none []) ∧
    Hid (∀ x ∈ acc, x.1 ≤ x.2 ∧ x.2 ≤ pos) ∧ acc.length ≤ pos ∧ St (fun _ => False) w wr [IterA b s pos, Own 81 spcell 2 sv acc]
theorem sown_hd {α : Type} {E : TypeId} {enc : α → List Value} {k : Nat} {v : Value} {xs : List α} {G : Nat → Prop} {w0 w : World} {L : List Asn} (i : Nat) (S : St G w0 w L) (hi : L[i]? = some (Own E enc k v xs)) (h0 : 0 < xs.length) : ∃ R c, v = .slice (some ⟨R, 0, none⟩) xs.length c := by
  obtain ⟨F1, h1, _⟩ := S.get hi
  obtain ⟨R, c, cur, e, _⟩ := h1.some (by omega)
  exact ⟨R, c, e⟩
def pieceL (l : List UInt8) (x : Nat × Nat) : List UInt8 := (l.drop x.1).take (x.2 - x.1)
def FfRel2 (sv : Value) (R : Nat) (l : List UInt8) (SP : List (Nat × Nat)) (w : World) (i : Value) (wr : World) : Prop :=
  ∃ k : Nat, k ≤ SP.length ∧ i = .int .i64 k ∧ St (fun _ => False) w wr [Own 9 strcell 1 (.slice (some ⟨R, 0, none⟩) SP.length SP.length) ((SP.take k).map (pieceL l) ++ List.replicate (SP.length - k) []), Own 81 spcell 2 sv SP]
theorem piece_at (l : List UInt8) {SP : List (Nat × Nat)} {k : Nat} (h : k < SP.length) : ((SP.take k).map (pieceL l) ++ List.replicate (SP.length - k) [])[k]? = some [] := by
  have hl : ((SP.take k).map (pieceL l)).length = k := by simp; omega
  rw [List.getElem?_append_right (by omega), List.getElem?_replicate, if_pos (by omega)]
theorem piece_set (l : List UInt8) {SP : List (Nat × Nat)} {k : Nat} {x : Nat × Nat} (hx : SP[k]? = some x) : ((SP.take k).map (pieceL l) ++ List.replicate (SP.length - k) []).set k (pieceL l x) = (SP.take (k + 1)).map (pieceL l) ++ List.replicate (SP.length - (k + 1)) [] := by
  have hk := (List.getElem?_eq_some_iff.1 hx).1
  have hl : ((SP.take k).map (pieceL l)).length = k := by simp; omega
  rw [List.set_append_right _ _ (by omega), hl, Nat.sub_self, show SP.length - k = (SP.length - (k + 1)) + 1 by omega, List.replicate_succ, List.set_cons_zero, List.take_add_one, hx, List.map_append]
  simp
theorem spans_step (s : ByteArray) (f pos : Nat) (st : Option Nat) (acc : List (Nat × Nat)) (h : pos < s.size) : Lib.spansFromP sepR s (f + 1) pos st acc =
    if sepR (Utf8.decode s pos).1 = true then Lib.spansFromP sepR s f (pos + (Utf8.decode s pos).2) none (match st with | some a => acc ++ [(a, pos)] | none => acc)
    else Lib.spansFromP sepR s f (pos + (Utf8.decode s pos).2) (some (st.getD pos)) acc := by
  conv => lhs; unfold Lib.spansFromP
  rw [if_pos h]
  split <;> cases st <;> rfl
theorem iter_pos {b : Nat} {s : ByteArray} {pos : Nat} {w : World} {F : Nat → Prop} (h : (IterA b s pos).at_ w F) : w.iterPos b = pos := by
  unfold World.iterPos; rw [h.1]
theorem spans_list (l : List UInt8) : (Lib.closeSpans (str l) (Lib.spansFromP sepR (str l) (str l).size 0 none [])).map (pieceL l) = wordsGo [] l := by
  have h := spans_words (str l) (str l).size 0 none [] (by omega) (by omega) (by simp)
  rw [str_data] at h
  have e : pieceL l = fun x => ((str l).extract x.1 x.2).data.toList := by
    funext x; rw [Lib.extract_data, str_data]; rfl
  rw [e, h]; rfl
set_option maxRecDepth 100000 in
set_option maxHeartbeats 8000000 in
theorem ff_calls (l : List UInt8) (w : World) (hn : l.length ≤ 2147483647) : Calls Tryd.prog 29 #[strV l, .func (.func 30) #[] #[]] w fun e w' =>
    ∃ a cp, e = .returned (.slice a (wordsGo [] l).length cp) ∧ St (fun _ => False) w w' [Own 9 strcell 1 (.slice a (wordsGo [] l).length cp) (wordsGo [] l)] := by
  have S := St.init (fun _ => False) w
  obtain ⟨s, hs⟩ : ∃ s, s = str l := ⟨_, rfl⟩
  have HSV : Hid (strV l = .string s) := Lib.hid (by rw [hs]; rfl)
  have HSZ : Hid (s.size = l.length) := Lib.hid (by rw [hs]; exact str_size l)
  have hn2 : s.size ≤ 2147483647 := by rw [HSZ.out]; exact hn
  have HSL := Lib.hid (spans_list l)
  rw [← hs] at HSL
  clear hs
  go_enter Tryd.func29, Tryd.ntmps29
  go_wp2_with first | ((with_reducible apply wps_makecap (n := 32) (T := 79) Tryd.underlying79 (0, 0) zero_Spn S); (case hx | hy => rfl); (case hn => omega); clear S; intro bz wz S) | ((with_reducible apply wps_rangestr Tryd.underlying9 S); (case hx => exact HSV.out); clear S; intro bi wz S)
  simp only [Act.put, List.setIfInBounds_toArray, List.set_cons_succ, List.set_cons_zero]
  go_loopw [5, 6] (fun sv start wr => FfRel bi s w sv start wr) (fun _ _ wr => s.size - wr.iterPos bi)
  case atStart => exact ⟨0, s.size, [], none, -1, Nat.zero_le _, rfl, by omega, Lib.hid (.inl ⟨rfl, by decide, by decide⟩), Lib.hid rfl, Lib.hid (by simp), by simp, S⟩
  case round =>
    clear S
    obtain ⟨pos, f, acc, st, z, hpos, rfl, hf, HZ, HE, HA, hal, S⟩ := hrel
    have hip : wr.iterPos bi = pos := (S.get (i := 0) rfl).elim fun _ h => iter_pos h
    by_cases hlt : pos < s.size
    · obtain ⟨d1, d2⟩ := dec_fit s pos hlt
      obtain ⟨f, rfl⟩ : ∃ g, f = g + 1 := ⟨f - 1, by omega⟩
      have hf2 : s.size - (pos + (Utf8.decode s pos).2) ≤ f := by omega
      have hu := spans_step s f pos st acc hlt
      have hA2 : ∀ x ∈ acc, x.1 ≤ x.2 ∧ x.2 ≤ pos + (Utf8.decode s pos).2 := fun x hx => by have := HA.out x hx; omega
      have hal2 : acc.length ≤ pos + (Utf8.decode s pos).2 := by omega
      have hsc := Lib.hid (fun w => sep_calls (Utf8.decode s pos).1 w)
      have HD := Lib.hid (And.intro d1 d2)
      have HF := Lib.hid hf2
      have HA2 := Lib.hid hA2
      have HAL := Lib.hid hal2
      have HIP := Lib.hid hip
      clear hf hf2 hA2 hal2 d1 d2 hip
      have hal3 : acc.length < 4294967296 := by omega
      cases hsep : sepR (Utf8.decode s pos).1 with
      | true =>
        rw [hsep, if_pos rfl] at hu
        rw [hsep] at hsc
        rcases HZ.out with ⟨rfl, z1, z2⟩ | ⟨a, rfl, rfl, z1⟩
        · have HN := Lib.hid (hu.symm.trans HE.out)
          have c1 : ¬ (0 ≤ z) := by omega
          clear hu hsep
          go_wp2_with first | ((with_reducible apply wps_next S 0); (case hi => rfl); (case h => exact hlt); (case hx => rfl); clear S; intro wz S; simp only [List.set_cons_zero] at S) | (go_at_call 30; refine Calls.mono (hsc.out _) ?_; rintro e wz ⟨rfl, hE⟩; replace S := S.ext (Keep.of_below hE); clear hE)
          go_roundw
          case rel => exact ⟨_, f, acc, none, z, HD.out.2, rfl, HF.out, Lib.hid (.inl ⟨rfl, z1, z2⟩), Lib.hid HN.out, HA2, HAL.out, S⟩
          case measure =>
            have hq := (S.get (i := 0) rfl).elim fun _ h => iter_pos h
            have := HD.out.1
            rw [hq, HIP.out]; omega
        · have HN := Lib.hid (hu.symm.trans HE.out)
          have HA3 : Hid (∀ x ∈ acc ++ [(a, pos)], x.1 ≤ x.2 ∧ x.2 ≤ pos + (Utf8.decode s pos).2) := Lib.hid fun x hx => by
            rcases List.mem_append.1 hx with h | h
            · exact HA2.out x h
            · simp at h; subst h; exact ⟨z1, by simp⟩
          have c1 : (0 : Int) ≤ a := by omega
          have c2 : (a : Int) ≤ 4294967296 := by omega
          clear hu hsep
          go_wp2_with first | ((with_reducible apply wps_next S 0); (case hi => rfl); (case h => exact hlt); (case hx => rfl); clear S; intro wz S; simp only [List.set_cons_zero] at S) | (go_at_call 30; refine Calls.mono (hsc.out _) ?_; rintro e wz ⟨rfl, hE⟩; replace S := S.ext (Keep.of_below hE); clear hE) | ((with_reducible apply wps_build1a (T := 79) (E := 81) S); (case hx => rfl); (case hr => intro w; kernel_rfl); clear S; intro bz wz S) | ((with_reducible apply wps_append1 elem_Spn spcells spone (by decide) S 2 (j := 0) (e := (a, pos))); (case hx | hy | hi | hj | he => rfl); (case hl => first | omega | (simp; omega)); clear S; intro az nz cz wz hnz S; simp only [List.set_cons_succ, List.set_cons_zero] at S)
          rw [show bits BinOp.xor IntKind.i64 (if IntKind.i64.signed = true then -1 else 9223372036854775807) (a : Int) = -1 - (a : Int) from not64 a (by omega)]
          go_roundw
          case rel => exact ⟨_, f, acc ++ [(a, pos)], none, _, HD.out.2, rfl, HF.out, Lib.hid (.inl ⟨rfl, by omega, by omega⟩), Lib.hid HN.out, HA3, by simp; have := HD.out.1; omega, S.pick [1, 2] rfl⟩
          case measure =>
            have hq := (S.get (i := 1) rfl).elim fun _ h => iter_pos h
            have := HD.out.1
            rw [hq, HIP.out]; omega
      | false =>
        rw [hsep, if_neg (by decide)] at hu
        rw [hsep] at hsc
        rcases HZ.out with ⟨rfl, z1, z2⟩ | ⟨a, rfl, rfl, z1⟩
        · have HN := Lib.hid (hu.symm.trans HE.out)
          have c1 : z < 0 := by omega
          clear hu hsep
          go_wp2_with first | ((with_reducible apply wps_next S 0); (case hi => rfl); (case h => exact hlt); (case hx => rfl); clear S; intro wz S; simp only [List.set_cons_zero] at S) | (go_at_call 30; refine Calls.mono (hsc.out _) ?_; rintro e wz ⟨rfl, hE⟩; replace S := S.ext (Keep.of_below hE); clear hE)
          go_roundw
          case rel => exact ⟨_, f, acc, some pos, _, HD.out.2, rfl, HF.out, Lib.hid (.inr ⟨pos, rfl, rfl, by omega⟩), Lib.hid HN.out, HA2, HAL.out, S⟩
          case measure =>
            have hq := (S.get (i := 0) rfl).elim fun _ h => iter_pos h
            have := HD.out.1
            rw [hq, HIP.out]; omega
        · have HN := Lib.hid (hu.symm.trans HE.out)
          have c1 : ¬ ((a : Int) < 0) := by omega
          clear hu hsep
          go_wp2_with first | ((with_reducible apply wps_next S 0); (case hi => rfl); (case h => exact hlt); (case hx => rfl); clear S; intro wz S; simp only [List.set_cons_zero] at S) | (go_at_call 30; refine Calls.mono (hsc.out _) ?_; rintro e wz ⟨rfl, hE⟩; replace S := S.ext (Keep.of_below hE); clear hE)
          go_roundw
          case rel => exact ⟨_, f, acc, some a, _, HD.out.2, rfl, HF.out, Lib.hid (.inr ⟨a, rfl, rfl, by omega⟩), Lib.hid HN.out, HA2, HAL.out, S⟩
          case measure =>
            have hq := (S.get (i := 0) rfl).elim fun _ h => iter_pos h
            have := HD.out.1
            rw [hq, HIP.out]; omega
    · have hq : Lib.spansFromP sepR s s.size 0 none [] = (acc, st) := by rw [← HE.out, Lib.spansFromP_end _ _ _ _ _ _ hlt]
      have hps : pos = s.size := by omega
      have hsz := HSZ.out
      have hsp := HSL.out
      rw [hq] at hsp
      rcases HZ.out with ⟨rfl, z1, z2⟩ | ⟨a, rfl, rfl, z1⟩
      · have HSP : Hid (wordsGo [] l = acc.map (pieceL l)) := Lib.hid (by rw [← hsp]; rfl)
        have HA3 : Hid (∀ x ∈ acc, x.1 ≤ x.2 ∧ x.2 ≤ l.length) := Lib.hid fun x hx => by have := HA.out x hx; omega
        have c1 : ¬ (0 ≤ z) := by omega
        have hal2 : acc.length ≤ 4294967296 := by omega
        obtain ⟨aq, cq, rfl, _⟩ := (S.ownsl spcells 1 rfl).elim fun _ h => h.form
        clear hq HZ HA hip hf hal HE hps hsz hsp HSL hn2
        go_wp2_with first | ((with_reducible apply wps_nextend S 0); (case hi => rfl); (case h => exact hlt); (case hx => rfl)) | ((with_reducible apply wps_make strcells Tryd.underlying40 _ zero_Str S (n := acc.length)); (case hx | hy => rfl); (case hn => omega); clear S; intro bz wz S)
        go_loopw [49] (fun i wr => FfRel2 (.slice aq acc.length cq) bz l acc w i wr) (fun i _ => (acc).length - (intOf i).toNat)
        case atStart =>
          refine ⟨0, Nat.zero_le _, rfl, ?_⟩
          rw [List.take_zero, List.map_nil, List.nil_append, Nat.sub_zero]
          exact S.pick [0, 2] rfl
        case round =>
          clear S
          obtain ⟨k, hk, rfl, S⟩ := hrel
          by_cases hkt : k < (acc).length
          · have hkt2 : (k : Int) < (acc).length := by omega
            obtain ⟨x, hx⟩ : ∃ x, (acc)[k]? = some x := ⟨_, List.getElem?_eq_getElem hkt⟩
            have HX := Lib.hid hx
            obtain ⟨x1, x2⟩ := HA3.out x (List.mem_of_getElem? hx)
            have HP := Lib.hid (piece_at l hkt)
            have HS := Lib.hid (piece_set l hx)
            have hle : ((((acc).take k).map (pieceL l) ++ List.replicate ((acc).length - k) [])).length = (acc).length := by simp; omega
            have HLE := Lib.hid hle
            obtain ⟨Rq, cq2, eq⟩ := sown_hd 1 S rfl (by omega)
            simp only [Value.slice.injEq] at eq
            obtain ⟨rfl, _, rfl⟩ := eq
            clear hx hle
            generalize ((acc).take k).map (pieceL l) ++ List.replicate ((acc).length - k) [] = xs at *
            go_wp2_with first | ((with_reducible apply wps_loada_own spcells S 1 (hj := HX.out) (q := 0) (vs := [.int .i64 x.1, .int .i64 x.2]) (m := 2)); (case hx | hi => rfl); (case hn => omega); (case hm | hv => rfl); (case hT => decide +kernel)) | ((with_reducible apply wps_alloca (E := 81) S); (case hz => exact Tryd.zeroValue81); clear S; intro bq wz S) | ((with_reducible apply wps_storea (T := 81) S 0 (vs := [.int .i64 x.1, .int .i64 x.2]) (m := 2)); (case hx | hy | hi | hm | h1 => rfl); (case hn => exact Nat.le_of_ble_eq_true rfl); (case hT => decide +kernel); clear S; intro wz S; simp only [List.set_cons_zero, List.set_cons_succ, setAll, List.setIfInBounds_toArray] at S) | ((with_reducible apply wps_load S 0); (case hx | hi | hu => rfl); (case hT => decide +kernel)) | ((with_reducible apply wps_ssub (i := x.1) (j := x.2)); (case hx | hlo | hhi => rfl); (case hT => exact Tryd.underlying9); (case h1 | h2 => omega)) | ((with_reducible apply wps_store_own strcells S 1 (hj := HP.out) (e' := (pieceL l x)) (q := 0)); (case hx => rfl); (case hn => omega); (case hi | hy | h1 | he => rfl); (case hq => decide); (case hT => decide +kernel); clear S; intro wz S; simp only [List.set_cons_succ, List.set_cons_zero] at S)
            go_roundw
            case rel => exact ⟨k + 1, by omega, by go_num, by rw [← HS.out]; exact S.pick [1, 2] rfl⟩
            case measure => first | (simp [intOf]; done) | (simp [intOf]; omega)
          · obtain rfl : k = (acc).length := by omega
            rw [List.take_length, Nat.sub_self, List.replicate_zero, List.append_nil, ← HSP.out] at S
            have HLW : Hid ((wordsGo [] l).length = (acc).length) := Lib.hid (by rw [HSP.out, List.length_map])
            go_wp2_with first | ((with_reducible apply wps_loada (T := 81) (k := 2) S 0); (case hx | hi => rfl); (case hk => exact Nat.le_of_ble_eq_true rfl); (case hT => decide +kernel))
            go_ret
            rw [HLW.out]
            exact ⟨_, _, rfl, S.pick [0] rfl⟩
      · have HSP : Hid (wordsGo [] l = (acc ++ [(a, l.length)]).map (pieceL l)) := Lib.hid (by rw [← hsp, ← hsz]; rfl)
        have HA3 : Hid (∀ x ∈ acc ++ [(a, l.length)], x.1 ≤ x.2 ∧ x.2 ≤ l.length) := Lib.hid fun x hx => by
          rcases List.mem_append.1 hx with h | h
          · have := HA.out x h; omega
          · simp at h; subst h; exact ⟨by simp only; omega, Nat.le_refl _⟩
        have c1 : (0 : Int) ≤ a := by omega
        have hal2 : acc.length < 4294967296 := by omega
        have hal3 : (acc ++ [(a, l.length)]).length ≤ 4294967296 := by simp; omega
        clear hq HZ HA hip hf hal HE hps hsz hsp HSL hn2
        go_upto_region 14 with first | ((with_reducible apply wps_nextend S 0); (case hi => rfl); (case h => exact hlt); (case hx => rfl)) | ((with_reducible apply wps_slen (T := 9)); (case hx => rfl); (case hT => exact Tryd.underlying9)) | ((with_reducible apply wps_build1a (T := 79) (E := 81) S); (case hx => rfl); (case hr => intro w; kernel_rfl); clear S; intro bz wz S) | ((with_reducible apply wps_append1 elem_Spn spcells spone (by decide) S 2 (j := 0) (e := (a, l.length))); (case hx | hy | hi | hj | he => rfl); (case hl => first | omega | (simp; omega)); clear S; intro az nz cz wz hnz S; simp only [List.set_cons_succ, List.set_cons_zero] at S)
        obtain rfl : nz = (acc ++ [(a, l.length)]).length := by rw [hnz.out]; simp
        replace S := S.pick [1, 2] rfl
        simp only [pick, nth] at S
        clear hal2
        generalize acc ++ [(a, l.length)] = SP at *
        go_wp2_with first | ((with_reducible apply wps_make strcells Tryd.underlying40 _ zero_Str S (n := SP.length)); (case hx | hy => rfl); (case hn => omega); clear S; intro bz wz S)
        go_loopw [49] (fun i wr => FfRel2 (.slice az SP.length cz) bz l SP w i wr) (fun i _ => (SP).length - (intOf i).toNat)
        case atStart =>
          refine ⟨0, Nat.zero_le _, rfl, ?_⟩
          rw [List.take_zero, List.map_nil, List.nil_append, Nat.sub_zero]
          exact S.pick [0, 2] rfl
        case round =>
          clear S
          obtain ⟨k, hk, rfl, S⟩ := hrel
          by_cases hkt : k < (SP).length
          · have hkt2 : (k : Int) < (SP).length := by omega
            obtain ⟨x, hx⟩ : ∃ x, (SP)[k]? = some x := ⟨_, List.getElem?_eq_getElem hkt⟩
            have HX := Lib.hid hx
            obtain ⟨x1, x2⟩ := HA3.out x (List.mem_of_getElem? hx)
            have HP := Lib.hid (piece_at l hkt)
            have HS := Lib.hid (piece_set l hx)
            have hle : ((((SP).take k).map (pieceL l) ++ List.replicate ((SP).length - k) [])).length = (SP).length := by simp; omega
            have HLE := Lib.hid hle
            obtain ⟨Rq, cq2, eq⟩ := sown_hd 1 S rfl (by omega)
            simp only [Value.slice.injEq] at eq
            obtain ⟨rfl, _, rfl⟩ := eq
            clear hx hle
            generalize ((SP).take k).map (pieceL l) ++ List.replicate ((SP).length - k) [] = xs at *
            go_wp2_with first | ((with_reducible apply wps_loada_own spcells S 1 (hj := HX.out) (q := 0) (vs := [.int .i64 x.1, .int .i64 x.2]) (m := 2)); (case hx | hi => rfl); (case hn => omega); (case hm | hv => rfl); (case hT => decide +kernel)) | ((with_reducible apply wps_alloca (E := 81) S); (case hz => exact Tryd.zeroValue81); clear S; intro bq wz S) | ((with_reducible apply wps_storea (T := 81) S 0 (vs := [.int .i64 x.1, .int .i64 x.2]) (m := 2)); (case hx | hy | hi | hm | h1 => rfl); (case hn => exact Nat.le_of_ble_eq_true rfl); (case hT => decide +kernel); clear S; intro wz S; simp only [List.set_cons_zero, List.set_cons_succ, setAll, List.setIfInBounds_toArray] at S) | ((with_reducible apply wps_load S 0); (case hx | hi | hu => rfl); (case hT => decide +kernel)) | ((with_reducible apply wps_ssub (i := x.1) (j := x.2)); (case hx | hlo | hhi => rfl); (case hT => exact Tryd.underlying9); (case h1 | h2 => omega)) | ((with_reducible apply wps_store_own strcells S 1 (hj := HP.out) (e' := (pieceL l x)) (q := 0)); (case hx => rfl); (case hn => omega); (case hi | hy | h1 | he => rfl); (case hq => decide); (case hT => decide +kernel); clear S; intro wz S; simp only [List.set_cons_succ, List.set_cons_zero] at S)
            go_roundw
            case rel => exact ⟨k + 1, by omega, by go_num, by rw [← HS.out]; exact S.pick [1, 2] rfl⟩
            case measure => first | (simp [intOf]; done) | (simp [intOf]; omega)
          · obtain rfl : k = (SP).length := by omega
            rw [List.take_length, Nat.sub_self, List.replicate_zero, List.append_nil, ← HSP.out] at S
            have HLW : Hid ((wordsGo [] l).length = (SP).length) := Lib.hid (by rw [HSP.out, List.length_map])
            go_wp2_with first | ((with_reducible apply wps_loada (T := 81) (k := 2) S 0); (case hx | hi => rfl); (case hk => exact Nat.le_of_ble_eq_true rfl); (case hT => decide +kernel))
            go_ret
            rw [HLW.out]
            exact ⟨_, _, rfl, S.pick [0] rfl⟩
end Go.Proofs.YtkcnbejpmknaoaaDoor
