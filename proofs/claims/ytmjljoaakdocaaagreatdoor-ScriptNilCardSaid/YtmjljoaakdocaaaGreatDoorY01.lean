import Derived.Orders
import Derived.Still
import Derived.Laws.Sem
import Derived.Tactics
import Derived.KernelRfl
import Derived.Test.YtmjljoaakdocaaaGreatDoorY00
import Derived.Lib.Hide
/- A region that draws its order is walked in the order of the text, if a closed test over its operations says that each two of them that stand in no order may change places. No condition but that test. -/
namespace Go.Proofs.YtmjljoaakdocaaaGreatDoor.Reg
open Go

structure Ext (w w2 : World) : Prop where
  le : w.heap.size ≤ w2.heap.size
  old : ∀ b, b < w.heap.size → w2.heap[b]? = w.heap[b]?

section
variable (P : Program)
def Free {α : Type} (s : Sem α) : Prop := ∀ w r w', s.run P w = .ok r w' → w' = w ∧ ∀ w2, s.run P w2 = .ok r w2
def Reads {α : Type} (s : Sem α) : Prop := ∀ w r w', s.run P w = .ok r w' → w' = w ∧ ∀ w2, Ext w w2 → s.run P w2 = .ok r w2
def Grows {α : Type} (s : Sem α) : Prop := ∀ w r w', s.run P w = .ok r w' → Ext w w'

variable {P}
def Dies {α : Type} (s : Sem α) : Prop := ∀ w r w', s.run P w ≠ .ok r w'
def flat1 : Value → Bool
  | .int _ _ | .bool _ | .string _ => true
  | _ => false
def flat : Value → Bool
  | .int _ _ | .bool _ | .string _ | .tuple _ => true
  | .agg cs => cs.all flat1
  | _ => false
def isNil : Value → Bool
  | .pointer none | .slice none _ _ | .map none | .nilFunc => true
  | _ => false
def nilable : Option TypeDesc → Bool
  | some (.pointer _) | some (.slice _) | some (.map ..) | some (.func ..) => true
  | _ => false
def FreeOp (P : Program) (o : Oper) (ρ : Operand → Value) : Prop := ∀ w r w', (execOp ρ o).run P w = .ok r w' → (∃ v, r = .value v) ∧ w' = w ∧ ∀ w2, (execOp ρ o).run P w2 = .ok r w2
def ReadOp (P : Program) (o : Oper) (ρ : Operand → Value) : Prop := ∀ w r w', (execOp ρ o).run P w = .ok r w' → (∃ v, r = .value v) ∧ w' = w ∧ ∀ w2, Ext w w2 → (execOp ρ o).run P w2 = .ok r w2
def GrowOp (P : Program) (o : Oper) (ρ : Operand → Value) : Prop := ∀ w r w', (execOp ρ o).run P w = .ok r w' → (∃ v, r = .value v) ∧ Ext w w'

def constNil : Operand → Bool
  | .const v => isNil v
  | _ => false
def nilSide (op : BinOp) (x y : Operand) : Bool := (op == .eql || op == .neq) && (constNil x || constNil y)
def tmpsOf (l : List Operand) : List Tmp := l.filterMap fun | .tmp t => some t | _ => none
def needs (o : Oper) : List Tmp :=
  match o.op with
  | .binOp op _ x y _ => if nilSide op x y then [] else tmpsOf [x, y]
  | .convert _ _ x => tmpsOf [x]
  | _ => []
def flatConst : Operand → Bool
  | .const v => flat v
  | .tmp _ => true
  | _ => false
def textual : Option TypeDesc → Bool
  | some .string | some (.slice _) | some (.array ..) => true
  | _ => false
def intOnly : Option TypeDesc → Bool
  | some (.int _) => true
  | _ => false
def freeB (P : Program) (o : Oper) : Bool :=
  match o.op with
  | .move _ | .assign _ | .pick .. | .build .. | .nilCheck _ | .unOp .. | .makeInterface .. | .makeFunc .. | .field .. | .indexAddr .. | .index .. | .slice .. | .extract .. => true
  | .fieldAddr s _ i => match P.underlying s with
    | some (.struct fs) => match fs[i]? with | some f => P.cellsOf f.type != 0 | none => true
    | _ => true
  | .binOp op t x y _ =>
    if nilSide op x y then nilable (P.underlying t)
    else flatConst x && flatConst y
  | .convert s t x => intOnly (P.underlying s) && intOnly (P.underlying t) && flatConst x
  | .call { callee := .builtin .len, argTypes, .. } => match argTypes[0]? with | some t => textual (P.underlying t) | none => true
  | _ => false

def readB (P : Program) (o : Oper) : Bool := freeB P o || (match o.op with | .load .. => true | _ => false)
def growB (P : Program) (o : Oper) : Bool := readB P o || (match o.op with | .alloc _ | .box .. | .buildSlice .. => true | _ => false)
def flatAt (a : Act) (t : Tmp) : Bool := flat ((a.tmps[t]?).getD undef)
def Tot (ns : List Tmp) (Q : Exit → Act → World → Prop) : Exit → Act → World → Prop
  | .normal, a, w => (ns.all (flatAt a) = true) ∧ Q .normal a w
  | _, _, _ => False
theorem tot_done {ns : List Tmp} {Q : Exit → Act → World → Prop} {a : Act} {w : World} (h : ns.all (flatAt a) = true) (hq : Q .normal a w) : Tot ns Q .normal a w := ⟨h, hq⟩
theorem not_lets {ns : List Tmp} {Q : Exit → Act → World → Prop} : ¬ LetsOut (Tot ns Q) := fun ⟨_, _, h⟩ => h

section
variable {ops : Array Oper} {md : Region.Mode} {ns : List Tmp} {Q : Exit → Act → World → Prop}

def maskOf (md : Region.Mode) (acc : List Nat) (o : Oper) : Nat := o.after.toList.foldl (fun s e => if Region.binds md e then s ||| 2 ^ e.on ||| acc.getD e.on 0 else s) 0
def masks (md : Region.Mode) : List Oper → List Nat → List Nat
  | [], acc => acc
  | o :: l, acc => masks md l (acc ++ [maskOf md acc o])
theorem masks_prefix (l : List Oper) : ∀ acc : List Nat, acc <+: masks md l acc := by
  induction l with
  | nil => intro acc; exact List.prefix_refl _
  | cons o l ih => intro acc; exact (List.prefix_append _ _).trans (ih _)
theorem masks_at (l : List Oper) : ∀ (acc : List Nat) (j : Nat) (o : Oper), l[j]? = some o →
    ∃ pre, pre.length = acc.length + j ∧ pre <+: masks md l acc ∧ (masks md l acc).getD (acc.length + j) 0 = maskOf md pre o := by
  induction l with
  | nil => intro acc j o h; cases h
  | cons o' l ih =>
    intro acc j o h
    cases j with
    | zero =>
      cases h
      obtain ⟨r, hr⟩ := masks_prefix (md := md) l (acc ++ [maskOf md acc o'])
      refine ⟨acc, rfl, masks_prefix (o' :: l) acc, ?_⟩
      show (masks md l (acc ++ [maskOf md acc o'])).getD _ 0 = _
      rw [← hr]
      simp [List.getD]
    | succ j =>
      obtain ⟨pre, h1, h2, h3⟩ := ih (acc ++ [maskOf md acc o']) j o (by simpa using h)
      refine ⟨pre, by simp at h1; omega, h2, ?_⟩
      have e : acc.length + (j + 1) = (acc ++ [maskOf md acc o']).length + j := by simp; omega
      rw [e]; exact h3
theorem maskOf_bit {acc : List Nat} {i : Nat} (l : List Edge) : ∀ s : Nat, (l.foldl (fun s e => if Region.binds md e then s ||| 2 ^ e.on ||| acc.getD e.on 0 else s) s).testBit i = true →
    s.testBit i = true ∨ ∃ e ∈ l, Region.binds md e = true ∧ (e.on = i ∨ (acc.getD e.on 0).testBit i = true) := by
  induction l with
  | nil => intro s h; exact .inl h
  | cons e l ih =>
    intro s h
    rcases ih _ h with h1 | ⟨e', he', hb⟩
    · dsimp only at h1
      split at h1
      · rename_i hb
        simp only [Nat.testBit_or, Bool.or_eq_true, Nat.testBit_two_pow, decide_eq_true_eq] at h1
        rcases h1 with (h1 | h1) | h1
        · exact .inl h1
        · exact .inr ⟨e, by simp, hb, .inl h1⟩
        · exact .inr ⟨e, by simp, hb, .inr h1⟩
      · exact .inl h1
    · exact .inr ⟨e', by simp [he'], hb⟩
def Closed (md : Region.Mode) (ops : Array Oper) (listed : Array Bool) : Prop :=
  ∀ j oj, ops[j]? = some oj → listed.getD j false = true → ∀ e ∈ oj.after, Region.binds md e = true → listed.getD e.on false = true
theorem mask_listed {listed : Array Bool} (hc : Closed md ops listed) {i : Nat} : ∀ (j : Nat) (oj : Oper), ops[j]? = some oj → (∀ e ∈ oj.after, Region.binds md e = true → listed.getD e.on false = true) →
    ((masks md ops.toList []).getD j 0).testBit i = true → listed.getD i false = true := by
  intro j
  induction j using Nat.strongRecOn with
  | _ j ih =>
    intro oj hj hall hbit
    obtain ⟨pre, h1, h2, h3⟩ := masks_at (md := md) ops.toList [] j oj (by simpa using hj)
    simp only [List.length_nil, Nat.zero_add] at h1 h3
    rw [h3] at hbit
    rcases maskOf_bit _ _ hbit with h | ⟨e, he, hb, h⟩
    · simp at h
    · have hel := hall e (by simpa using he) hb
      rcases h with h | h
      · rw [← h]; exact hel
      · have hlt : e.on < j := by
          rcases Nat.lt_or_ge e.on j with h' | h'
          · exact h'
          · rw [List.getD_eq_getElem?_getD, List.getElem?_eq_none (by omega)] at h; simp at h
        have hsz : j < ops.size := (Array.getElem?_eq_some_iff.1 hj).1
        obtain ⟨oe, hoe⟩ : ∃ o, ops[e.on]? = some o := ⟨_, Array.getElem?_eq_getElem (by omega)⟩
        refine ih e.on hlt oe hoe (hc e.on oe hoe hel) ?_
        obtain ⟨r, hr⟩ := h2
        rw [← hr]
        rw [List.getD_eq_getElem?_getD] at h ⊢
        rw [List.getElem?_append_left (by omega)]
        exact h

theorem Closed.set {listed : Array Bool} {i : Nat} (hc : Closed md ops listed) (hi : i ∈ Region.ready md ops listed) : Closed md ops (listed.setIfInBounds i true) := by
  obtain ⟨_, oi, hoi, hall⟩ := mem_ready.1 hi
  intro j oj hj hl e he hb
  by_cases hij : i = j
  · subst hij
    have : oj = oi := Option.some.inj (hj.symm.trans hoi)
    subst this
    exact getD_set_true (hall e he hb)
  · rw [getD_set_ne false hij] at hl
    exact getD_set_true (hc j oj hj hl e he hb)

def swapB (P : Program) (ops : Array Oper) (a b : Oper) : Bool := a.apart ops b && (freeB P b || freeB P a || (readB P a && growB P b))
def needsB (ops : Array Oper) (M : List Nat) (ns : List Tmp) : Bool :=
  (List.range ops.size).all fun j => match ops[j]? with
    | some o => (needs o).all fun t => ns.contains t && o.dst != some t && (List.range ops.size).all fun k => match ops[k]? with
      | some ok => ok.dst != some t || (M.getD j 0).testBit k
      | none => true
    | none => true
def textFrom (P : Program) (md : Region.Mode) (ops : Array Oper) (M : List Nat) : Nat → Nat → Array Bool → Bool
  | 0, _, listed => (Region.ready md ops listed).isEmpty
  | f + 1, k, listed => (Region.ready md ops listed).contains k &&
      ((List.range ops.size).all fun j => listed.getD j true || j == k || (M.getD j 0).testBit k || (match ops[k]?, ops[j]? with | some a, some b => swapB P ops a b | _, _ => true)) &&
      textFrom P md ops M f (k + 1) (listed.setIfInBounds k true)
def allNeeds (ops : Array Oper) : List Tmp := (ops.toList.flatMap needs).eraseDups
def textB (P : Program) (ops : Array Oper) : Bool :=
  Region.noSelect ops && needsB ops (masks .any ops.toList []) (allNeeds ops) && textFrom P .any ops (masks .any ops.toList []) ops.size 0 (Array.replicate ops.size false)

theorem wpOp_tot {i : Nat} {K K' : Act → World → Prop} {a : Act} {w : World} (hK : ∀ a w, K a w → K' a w) (h : wpOp P ops (Tot ns Q) i K a w) : wpOp P ops Q i K' a w := by
  unfold wpOp at *
  cases ho : ops[i]? with
  | none => simp only [ho] at h ⊢; exact hK _ _ h
  | some o =>
    simp only [ho] at h ⊢
    split at h
    · rename_i hw
      simp only [hw, if_true]
      rcases h with h | ⟨_, h⟩
      case inr => exact absurd h not_lets
      refine .inl ?_
      unfold Oper.wp at *
      generalize (execOp a.eval o).run P w = r at *
      cases r with
      | ok n w' =>
        cases n <;> simp only [Oper.upon] at h ⊢ <;> first
          | exact hK _ _ h
          | exact Calls.mono h (fun e w'' he => by cases e <;> first | exact hK _ _ he | exact he.elim | exact absurd he not_lets)
          | exact Rows.mono h (fun _ _ he => hK _ _ he)
      | halt x w' => cases x <;> simp only [Oper.upon] at h ⊢ <;> exact h.elim
    · rename_i hw
      simp only [hw]
      exact hK _ _ h
end
end
end Go.Proofs.YtmjljoaakdocaaaGreatDoor.Reg
/- A state of memory as a list of things that lie apart: one hypothesis for a whole walk. Over any program. -/
namespace Go.Proofs.YtmjljoaakdocaaaGreatDoor.Mem
open Go Go.RowKit

structure Asn where
  sh : Bool
  at_ : World → (Nat → Prop) → Prop
  loc : ∀ {w w' : World} {F : Nat → Prop}, at_ w F → (∀ b, F b → w'.heap[b]? = w.heap[b]?) → at_ w' F
  lt : ∀ {w : World} {F : Nat → Prop}, at_ w F → ∀ b, F b → b < w.heap.size

structure St (G : Nat → Prop) (w0 w : World) (L : List Asn) : Prop where
  keep : Keep G w0 w
  ex : ∃ Fs : Nat → Nat → Prop, (∀ i A, L[i]? = some A → A.at_ w (Fs i) ∧ (A.sh = false → ∀ b, Fs i b → G b ∨ w0.heap.size ≤ b)) ∧
      ∀ i j A B, i < j → L[i]? = some A → L[j]? = some B → (A.sh = true ∧ B.sh = true) ∨ ∀ b, Fs i b → ¬ Fs j b

section
variable {G : Nat → Prop} {w0 w w' : World} {L : List Asn} {A A' : Asn} {i : Nat}
theorem St.init (G : Nat → Prop) (w : World) : St G w w [] := ⟨Keep.refl _ _, fun _ _ => False, fun i A h => by simp at h, fun i j A B _ h => by simp at h⟩
theorem St.get (S : St G w0 w L) (hi : L[i]? = some A) : ∃ F, A.at_ w F := let ⟨Fs, h, _⟩ := S.ex; ⟨Fs i, (h i A hi).1⟩
theorem St.ext (S : St G w0 w L) (hK : Keep (fun _ => False) w w') : St G w0 w' L := by
  obtain ⟨Fs, h, hd⟩ := S.ex
  exact ⟨S.keep.trans hK (fun _ _ h => ⟨h, id⟩), Fs, fun i A hi => ⟨A.loc (h i A hi).1 (fun b hb => hK.block b (A.lt (h i A hi).1 b hb) id), (h i A hi).2⟩, hd⟩
theorem St.below (S : St (fun _ => False) w0 w L) : Below w0.heap.size w0 w := S.keep.below
theorem St.size (S : St G w0 w L) : w0.heap.size ≤ w.heap.size := S.keep.size
theorem St.grow {F : Nat → Prop} (S : St G w0 w L) (hK : Keep (fun _ => False) w w') (hA : A.at_ w' F) (hF : ∀ b, F b → w.heap.size ≤ b) : St G w0 w' (A :: L) := by
  obtain ⟨Fs, h, hd⟩ := S.ex
  refine ⟨(S.ext hK).keep, fun i => match i with | 0 => F | i + 1 => Fs i, fun i B hi => ?_, fun i j B C hij hi hj => ?_⟩
  · cases i with
    | zero => simp at hi; subst hi; exact ⟨hA, fun _ b hb => .inr (Nat.le_trans S.size (hF b hb))⟩
    | succ i =>
      simp at hi
      exact ⟨B.loc (h i B hi).1 (fun b hb => hK.block b (B.lt (h i B hi).1 b hb) id), (h i B hi).2⟩
  · cases j with
    | zero => omega
    | succ j =>
      simp at hj
      cases i with
      | zero => exact .inr fun b hb hb' => by have := hF b hb; have := C.lt (h j C hj).1 b hb'; omega
      | succ i => simp at hi; exact hd i j B C (by omega) hi hj
theorem St.step (S : St G w0 w L) (hi : L[i]? = some A) (ho : A.sh = false) (h : ∀ F, A.at_ w F → ∃ F', Keep F w w' ∧ A'.at_ w' F' ∧ ∀ b, F' b → F b ∨ w.heap.size ≤ b) : St G w0 w' (L.set i A') := by
  obtain ⟨Fs, hf, hd⟩ := S.ex
  obtain ⟨F', hK, hA', hF'⟩ := h (Fs i) (hf i A hi).1
  have hil := (List.getElem?_eq_some_iff.1 hi).1
  have hnew : ∀ b, F' b → Fs i b ∨ w.heap.size ≤ b := hF'
  have apart : ∀ j B, j ≠ i → L[j]? = some B → ∀ b, Fs j b → ¬ Fs i b := by
    intro j B hj hB b hb hb'
    rcases Nat.lt_or_gt_of_ne hj with h | h
    · rcases hd j i B A h hB hi with ⟨_, e⟩ | e
      · rw [ho] at e; cases e
      · exact e b hb hb'
    · rcases hd i j A B h hi hB with ⟨e, _⟩ | e
      · rw [ho] at e; cases e
      · exact e b hb' hb
  refine ⟨S.keep.trans hK (fun x hx hn => ⟨hn, fun hb => ?_⟩), fun j => if j = i then F' else Fs j, fun j B hj => ?_, fun j k B C hjk hj hk => ?_⟩
  · rcases (hf i A hi).2 ho x hb with h | h
    · exact hn h
    · omega
  · by_cases e : j = i
    · subst e
      rw [List.getElem?_set_self hil] at hj
      cases hj
      simp only [if_true]
      refine ⟨hA', fun _ b hb => ?_⟩
      rcases hnew b hb with h | h
      · exact (hf j A hi).2 ho b h
      · exact .inr (Nat.le_trans S.size h)
    · rw [List.getElem?_set_ne (Ne.symm e)] at hj
      simp only [if_neg e]
      exact ⟨B.loc (hf j B hj).1 (fun b hb => hK.block b (B.lt (hf j B hj).1 b hb) (apart j B e hj b hb)), (hf j B hj).2⟩
  · by_cases e : j = i
    · subst e
      have e' : k ≠ j := by omega
      rw [List.getElem?_set_ne (Ne.symm e')] at hk
      simp only [if_true, if_neg e']
      refine .inr fun b hb hb' => ?_
      rcases hnew b hb with h | h
      · exact apart k C e' hk b hb' h
      · have := C.lt (hf k C hk).1 b hb'; omega
    · rw [List.getElem?_set_ne (Ne.symm e)] at hj
      by_cases e' : k = i
      · subst e'
        simp only [if_true, if_neg e]
        refine .inr fun b hb hb' => ?_
        rcases hnew b hb' with h | h
        · exact apart j B e hj b hb h
        · have := B.lt (hf j B hj).1 b hb; omega
      · rw [List.getElem?_set_ne (Ne.symm e')] at hk
        simp only [if_neg e, if_neg e']
        exact hd j k B C hjk hj hk
theorem St.same (S : St G w0 w L) (hi : L[i]? = some A) (h : ∀ F, A.at_ w F → A'.at_ w F) (hs : A.sh = A'.sh) : St G w0 w (L.set i A') := by
  obtain ⟨Fs, hf, hd⟩ := S.ex
  have hil := (List.getElem?_eq_some_iff.1 hi).1
  have back : ∀ (j : Nat) (B : Asn), (L.set i A')[j]? = some B → ∃ C : Asn, L[j]? = some C ∧ C.sh = B.sh ∧ (∀ F, C.at_ w F → B.at_ w F) := by
    intro j B hj
    by_cases e : j = i
    · subst e; rw [List.getElem?_set_self hil] at hj; cases hj; exact ⟨A, hi, hs, h⟩
    · rw [List.getElem?_set_ne (Ne.symm e)] at hj; exact ⟨B, hj, rfl, fun _ h => h⟩
  refine ⟨S.keep, Fs, fun j B hj => ?_, fun j k B C hjk hj hk => ?_⟩
  · obtain ⟨D, hD, h1, h2⟩ := back j B hj
    exact ⟨h2 _ (hf j D hD).1, fun e => (hf j D hD).2 (h1.trans e)⟩
  · obtain ⟨D, hD, h1, _⟩ := back j B hj
    obtain ⟨E, hE, g1, _⟩ := back k C hk
    rw [← h1, ← g1]
    exact hd j k D E hjk hD hE
def nth : List Asn → Nat → Option Asn
  | [], _ => none
  | A :: _, 0 => some A
  | _ :: L, n + 1 => nth L n
theorem nth_get : ∀ (L : List Asn) (i : Nat), nth L i = L[i]?
  | [], _ => by simp [nth]
  | _ :: _, 0 => rfl
  | _ :: L, n + 1 => by simp [nth, nth_get L n]
def pick (L : List Asn) : List Nat → List Asn
  | [] => []
  | i :: l => match nth L i with | some A => A :: pick L l | none => pick L l
def inB (L : List Asn) : List Nat → Bool
  | [] => true
  | i :: l => (match nth L i with | some _ => true | none => false) && !l.contains i && inB L l
theorem pick_get {L : List Asn} : ∀ {l : List Nat}, inB L l = true → ∀ (k : Nat) A, (pick L l)[k]? = some A → ∃ i, l[k]? = some i ∧ L[i]? = some A
  | [], _, k, A, h => by simp [pick] at h
  | i :: l, hb, k, A, h => by
    simp only [inB, Bool.and_eq_true] at hb
    cases hn : nth L i with
    | none => rw [hn] at hb; simp at hb
    | some B =>
      simp only [pick, hn] at h
      cases k with
      | zero => simp at h; subst h; exact ⟨i, rfl, by rw [← nth_get]; exact hn⟩
      | succ k => simp at h; simpa using pick_get hb.2 k A h
theorem inB_nodup {L : List Asn} : ∀ {l : List Nat}, inB L l = true → l.Nodup
  | [], _ => List.nodup_nil
  | i :: l, h => by
    simp only [inB, Bool.and_eq_true, Bool.not_eq_true', List.contains_eq_mem, decide_eq_false_iff_not] at h
    exact List.nodup_cons.2 ⟨h.1.2, inB_nodup h.2⟩
theorem St.pick (S : St G w0 w L) (l : List Nat) (hb : inB L l = true) : St G w0 w (pick L l) := by
  obtain ⟨Fs, hf, hd⟩ := S.ex
  have hn := inB_nodup hb
  refine ⟨S.keep, fun k => Fs (l.getD k 0), fun k A hk => ?_, fun j k A B hjk hj hk => ?_⟩
  · obtain ⟨i, h1, h2⟩ := pick_get hb k A hk
    simp only [List.getD, h1, Option.getD_some]
    exact hf i A h2
  · obtain ⟨a, h1, h2⟩ := pick_get hb j A hj
    obtain ⟨b, g1, g2⟩ := pick_get hb k B hk
    simp only [List.getD, h1, g1, Option.getD_some]
    have hab : a ≠ b := fun e => by
      obtain ⟨x1, x2⟩ := List.getElem?_eq_some_iff.1 h1
      obtain ⟨y1, y2⟩ := List.getElem?_eq_some_iff.1 g1
      have := (List.getElem_inj hn).1 (x2.trans (e.trans y2.symm))
      omega
    rcases Nat.lt_or_gt_of_ne hab with h | h
    · exact hd a b A B h h2 g2
    · rcases hd b a B A h g2 h2 with ⟨e1, e2⟩ | e
      · exact .inl ⟨e2, e1⟩
      · exact .inr fun x hx hx' => e x hx' hx
theorem St.share {F : Nat → Prop} (S : St G w0 w L) (hsh : A.sh = true) (hall : L.all (·.sh) = true) (hA : A.at_ w F) : St G w0 w (A :: L) := by
  obtain ⟨Fs, h, hd⟩ := S.ex
  rw [List.all_eq_true] at hall
  refine ⟨S.keep, fun i => match i with | 0 => F | i + 1 => Fs i, fun i B hi => ?_, fun i j B C hij hi hj => ?_⟩
  · cases i with
    | zero => simp at hi; subst hi; exact ⟨hA, fun e => by rw [hsh] at e; cases e⟩
    | succ i => simp at hi; exact h i B hi
  · cases j with
    | zero => omega
    | succ j =>
      simp at hj
      cases i with
      | zero => simp at hi; subst hi; exact .inl ⟨hsh, hall C (List.mem_of_getElem? hj)⟩
      | succ i => simp at hi; exact hd i j B C (by omega) hi hj
theorem St.join {N : List Asn} (S : St G w0 w L) (T : St (fun _ => False) w w' N) (hN : N.all (fun A => !A.sh) = true) : St G w0 w' (N ++ L) := by
  obtain ⟨Fs, h0, hd⟩ := S.ex
  obtain ⟨Gs, g, gd⟩ := T.ex
  rw [List.all_eq_true] at hN
  have own : ∀ (i : Nat) (A : Asn), N[i]? = some A → A.sh = false := fun i A hi => by simpa using hN A (List.mem_of_getElem? hi)
  have hK := T.keep
  refine ⟨S.keep.trans hK (fun _ _ h => ⟨h, id⟩), fun i => if i < N.length then Gs i else Fs (i - N.length), fun i A hi => ?_, fun i j A B hij hi hj => ?_⟩
  · by_cases e : i < N.length
    · rw [List.getElem?_append_left e] at hi
      simp only [if_pos e]
      refine ⟨(g i A hi).1, fun ho b hb => ?_⟩
      rcases (g i A hi).2 ho b hb with h | h
      · exact h.elim
      · exact .inr (Nat.le_trans S.size h)
    · rw [List.getElem?_append_right (by omega)] at hi
      simp only [if_neg e]
      exact ⟨A.loc (h0 _ A hi).1 (fun b hb => hK.block b (A.lt (h0 _ A hi).1 b hb) id), (h0 _ A hi).2⟩
  · by_cases e : i < N.length
    · rw [List.getElem?_append_left e] at hi
      by_cases e' : j < N.length
      · rw [List.getElem?_append_left e'] at hj
        simp only [if_pos e, if_pos e']
        exact gd i j A B hij hi hj
      · rw [List.getElem?_append_right (by omega)] at hj
        simp only [if_pos e, if_neg e']
        refine .inr fun b hb hb' => ?_
        rcases (g i A hi).2 (own i A hi) b hb with h | h
        · exact h
        · have := B.lt (h0 _ B hj).1 b hb'; omega
    · rw [List.getElem?_append_right (by omega)] at hi hj
      simp only [if_neg e, if_neg (show ¬ j < N.length by omega)]
      exact hd _ _ A B (by omega) hi hj
end
end Go.Proofs.YtmjljoaakdocaaaGreatDoor.Mem
