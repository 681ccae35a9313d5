import Derived.Test.YtkcnbejpmknaoaaDoorW03
import Derived.Lib.ItoaNum
import Derived.Laws.Concat
import Derived.Laws.Strings3
import Derived.Laws.BytesString
import Derived.Test.YtkcnbejpmknaoaaDoorProg
import Derived.WalkKit
import Derived.WalkSpells
import Derived.WalkLawsBesides
import Derived.Lib.BufferWrite
import Derived.Lib.UnsafeStr
import Derived.Lib.AppendStr
/- Things to do as a text, plain (chapter 21). No program in sight. -/
namespace Go.Proofs.YtkcnbejpmknaoaaDoor
open Go

def manyI (k : Int) : Nat := if k = 1 then 2 else if k = 2 then 0 else 1
def toldE (d : DoE) : DoE := ⟨d.what, if manyI d.what < 1 then 0 else d.a, if manyI d.what < 2 then 0 else d.b⟩
def mayE (d : DoE) : Bool := decide (0 ≤ d.what) && decide (d.what ≤ 3) && decide (0 ≤ (toldE d).a) && decide ((toldE d).a ≤ 4095) && decide (0 ≤ (toldE d).b) && decide ((toldE d).b ≤ 4095)
def sameD (d e : DoE) : Bool := decide ((toldE d).what = (toldE e).what) && decide ((toldE d).a = (toldE e).a) && decide ((toldE d).b = (toldE e).b)
def nameI (k : Int) : List UInt8 := if k = 0 then [115, 116, 101, 112] else if k = 1 then [100, 101, 108, 105, 118, 101, 114] else if k = 2 then [114, 111, 117, 110, 100] else [99, 97, 110, 99, 101, 108]
def numT (n : Int) : List UInt8 := Lib.decDigits n.toNat
def textE (d : DoE) : List UInt8 := nameI d.what ++ (if 0 < manyI d.what then 32 :: numT d.a else []) ++ (if 1 < manyI d.what then 32 :: numT d.b else [])
def rowT (d : DoE) (n : Nat) : List UInt8 := textE d ++ (if 1 < n then 32 :: 120 :: numT n else []) ++ [10]
def rowsGo : Nat → List DoE → List UInt8
  | _, [] => []
  | n, d :: r => match r with
    | [] => rowT d (n + 1)
    | e :: r' => if n + 1 < 4095 ∧ sameD e d = true then rowsGo (n + 1) (e :: r') else rowT d (n + 1) ++ rowsGo 0 (e :: r')
def printE (l : List DoE) : List UInt8 × Int := if l.all mayE = true then (if l.length ≤ 4096 then (rowsGo 0 l, 0) else ([], 11)) else ([], 10)
def runD (d : DoE) : Nat → List DoE → Nat
  | 0, _ => 0
  | _, [] => 0
  | m + 1, e :: r => if sameD e d = true then runD d m r + 1 else 0
theorem same_iff {d e : DoE} : sameD d e = true ↔ toldE d = toldE e := by
  unfold sameD
  simp only [Bool.and_eq_true, decide_eq_true_eq]
  constructor
  · rintro ⟨⟨a, b⟩, c⟩
    cases h1 : toldE d
    cases h2 : toldE e
    rw [h1, h2] at a b c
    simp only at a b c
    rw [a, b, c]
  · intro h; rw [h]; exact ⟨⟨rfl, rfl⟩, rfl⟩
theorem text_same {d e : DoE} (h : sameD d e = true) : textE d = textE e := by
  have h1 := congrArg DoE.what (same_iff.1 h)
  have h2 := congrArg DoE.a (same_iff.1 h)
  have h3 := congrArg DoE.b (same_iff.1 h)
  simp only [toldE] at h1 h2 h3
  rw [← h1] at h2 h3
  unfold textE
  rw [← h1]
  congr 1
  · congr 1
    split
    · rename_i hm; rw [if_neg (by omega), if_neg (by omega)] at h2; rw [h2]
    · rfl
  · split
    · rename_i hm; rw [if_neg (by omega), if_neg (by omega)] at h3; rw [h3]
    · rfl
theorem run_le (d : DoE) : ∀ (m : Nat) (l : List DoE), runD d m l ≤ m ∧ runD d m l ≤ l.length
  | 0, l => by simp [runD]
  | m + 1, [] => by simp [runD]
  | m + 1, e :: r => by
    unfold runD
    split
    · have := run_le d m r; simp; omega
    · simp
theorem rows_run (d0 : DoE) : ∀ (r : List DoE) (d : DoE) (n : Nat), n ≤ 4094 → sameD d d0 = true →
    rowsGo n (d :: r) = rowT d0 (n + 1 + runD d0 (4094 - n) r) ++ rowsGo 0 (r.drop (runD d0 (4094 - n) r))
  | [], d, n, hn, hs => by
    have hz : runD d0 (4094 - n) [] = 0 := by cases 4094 - n <;> rfl
    rw [hz]
    unfold rowsGo rowT
    rw [text_same hs]
    simp [rowsGo]
  | e :: r', d, n, hn, hs => by
    rw [rowsGo]
    have ht := same_iff.1 hs
    have hq : sameD e d = sameD e d0 := by unfold sameD; rw [ht]
    by_cases h : n + 1 < 4095 ∧ sameD e d = true
    · rw [if_pos h, rows_run d0 r' e (n + 1) (by omega) (by rw [← hq]; exact h.2)]
      have e1 : 4094 - n = (4094 - (n + 1)) + 1 := by omega
      rw [e1, runD, if_pos (by rw [← hq]; exact h.2), List.drop_succ_cons, show n + 1 + 1 + runD d0 (4094 - (n + 1)) r' = n + 1 + (runD d0 (4094 - (n + 1)) r' + 1) by omega]
    · rw [if_neg h]
      have hz : runD d0 (4094 - n) (e :: r') = 0 := by
        rcases Nat.lt_or_ge n 4094 with h4 | h4
        · have e1 : 4094 - n = (4094 - (n + 1)) + 1 := by omega
          rw [e1, runD, if_neg (fun q => h ⟨by omega, by rw [hq]; exact q⟩)]
        · rw [show 4094 - n = 0 by omega]; rfl
      rw [hz]
      unfold rowT
      rw [text_same hs]
      simp
theorem same_refl (d : DoE) : sameD d d = true := same_iff.2 rfl
theorem rows_cons (d : DoE) (r : List DoE) : rowsGo 0 (d :: r) = rowT d (1 + runD d 4094 r) ++ rowsGo 0 (r.drop (runD d 4094 r)) := by
  rw [rows_run d r d 0 (by omega) (same_refl d), Nat.zero_add]
theorem run_at (d : DoE) : ∀ (m : Nat) (l : List DoE) (k : Nat), k ≤ m → k ≤ l.length → (∀ j e, j < k → l[j]? = some e → sameD e d = true) → (k = m ∨ k = l.length ∨ ∃ e, l[k]? = some e ∧ sameD e d = false) → runD d m l = k
  | 0, l, k, hk, _, _, _ => by obtain rfl : k = 0 := by omega
                               rfl
  | m + 1, [], k, _, hl, _, _ => by obtain rfl : k = 0 := by simpa using hl
                                    rfl
  | m + 1, e :: r, 0, _, _, _, he => by
    rcases he with he | he | ⟨x, hx, hs⟩
    · omega
    · simp at he
    · simp only [List.getElem?_cons_zero, Option.some.injEq] at hx
      subst hx
      rw [runD, if_neg (by rw [hs]; decide)]
  | m + 1, e :: r, k + 1, hk, hl, h, he => by
    have h0 := h 0 e (by omega) rfl
    rw [runD, if_pos h0, run_at d m r k (by omega) (by simpa using hl) (fun j x hj hx => h (j + 1) x (by omega) (by simpa using hx)) ?_]
    rcases he with he | he | ⟨x, hx, hs⟩
    · exact .inl (by omega)
    · exact .inr (.inl (by simpa using he))
    · exact .inr (.inr ⟨x, by simpa using hx, hs⟩)
theorem dec_step (u : Nat) : Lib.decDigits u = if u < 10 then [UInt8.ofNat (48 + u)] else Lib.decDigits (u / 10) ++ [UInt8.ofNat (48 + u % 10)] := by
  rw [Lib.decDigits]
  split <;> rfl
theorem dec_len4 : ∀ u : Fin 4097, (Lib.decDigits u.val).length ≤ 4 := by
  intro u
  have hu := u.isLt
  have h10 : ∀ v, v < 10 → (Lib.decDigits v).length = 1 := fun v hv => by rw [dec_step, if_pos hv]; rfl
  have h100 : ∀ v, v < 100 → (Lib.decDigits v).length ≤ 2 := fun v hv => by
    rw [dec_step]; split
    · simp
    · rw [List.length_append, h10 _ (by omega)]; simp
  have h1000 : ∀ v, v < 1000 → (Lib.decDigits v).length ≤ 3 := fun v hv => by
    rw [dec_step]; split
    · simp
    · have := h100 (v / 10) (by omega); rw [List.length_append]; simp; omega
  rw [dec_step]; split
  · simp
  · have := h1000 (u.val / 10) (by omega); rw [List.length_append]; simp; omega
theorem numT_len {n : Int} (h : n ≤ 4096) : (numT n).length ≤ 4 := dec_len4 ⟨n.toNat, by omega⟩
theorem may_of {d : DoE} (h : mayE d = true) : 0 ≤ d.what ∧ d.what ≤ 3 ∧ 0 ≤ (toldE d).a ∧ (toldE d).a ≤ 4095 ∧ 0 ≤ (toldE d).b ∧ (toldE d).b ≤ 4095 := by
  unfold mayE at h
  simp only [Bool.and_eq_true, decide_eq_true_eq] at h
  omega
theorem text_len {d : DoE} (h : mayE d = true) : (textE d).length ≤ 17 := by
  obtain ⟨_, _, _, h4, _, h6⟩ := may_of h
  have hn : (nameI d.what).length ≤ 7 := by unfold nameI; repeat' split
                                            all_goals decide
  unfold textE
  rw [List.length_append, List.length_append]
  simp only [toldE] at h4 h6
  split
  · rw [if_neg (by omega)] at h4
    have := numT_len (n := d.a) (by omega)
    split
    · rw [if_neg (by omega)] at h6
      have := numT_len (n := d.b) (by omega)
      simp only [List.length_cons]; omega
    · simp only [List.length_cons, List.length_nil]; omega
  · split
    · rename_i h1 h2; omega
    · simp only [List.length_nil]; omega
theorem row_len {d : DoE} {n : Nat} (h : mayE d = true) (hn : n ≤ 4096) : (rowT d n).length ≤ 24 := by
  have := text_len h
  unfold rowT
  rw [List.length_append, List.length_append]
  split
  · have := numT_len (n := (n : Int)) (by omega)
    simp only [List.length_cons, List.length_nil]; omega
  · simp only [List.length_cons, List.length_nil]; omega
end Go.Proofs.YtkcnbejpmknaoaaDoor
/- Operations on strings as laws: a string as a list of bytes. Over any program. -/
namespace Go.Proofs.YtkcnbejpmknaoaaDoor
open Go

def str (l : List UInt8) : ByteArray := ⟨l.toArray⟩
def strV (l : List UInt8) : Value := .string (str l)
def strcell (l : List UInt8) : List Value := [strV l]
theorem strcells : ∀ x, (strcell x).length = 1 := fun _ => rfl
theorem strone : ∀ x, ∀ u ∈ strcell x, u.oneCell' = true := fun x u hu => by
  simp only [strcell, List.mem_singleton] at hu; subst hu; rfl
theorem str_size (l : List UInt8) : (str l).size = l.length := by simp [str, ByteArray.size]
theorem str_toList (l : List UInt8) : (str l).toList = l := ByteArray.toList_mk l
theorem str_data (l : List UInt8) : (str l).data.toList = l := by simp [str]
theorem str_of (s : ByteArray) : s = str s.data.toList := (Lib.mk_data s).symm
end Go.Proofs.YtkcnbejpmknaoaaDoor
namespace Go.Proofs.YtkcnbejpmknaoaaDoor.Mem
open Go Go.RowKit Reg
section
variable {P : Program} {ops : Array Oper} {rest : List Oper} {a : Act} {Q : Exit → Act → World → Prop} {d : Option Tmp} {tt : TypeId} {p : String} {af : Array Edge} {gd : Option (Nat × Bool)} {x y : Operand} {w : World}
theorem wps_slen {l : List UInt8} {T : TypeId} (hx : a.eval x = strV l) (hT : P.underlying T = some .string) (next : wpList P ops Q rest (a.put d (.int .i64 l.length)) w) (hgd : gOk gd ops a = true := by with_unfolding_all rfl) :
    wpList P ops Q ({ dst := d, op := .call { callee := .builtin .len, args := #[x], argTypes := #[T] }, type := tt, pos := p, after := af, guard := gd } :: rest) a w :=
  wpList_ok hgd fun K hK => by
    have hr : (Builtin.len_ #[T] tt #[strV l]).run P w = .ok (.int .i64 l.length) w := by
      show (Builtin.len_ #[T] tt #[.string (str l)]).run P w = _
      rw [run_len_string w T tt (str l) hT, str_size]; rfl
    unfold Oper.wp execOp
    simp only [resolve, invoke, builtin, Sem.run_bind, Sem.run_pure, Result.andThen_ok, List.map_toArray, List.map_cons, List.map_nil, hx, hr]
    exact hK _ _ next
theorem wps_sidx {l : List UInt8} {T : TypeId} {k : IntKind} {j : Int} {b : UInt8} {z : Int} (hb : l[j.toNat]? = some b) (hx : a.eval x = strV l) (hy : a.eval y = .int k j) (h0 : 0 ≤ j) (hT : P.underlying T = some .string) (hz : (b.toNat : Int) = z)
    (next : wpList P ops Q rest (a.put d (.int .u8 z)) w) (hgd : gOk gd ops a = true := by with_unfolding_all rfl) : wpList P ops Q ({ dst := d, op := .index T x y, type := tt, pos := p, after := af, guard := gd } :: rest) a w :=
  wpList_ok hgd fun K hK => by
    have hl : j.toNat < l.length := (List.getElem?_eq_some_iff.1 hb).1
    have hi : j.toNat < (str l).size := by rw [str_size]; exact hl
    have hr : (Instr.index T (strV l) (.int k j)).run P w = .ok (.int .u8 z) w := by
      show (Instr.index T (.string (str l)) (.int k j)).run P w = _
      rw [run_index_string w T (str l) k j hT, dif_pos ⟨h0, by omega⟩, ← hz]
      have e : (str l)[j.toNat] = b := by
        have := (List.getElem?_eq_some_iff.1 hb).2
        rw [← this]; rfl
      rw [e]
    unfold Oper.wp execOp
    simp only [hx, hy, hr, Sem.run_bind, Sem.run_pure, Result.andThen_ok]
    exact hK _ _ next
theorem wps_seql {l m : List UInt8} {T U : TypeId} {b : Bool} (hx : a.eval x = strV l) (hy : a.eval y = strV m) (hb : decide (l = m) = b)
    (next : wpList P ops Q rest (a.put d (.bool b)) w) (hgd : gOk gd ops a = true := by with_unfolding_all rfl) : wpList P ops Q ({ dst := d, op := .binOp .eql T x y U, type := tt, pos := p, after := af, guard := gd } :: rest) a w :=
  wpList_ok hgd fun K hK => by
    have he : ((str l).toList == (str m).toList) = b := by rw [str_toList, str_toList, ← hb, Bool.beq_eq_decide_eq]
    have hn : wpList P ops Q rest (a.put d (.bool ((str l).toList == (str m).toList))) w := by rw [he]; exact next
    unfold Oper.wp execOp
    simp only [hx, hy, Sem.run_bind, Sem.run_pure]
    exact hK _ _ hn
theorem wps_sneq {l m : List UInt8} {T U : TypeId} {b : Bool} (hx : a.eval x = strV l) (hy : a.eval y = strV m) (hb : decide (l ≠ m) = b)
    (next : wpList P ops Q rest (a.put d (.bool b)) w) (hgd : gOk gd ops a = true := by with_unfolding_all rfl) : wpList P ops Q ({ dst := d, op := .binOp .neq T x y U, type := tt, pos := p, after := af, guard := gd } :: rest) a w :=
  wpList_ok hgd fun K hK => by
    have he : (!(str l).toList == (str m).toList) = b := by rw [str_toList, str_toList, ← hb, Bool.beq_eq_decide_eq]; simp
    have hn : wpList P ops Q rest (a.put d (.bool (!(str l).toList == (str m).toList))) w := by rw [he]; exact next
    unfold Oper.wp execOp
    simp only [hx, hy, Sem.run_bind, Sem.run_pure]
    exact hK _ _ hn
theorem wps_sadd {l m : List UInt8} {T U : TypeId} (hx : a.eval x = strV l) (hy : a.eval y = strV m) (hn : l.length + m.length ≤ 9223372036854775807)
    (next : wpList P ops Q rest (a.put d (strV (l ++ m))) w) (hgd : gOk gd ops a = true := by with_unfolding_all rfl) : wpList P ops Q ({ dst := d, op := .binOp .add T x y U, type := tt, pos := p, after := af, guard := gd } :: rest) a w :=
  wpList_ok hgd fun K hK => by
    have hr : (binOp .add T (strV l) (strV m)).run P w = .ok (strV (l ++ m)) w := by
      show (binOp .add T (.string (str l)) (.string (str m))).run P w = _
      rw [binOp_string_add, run_string_add_sum w _ _ (by rw [str_size, str_size]; omega)]
      unfold strV str
      rw [ByteArray.mk_append_mk]
    unfold Oper.wp execOp
    have hg : (eqGuard .add T x y (strV l) (strV m)).run P w = .ok () w := rfl
    simp only [hx, hy, hg, hr, Sem.run_bind, Sem.run_pure, Result.andThen_ok]
    exact hK _ _ next
theorem wps_ssub {l : List UInt8} {T : TypeId} {k k' : IntKind} {i j : Nat} {lo hi : Operand} (hx : a.eval x = strV l) (hlo : a.eval lo = .int k i) (hhi : a.eval hi = .int k' j) (hT : P.underlying T = some .string) (h1 : i ≤ j) (h2 : j ≤ l.length)
    (next : wpList P ops Q rest (a.put d (strV ((l.drop i).take (j - i)))) w) (hgd : gOk gd ops a = true := by with_unfolding_all rfl) : wpList P ops Q ({ dst := d, op := .slice T x (some lo) (some hi) none, type := tt, pos := p, after := af, guard := gd } :: rest) a w :=
  wpList_ok hgd fun K hK => by
    have hr : (Instr.slice T (strV l) (some (.int k i)) (some (.int k' j)) none).run P w = .ok (strV ((l.drop i).take (j - i))) w := by
      show (Instr.slice T (.string (str l)) _ _ _).run P w = _
      rw [run_slice_string w T (str l) k k' i j hT (by omega) (by omega) (by rw [str_size]; omega)]
      unfold strV str
      rw [Int.toNat_natCast, Int.toNat_natCast, ByteArray.extract_mk]
    unfold Oper.wp execOp
    simp only [Option.map_some, Option.map_none, hx, hlo, hhi, run_sliceAt_string w T _ _ _ _ hT, hr, Sem.run_bind, Sem.run_pure, Result.andThen_ok]
    exact hK _ _ next
theorem wps_sfrom {l m : List UInt8} {T : TypeId} {k : IntKind} {i : Nat} {lo : Operand} (hx : a.eval x = strV l) (hlo : a.eval lo = .int k i) (hT : P.underlying T = some .string) (h1 : i ≤ l.length) (hm : l.drop i = m)
    (next : wpList P ops Q rest (a.put d (strV m)) w) (hgd : gOk gd ops a = true := by with_unfolding_all rfl) : wpList P ops Q ({ dst := d, op := .slice T x (some lo) none none, type := tt, pos := p, after := af, guard := gd } :: rest) a w :=
  wpList_ok hgd fun K hK => by
    subst hm
    have hr : (Instr.slice T (strV l) (some (.int k i)) none none).run P w = .ok (strV (l.drop i)) w := by
      show (Instr.slice T (.string (str l)) _ _ _).run P w = _
      rw [run_slice_string_l w T (str l) hT k i (by omega) (by rw [str_size]; omega)]
      unfold strV
      rw [Int.toNat_natCast, str_size]
      unfold str
      rw [ByteArray.extract_mk]
      congr 4
      rw [List.take_of_length_le (by simp)]
    unfold Oper.wp execOp
    simp only [Option.map_some, Option.map_none, hx, hlo, run_sliceAt_string w T _ _ _ _ hT, hr, Sem.run_bind, Sem.run_pure, Result.andThen_ok]
    exact hK _ _ next
end
end Go.Proofs.YtkcnbejpmknaoaaDoor.Mem
/- Several results, of which some lie in cells. Over any program. -/
namespace Go.Proofs.YtkcnbejpmknaoaaDoor.Mem
open Go Go.RowKit Reg

def ResV (P : Program) (w : World) (tmps : Array Value) : ResultVar → Value → Prop
  | .tmp t, v => tmps.getD t undef = v
  | .cell q t, v => ∃ b, tmps.getD q undef = .pointer (some ⟨b, 0, none⟩) ∧ (loadVar t ⟨b, 0, none⟩).run P w = .ok v w
section
variable {P : Program} {fn : Func} {tmps : Array Value} {G : Nat → Prop} {w0 w : World} {L : List Asn} {r1 r2 r3 : ResultVar} {v1 v2 v3 : Value}
theorem results2 (h : fn.results = #[r1, r2]) (h1 : ResV P w tmps r1 v1) (h2 : ResV P w tmps r2 v2) : (results fn tmps).run P w = .ok (.tuple #[v1, v2]) w := by
  cases r1 <;> cases r2 <;> simp only [ResV, Array.getD_eq_getD_getElem?] at h1 h2
  · simp [results, h, h1, h2]
  · obtain ⟨b2, p2, l2⟩ := h2; simp [results, h, h1, p2, asAddr, l2]
  · obtain ⟨b1, p1, l1⟩ := h1; simp [results, h, h2, p1, asAddr, l1]
  · obtain ⟨b1, p1, l1⟩ := h1; obtain ⟨b2, p2, l2⟩ := h2; simp [results, h, p1, p2, asAddr, l1, l2]
theorem results3 (h : fn.results = #[r1, r2, r3]) (h1 : ResV P w tmps r1 v1) (h2 : ResV P w tmps r2 v2) (h3 : ResV P w tmps r3 v3) : (results fn tmps).run P w = .ok (.tuple #[v1, v2, v3]) w := by
  cases r1 <;> cases r2 <;> cases r3 <;> simp only [ResV, Array.getD_eq_getD_getElem?] at h1 h2 h3
  · simp [results, h, h1, h2, h3]
  · obtain ⟨b3, p3, l3⟩ := h3; simp [results, h, h1, h2, p3, asAddr, l3]
  · obtain ⟨b2, p2, l2⟩ := h2; simp [results, h, h1, h3, p2, asAddr, l2]
  · obtain ⟨b2, p2, l2⟩ := h2; obtain ⟨b3, p3, l3⟩ := h3; simp [results, h, h1, p2, p3, asAddr, l2, l3]
  · obtain ⟨b1, p1, l1⟩ := h1; simp [results, h, h2, h3, p1, asAddr, l1]
  · obtain ⟨b1, p1, l1⟩ := h1; obtain ⟨b3, p3, l3⟩ := h3; simp [results, h, h2, p1, p3, asAddr, l1, l3]
  · obtain ⟨b1, p1, l1⟩ := h1; obtain ⟨b2, p2, l2⟩ := h2; simp [results, h, h3, p1, p2, asAddr, l1, l2]
  · obtain ⟨b1, p1, l1⟩ := h1; obtain ⟨b2, p2, l2⟩ := h2; obtain ⟨b3, p3, l3⟩ := h3; simp [results, h, p1, p2, p3, asAddr, l1, l2, l3]
theorem St.resA {sh : Bool} {b : Nat} {cs : Array Value} {t ty : TypeId} {q : Tmp} (S : St G w0 w L) (i : Nat) (hi : L[i]? = some (Blk sh b cs t)) (hp : tmps.getD q undef = .pointer (some ⟨b, 0, none⟩)) (hA : aggB P ty cs.size = true) : ResV P w tmps (.cell q ty) (.agg cs) := by
  refine ⟨b, hp, ?_⟩
  have hl := run_loadVar_agg (P := P) (t := ty) (b := b) (o := 0) (w := w) (vs := cs.toList) (by simpa using hA) (fun j u hj => by rw [Nat.zero_add, cell_of (S.blk i hi)]; simpa using hj)
  simpa using hl
theorem res_tmp {t : Tmp} {v : Value} (h : tmps.getD t undef = v) : ResV P w tmps (.tmp t) v := h
end
end Go.Proofs.YtkcnbejpmknaoaaDoor.Mem
/- The walks of the reference's split, fields, number (chapter 21). -/
namespace Go.Proofs.YtkcnbejpmknaoaaDoor
open Go Go.RowKit Reg Mem

set_option maxRecDepth 100000 in
theorem elem_Str : Elem Tryd.prog 40 9 1 16 := ⟨_, .string ⟨#[]⟩, Tryd.underlying40, rfl, by kernel_rfl, by kernel_rfl, by kernel_rfl, by kernel_rfl, by omega⟩
def SpRel (s : List UInt8) (c : UInt8) (w : World) (out now i : Value) (wr : World) : Prop :=
  ∃ (k : Nat) (l : List (List UInt8)) (q : List UInt8), k ≤ s.length ∧ i = .int .i64 k ∧ now = strV q ∧ Hid (q.length ≤ k) ∧ Hid (l.length ≤ k) ∧ Hid (l ++ splitGo c q (s.drop k) = splitGo c [] s) ∧ St (fun _ => False) w wr [Own 9 strcell 1 out l]
def WdRel (s : List UInt8) (w : World) (out now i : Value) (wr : World) : Prop :=
  ∃ (k : Nat) (l : List (List UInt8)) (q : List UInt8), k ≤ s.length ∧ i = .int .i64 k ∧ now = strV q ∧ Hid (q.length ≤ k) ∧ Hid (l.length ≤ k) ∧ Hid (l ++ wordsGo q (s.drop k) = wordsGo [] s) ∧ St (fun _ => False) w wr [Own 9 strcell 1 out l]
theorem u8_is (b : UInt8) (n : Nat) (hn : n < 256) : ((b.toNat : Int) == (n : Int)) = (b == UInt8.ofNat n) := by
  rw [Bool.eq_iff_iff, beq_iff_eq, beq_iff_eq]
  constructor
  · intro e; apply UInt8.toNat_inj.1; rw [UInt8.toNat_ofNat']; omega
  · intro e; subst e; rw [UInt8.toNat_ofNat']; omega
def rnumE (l : List UInt8) : Int := if (numE l).2 = 15 then -1 else if (numE l).2 = 10 then 9999 else (numE l).1
set_option maxRecDepth 100000 in
theorem rmany_calls (k : Int) (w : World) : Calls Tryd.prog 25 #[.int .i64 k] w fun e w' => e = .returned (.int .i64 (manyI k)) ∧ Below w.heap.size w w' := by
  have S := St.init (fun _ => False) w
  by_cases h1 : k = 1
  · subst h1
    go_enter Tryd.func25, Tryd.ntmps25
    go_wp2_with first | ((with_reducible refine tot_done ?ht ?_); (case ht => kernel_rfl))
    go_ret
    exact ⟨rfl, S.below⟩
  · by_cases h2 : k = 2
    · subst h2
      go_enter Tryd.func25, Tryd.ntmps25
      go_wp2_with first | ((with_reducible refine tot_done ?ht ?_); (case ht => kernel_rfl))
      go_ret
      exact ⟨rfl, S.below⟩
    · have c1 : (k == 1) = false := by simpa using h1
      have c2 : (k == 2) = false := by simpa using h2
      have HM : Hid (manyI k = 1) := Lib.hid (by unfold manyI; rw [if_neg h1, if_neg h2])
      clear h1 h2
      go_enter Tryd.func25, Tryd.ntmps25
      go_wp2_with first | ((with_reducible refine tot_done ?ht ?_); (case ht => kernel_rfl))
      go_ret
      rw [HM.out]
      exact ⟨rfl, S.below⟩
set_option maxRecDepth 100000 in
theorem rname_calls (k : Int) (w : World) : Calls Tryd.prog 24 #[.int .i64 k] w fun e w' => e = .returned (strV (nameI k)) ∧ Below w.heap.size w w' := by
  have S := St.init (fun _ => False) w
  by_cases h0 : k = 0
  · subst h0
    go_enter Tryd.func24, Tryd.ntmps24
    go_wp2_with first | ((with_reducible refine tot_done ?ht ?_); (case ht => kernel_rfl))
    go_ret
    exact ⟨rfl, S.below⟩
  · by_cases h1 : k = 1
    · subst h1
      go_enter Tryd.func24, Tryd.ntmps24
      go_wp2_with first | ((with_reducible refine tot_done ?ht ?_); (case ht => kernel_rfl))
      go_ret
      exact ⟨rfl, S.below⟩
    · by_cases h2 : k = 2
      · subst h2
        go_enter Tryd.func24, Tryd.ntmps24
        go_wp2_with first | ((with_reducible refine tot_done ?ht ?_); (case ht => kernel_rfl))
        go_ret
        exact ⟨rfl, S.below⟩
      · have c0 : (k == 0) = false := by simpa using h0
        have c1 : (k == 1) = false := by simpa using h1
        have c2 : (k == 2) = false := by simpa using h2
        have HM : Hid (nameI k = [99, 97, 110, 99, 101, 108]) := Lib.hid (by unfold nameI; rw [if_neg h0, if_neg h1, if_neg h2])
        clear h0 h1 h2
        go_enter Tryd.func24, Tryd.ntmps24
        go_wp2_with first | ((with_reducible refine tot_done ?ht ?_); (case ht => kernel_rfl))
        go_ret
        rw [HM.out]
        exact ⟨rfl, S.below⟩
end Go.Proofs.YtkcnbejpmknaoaaDoor
/- Operations on bytes and runes of strings as laws: append(bytes, s..), copy(bytes, s), unsafe.String, a range over a string. Over any program. -/
namespace Go.Proofs.YtkcnbejpmknaoaaDoor
open Go
def bcell (b : UInt8) : List Value := [.int .u8 b.toNat]
theorem bcells : ∀ x, (bcell x).length = 1 := fun _ => rfl
end Go.Proofs.YtkcnbejpmknaoaaDoor
namespace Go.Proofs.YtkcnbejpmknaoaaDoor.Mem
open Go Go.RowKit Reg

/-! ### What an operation draws -/
theorem ask_drawn {α : Type} : ∀ (x : Ask α) (w : World), w.drawn ≤ (w.ask x).2.drawn
  | .done a, w => Nat.le_refl _
  | .ask what range k, w => by
    unfold World.ask
    simp only
    split
    · exact ask_drawn _ w
    · exact Nat.le_trans (Nat.le_succ _) (ask_drawn (k _) { w with drawn := w.drawn + 1 })
theorem sys_drawn (w : World) (c : Sys) : w.drawn ≤ (w.sys c).2.drawn := by
  have h := ask_drawn (Kernel.perform c w.os) w
  unfold World.sys
  split
  · exact Nat.le_refl _
  · rename_i e; rw [e] at h; exact h
theorem view_drawn {P : Program} {w w' : World} {at_ k : Addr} {u : TypeId} {v : Value} {b : Bool} {l : List Addr} (h : w.viewStore P at_ u k v b = .ok (w', l)) : w'.drawn = w.drawn := by
  unfold World.viewStore at h
  simp only [bind, Except.bind, pure, Except.pure] at h
  repeat' split at h
  all_goals first | cases h; rfl | cases h
theorem far_drawn {P : Program} {w w' : World} {a : Addr} {v : Value} {b : Bool} {l : List Addr} (h : w.farStore P a v b = .ok (w', l)) : w'.drawn = w.drawn := by
  unfold World.farStore at h
  repeat' split at h
  all_goals first | (rename_i e; cases h; exact view_drawn e) | cases h
theorem run_drawn {P : Program} {α : Type} : ∀ (x : Sem α) (w : World) {v : α} {w' : World}, x.run P w = .ok v w' → w.drawn ≤ w'.drawn
  | .pure a, w, v, w', h => by simp only [Sem.run, Result.ok.injEq] at h; rw [h.2]; exact Nat.le_refl _
  | .load m a k, w, v, w', h => by
    unfold Sem.run at h
    split at h
    · exact run_drawn _ w h
    · split at h
      · exact run_drawn _ w h
      · cases h
  | .store m a x k, w, v, w', h => by
    have key : ∀ (r : Result α), (match w.cell? a with
        | some _ => if w.frozen? a then Result.halt (.unsupported (.unsafePointer "a write to bytes that a string shares")) w else k.run P (w.setCell a x)
        | none => match w.farStore P a x (m == .atomic) with
          | .ok (w1, _) => k.run P w1
          | .error e => .halt e w) = r → r = .ok v w' → w.drawn ≤ w'.drawn := by
      intro r hr he
      subst hr
      split at he
      · split at he
        · cases he
        · exact run_drawn k (w.setCell _ _) he
      · split at he
        · rename_i w1 l e
          have := run_drawn k w1 he
          rw [far_drawn e] at this
          exact this
        · cases he
    cases x with
    | agg _ => simp [Sem.run] at h
    | tuple _ => simp [Sem.run] at h
    | _ => simp only [Sem.run] at h; exact key _ rfl h
  | .new o k, w, v, w', h => by unfold Sem.run at h; exact run_drawn _ { w with heap := w.heap.push o } h
  | .shape r k, w, v, w', h => by unfold Sem.run at h; exact run_drawn _ w h
  | .freeze a n k, w, v, w', h => by
    unfold Sem.run at h
    have := run_drawn k (w.freeze a n) h
    have e : (w.freeze a n).drawn = w.drawn := by unfold World.freeze; split <;> rfl
    rw [e] at this; exact this
  | .frozen a k, w, v, w', h => by unfold Sem.run at h; exact run_drawn _ w h
  | .getObj r k, w, v, w', h => by
    unfold Sem.run at h
    split at h
    · cases h
    · exact run_drawn _ w h
    · cases h
  | .setObj r o k, w, v, w', h => by
    unfold Sem.run at h
    split at h
    · cases h
    · exact run_drawn k { w with heap := w.heap.setIfInBounds r o } h
    · cases h
  | .choose q k, w, v, w', h => by
    unfold Sem.run at h
    split at h
    · exact run_drawn _ w h
    · exact Nat.le_trans (Nat.le_succ _) (run_drawn _ { w with drawn := w.drawn + 1 } h)
  | .sys c k, w, v, w', h => by unfold Sem.run at h; exact Nat.le_trans (sys_drawn w c) (run_drawn _ _ h)
  | .program k, w, v, w', h => by unfold Sem.run at h; exact run_drawn _ w h
  | .mark m k, w, v, w', h => by unfold Sem.run at h; exact run_drawn _ w h
  | .halt hh, w, v, w', h => by simp [Sem.run] at h

section
variable {P : Program} {ops : Array Oper} {rest : List Oper} {a : Act} {Q : Exit → Act → World → Prop} {d : Option Tmp} {tt : TypeId} {p : String} {af : Array Edge} {gd : Option (Nat × Bool)} {x y : Operand}
variable {G : Nat → Prop} {w0 w w' : World} {L : List Asn} {A A' : Asn} {i : Nat}

theorem flat_bytes (l : List UInt8) : flatE bcell l = Lib.byteCells l := by
  induction l with
  | nil => rfl
  | cons b l ih => rw [flatE_cons, ih]; rfl
structure ByteOf (P : Program) (T E : TypeId) : Prop where
  und : P.underlying T = some (.slice E)
  elem : P.underlying E = some (.int .u8)
  info : ∃ i, P.info? E = some i ∧ i.zero = some (.int .u8 0) ∧ i.size = 1 ∧ i.bytes = 1
theorem wps_appendstr {T U E : TypeId} {v : Value} {l : List UInt8} (B : ByteOf P T E) (hU : P.underlying U = some .string) (S : St G w0 w L) (i : Nat) (hi : L[i]? = some (Own E bcell 1 v l)) (m : List UInt8) (hx : a.eval x = v) (hy : a.eval y = strV m) (hl : l.length + m.length ≤ 140737488355328)
    (next : ∀ ad n c w', Hid (n = l.length + m.length) → St G w0 w' (L.set i (Own E bcell 1 (.slice ad n c) (l ++ m))) → wpList P ops Q rest (a.put d (.slice ad n c)) w') (hgd : gOk gd ops a = true := by with_unfolding_all rfl) :
    wpList P ops Q ({ dst := d, op := .call { callee := .builtin .append, args := #[x, y], argTypes := #[T, U] }, type := tt, pos := p, after := af, guard := gd } :: rest) a w := by
  obtain ⟨F0, h0, hF0⟩ := S.get hi
  have hsz := str_size m
  have hsc : Lib.strCells (str m) = Lib.byteCells m := by unfold Lib.strCells; rw [str_data]; rfl
  have run : ∃ v' w', (Builtin.append_ #[T, U] tt #[v, strV m]).run P w = .ok v' w' ∧ Owns E bcell 1 0 w' v' (l ++ m) ∧ Keep (fun b => v.ownBlock = some b) w w' ∧ (v'.ownBlock = v.ownBlock ∨ ∀ b, v'.ownBlock = some b → w.heap.size ≤ b) := by
    obtain ⟨ti, hti, hz, hs1, hb1⟩ := B.info
    have hap : ∀ {lo : Nat} {w' : World} {v' : Value}, w'.ownsRow lo E 1 v' (l.length + m.length) (flatE bcell l ++ Lib.byteCells m) → w'.ownsRow 0 E 1 v' (l ++ m).length (flatE bcell (l ++ m)) := fun h => by
      rw [List.length_append, flatE_append, flat_bytes m]
      exact ⟨h.1, h.2.imp id fun ⟨g, cap, cur, e, _, r⟩ => ⟨g, cap, cur, e, Nat.zero_le _, r⟩⟩
    have fits : l.length + m.length ≤ maxLen := by unfold maxLen; omega
    rcases h0.2 with ⟨rfl, hl0⟩ | ⟨g, cap, cur, rfl, hbg, hg, hnc, hcm, hcs, htake⟩
    · have hl1 : l = [] := List.eq_nil_of_length_eq_zero hl0
      obtain ⟨v', w', hr, hown, hgr, _⟩ := Lib.run_append_own_string (P := P) w w.heap.size T U tt E ti B.und hU hti hz hs1 hb1 (.slice none 0 0) l.length (flatE bcell l) ⟨h0.1, .inl ⟨rfl, hl0⟩⟩ (str m) (by rw [hsz]; exact fits) (by rw [hsz]; exact hl) (Nat.le_refl _)
      rw [hsz, hsc] at hown
      refine ⟨v', w', hr, hap hown, (Keep.refl _ w).grown hgr (run_drawn _ _ hr) (fun q hq => by simp [Value.ownBlock] at hq), .inr fun b hb => ?_⟩
      rcases hown.2 with ⟨rfl, _⟩ | ⟨g, cap, cur, rfl, hbg, _⟩
      · simp [Value.ownBlock] at hb
      · simp only [Value.ownBlock, Option.some.injEq] at hb; subst hb; exact hbg
    · obtain ⟨v', w', hr, hown, hgr, _⟩ := Lib.run_append_own_string (P := P) w 0 T U tt E ti B.und hU hti hz hs1 hb1 (.slice (some ⟨g, 0, none⟩) l.length cap) l.length (flatE bcell l) ⟨h0.1, .inr ⟨g, cap, cur, rfl, hbg, hg, hnc, hcm, hcs, htake⟩⟩ (str m) (by rw [hsz]; exact fits) (by rw [hsz]; exact hl) (Nat.zero_le _)
      rw [hsz, hsc] at hown
      refine ⟨v', w', hr, hap hown, (Keep.refl _ w).grown hgr (run_drawn _ _ hr) (fun q hq => .inl hq), ?_⟩
      by_cases hroom : l.length + m.length ≤ cap
      · have hr2 := Lib.run_append_room_string (P := P) w T U tt E ti B.und hU hti hs1 g l.length cap cur hg (str m) (by rw [hsz]; exact hroom) (by rw [hsz, hcs]; omega)
        have e := hr.symm.trans hr2
        simp only [Result.ok.injEq] at e
        rw [e.1]; exact .inl rfl
      · have holds := World.ownsRow.cells (show w.ownsRow 0 E 1 _ _ _ from h0) (g := g) rfl
        have hr2 := Lib.run_append_grow_string (P := P) w T U tt E ti (.int .u8 0) B.und hU hti hz ⟨g, 0, none⟩ l.length cap (flatE bcell l) (by rw [hs1]; exact h0.1) holds (str m) (by rw [hsz]; omega) (by rw [hsz]; omega) (by rw [hsz, hb1]; exact growslice_fits (by omega) (by omega))
        have e := hr.symm.trans hr2
        simp only [Result.ok.injEq] at e
        rw [e.1]
        exact .inr fun b hb => by simp only [Value.ownBlock, Option.some.injEq] at hb; omega
  obtain ⟨v', w', hr, h2, h3, h4⟩ := run
  have hform := h2.form
  obtain ⟨ad, c, rfl⟩ := hform
  have S' := S.step (A' := Own E bcell 1 (.slice ad (l ++ m).length c) (l ++ m)) hi rfl fun F hF => ⟨fun b => (Value.slice ad (l ++ m).length c).ownBlock = some b, h3.mono (fun x _ h e => h ((hF.2 x).2 e)), ⟨h2, fun _ => Iff.rfl⟩, fun b hb => by
    rcases h4 with e | e
    · exact .inl ((hF.2 b).2 (e ▸ hb))
    · exact .inr (e b hb)⟩
  refine wpList_ok hgd fun _ hK' => ?_
  unfold Oper.wp execOp
  simp only [resolve, invoke, builtin, Sem.run_bind, Sem.run_pure, Result.andThen_ok, List.map_toArray, List.map_cons, List.map_nil, hx, hy, hr]
  exact hK' _ _ (next _ _ _ _ (by simp [Hid]) S')
theorem wps_copystr {T U E : TypeId} {R c n : Nat} {l : List UInt8} (B : ByteOf P T E) (hln : l.length = n) (S : St G w0 w L) (i : Nat) (hi : L[i]? = some (Own E bcell 1 (.slice (some ⟨R, 0, none⟩) n c) l)) (m : List UInt8) (hm : m.length = n) (hx : a.eval x = .slice (some ⟨R, 0, none⟩) n c) (hy : a.eval y = strV m)
    (next : ∀ w', St G w0 w' (L.set i (Own E bcell 1 (.slice (some ⟨R, 0, none⟩) n c) m)) → wpList P ops Q rest (a.put d (.int .i64 m.length)) w') (hgd : gOk gd ops a = true := by with_unfolding_all rfl) :
    wpList P ops Q ({ dst := d, op := .call { callee := .builtin .copy, args := #[x, y], argTypes := #[T, U] }, type := tt, pos := p, after := af, guard := gd } :: rest) a w := by
  subst hln
  obtain ⟨F0, h0, hF0⟩ := S.get hi
  obtain ⟨ti, hti, hz, hs1, hb1⟩ := B.info
  rcases h0.2 with ⟨e, _⟩ | ⟨g, cap, cur, e, hbg, hg, hnc, hcm, hcs, htake⟩
  · cases e
  · simp only [Value.slice.injEq, Option.some.injEq, Addr.mk.injEq] at e
    obtain ⟨⟨rfl, _⟩, _, rfl⟩ := e
    have hsz := str_size m
    have hr := Lib.run_copy_row_string (P := P) w T U tt E R 0 l.length c (str m) cur E B.und (by rw [hti]; simp [hs1]) hg (by omega) (by rw [hsz]; omega)
    rw [str_data, hsz] at hr
    have hown : Owns E bcell 1 0 (w.setRow R (cur.toList.take 0 ++ Lib.byteCells m ++ cur.toList.drop (0 + m.length)).toArray) (.slice (some ⟨R, 0, none⟩) l.length c) m := by
      refine ⟨flatE_length bcells m, .inr ⟨R, c, _, by rw [hm], Nat.zero_le _, setRow_heap w R cur _ E _ hg, by omega, hcm, ?_, ?_⟩⟩
      · simp only [List.size_toArray, List.length_append, List.length_take, List.length_drop, Array.length_toList, Lib.byteCells_length]; omega
      · simp only [List.take_zero, List.nil_append, Nat.mul_one]
        rw [flat_bytes, show m.length = (Lib.byteCells m).length from (Lib.byteCells_length m).symm]
        exact List.take_left
    have hK : Keep (fun b => b = R) w (w.setRow R (cur.toList.take 0 ++ Lib.byteCells m ++ cur.toList.drop (0 + m.length)).toArray) :=
      ⟨rfl, rfl, rfl, by simp, fun b _ hb => setRow_other w R b _ hb, Nat.le_refl _⟩
    have S' := S.step (A' := Own E bcell 1 (.slice (some ⟨R, 0, none⟩) l.length c) m) hi rfl fun F hF => ⟨F, hK.mono (fun x _ h e => h ((hF.2 x).2 (by simp [Value.ownBlock, e]))), ⟨hown, hF.2⟩, fun b hb => .inl hb⟩
    refine wpList_ok hgd fun _ hK' => ?_
    unfold Oper.wp execOp
    have hr2 : (Builtin.copy_ #[T, U] tt #[.slice (some ⟨R, 0, none⟩) l.length c, strV m]).run P w = .ok (.int .i64 m.length) (w.setRow R (cur.toList.take 0 ++ Lib.byteCells m ++ cur.toList.drop (0 + m.length)).toArray) := hr
    simp only [resolve, invoke, builtin, Sem.run_bind, Sem.run_pure, Result.andThen_ok, List.map_toArray, List.map_cons, List.map_nil, hx, hy, hr2]
    exact hK' _ _ (next _ S')
theorem wps_unsafestr {PT IT E : TypeId} {R c : Nat} {l : List UInt8} (hp : P.underlying PT = some (.pointer E)) (hc : P.cellsOf E = 1) (S : St G w0 w (Own E bcell 1 (.slice (some ⟨R, 0, none⟩) l.length c) l :: L)) (h0 : l ≠ [])
    (hx : a.eval x = .pointer (some ⟨R, 0, none⟩)) (hy : a.eval y = .int .i64 l.length) (hn : l.length ≤ 9223372036854775807)
    (next : ∀ w', St G w0 w' L → wpList P ops Q rest (a.put d (strV l)) w') (hgd : gOk gd ops a = true := by with_unfolding_all rfl) :
    wpList P ops Q ({ dst := d, op := .call { callee := .builtin .unsafeString, args := #[x, y], argTypes := #[PT, IT] }, type := tt, pos := p, after := af, guard := gd } :: rest) a w := by
  obtain ⟨Fs, hf, hd⟩ := S.ex
  obtain ⟨⟨hO, hF⟩, hnew⟩ := hf 0 _ rfl
  rcases hO.2 with ⟨e, _⟩ | ⟨g, cap, cur, e, hbg, hg, hnc, hcm, hcs, htake⟩
  · cases e
  · simp only [Value.slice.injEq, Option.some.injEq, Addr.mk.injEq] at e
    obtain ⟨⟨rfl, _⟩, _, rfl⟩ := e
    have hsh : w.shape? R = some (E, cur.size) := by simp [World.shape?, hg]
    have hcells := World.ownsRow.cells (show w.ownsRow 0 E 1 _ _ _ from hO) (g := R) rfl
    have hr := Lib.run_unsafeString_row (P := P) w PT IT tt E hp hc R cur.size hsh l h0 (by rw [hcs]; omega) hn (fun j x hj => hcells j _ (by rw [flat_bytes]; simp [Lib.byteCells, hj]))
    have hblk : ∀ b, b ≠ R → (w.freeze ⟨R, 0, none⟩ l.length).heap[b]? = w.heap[b]? := fun b hb => by
      unfold World.freeze
      split
      · rfl
      · simp only [Array.getElem?_modify]; rw [if_neg (fun e => hb e.symm)]
    have hK : Keep (fun b => b = R) w (w.freeze ⟨R, 0, none⟩ l.length) := by
      refine ⟨?_, ?_, ?_, ?_, fun b _ hb => hblk b hb, run_drawn _ _ hr⟩
      all_goals (unfold World.freeze; split <;> first | rfl | simp)
    have hRF : Fs 0 R := (hF R).2 rfl
    have hRn := hnew rfl R hRF
    have S' : St G w0 (w.freeze ⟨R, 0, none⟩ l.length) L := by
      refine ⟨S.keep.trans hK (fun x hx hn => ⟨hn, fun e => ?_⟩), fun j => Fs (j + 1), fun j B hj => ⟨B.loc (hf (j + 1) B hj).1 (fun b hb => hblk b fun e => ?_), (hf (j + 1) B hj).2⟩, fun j k B C hjk hj hk => hd (j + 1) (k + 1) B C (by omega) hj hk⟩
      · subst e; rcases hRn with h | h
        · exact hn h
        · omega
      · subst e
        rcases hd 0 (j + 1) _ B (by omega) rfl hj with ⟨e1, _⟩ | e1
        · cases e1
        · exact e1 b hRF hb
    refine wpList_ok hgd fun _ hK' => ?_
    unfold Oper.wp execOp
    simp only [resolve, invoke, builtin, Sem.run_bind, Sem.run_pure, Result.andThen_ok, List.map_toArray, List.map_cons, List.map_nil, hx, hy, hr]
    exact hK' _ _ (next _ S')
/-! ### A range over a string -/
def IterA (b : Nat) (s : ByteArray) (pos : Nat) : Asn where
  sh := false
  at_ w F := w.heap[b]? = some (.stringIter s pos) ∧ ∀ x, F x ↔ x = b
  loc h hb := ⟨(hb b ((h.2 b).2 rfl)).trans h.1, h.2⟩
  lt h b hb := by rw [(h.2 b).1 hb]; exact (Array.getElem?_eq_some_iff.1 h.1).1
theorem wps_rangestr {T : TypeId} {s : ByteArray} (hT : P.underlying T = some .string) (S : St G w0 w L) (hx : a.eval x = .string s)
    (next : ∀ b w', St G w0 w' (IterA b s 0 :: L) → wpList P ops Q rest (a.put d (.pointer (some ⟨b, 0, none⟩))) w') (hgd : gOk gd ops a = true := by with_unfolding_all rfl) :
    wpList P ops Q ({ dst := d, op := .range T x, type := tt, pos := p, after := af, guard := gd } :: rest) a w :=
  wpList_ok hgd fun K hK => by
    have hr := run_range_string (P := P) w T s hT
    unfold Oper.wp execOp
    simp only [hx, hr, Sem.run_bind, Sem.run_pure, Result.andThen_ok]
    refine hK _ _ (next _ _ (S.grow (F := fun x => x = w.heap.size) (keep_alloc w _) ⟨World.iter_heap w s 0, fun _ => Iff.rfl⟩ (fun _ e => Nat.le_of_eq e.symm)))
theorem wps_next {s : ByteArray} {b pos : Nat} (S : St G w0 w L) (i : Nat) (hi : L[i]? = some (IterA b s pos)) (h : pos < s.size) (hx : a.eval x = .pointer (some ⟨b, 0, none⟩))
    (next : ∀ w', St G w0 w' (L.set i (IterA b s (pos + (Utf8.decode s pos).2))) → wpList P ops Q rest (a.put d (.tuple #[.bool true, .int .i64 pos, .int .i32 (Utf8.decode s pos).1])) w') (hgd : gOk gd ops a = true := by with_unfolding_all rfl) :
    wpList P ops Q ({ dst := d, op := .next x true, type := tt, pos := p, after := af, guard := gd } :: rest) a w := by
  obtain ⟨F0, h0, hF0⟩ := S.get hi
  have hlt := (Array.getElem?_eq_some_iff.1 h0).1
  have hr : (Instr.next (.pointer (some ⟨b, 0, none⟩)) true tt).run P w = .ok (.tuple #[.bool true, .int .i64 pos, .int .i32 (Utf8.decode s pos).1]) { w with heap := w.heap.setIfInBounds b (.stringIter s (pos + (Utf8.decode s pos).2)) } := by
    simp only [Instr.next, getObj, setObj, Sem.run_bind, Sem.run, h0, Result.andThen, h, if_true]
    simp [goInt]
  have hK : Keep (fun x => x = b) w { w with heap := w.heap.setIfInBounds b (.stringIter s (pos + (Utf8.decode s pos).2)) } :=
    ⟨rfl, rfl, rfl, by simp, fun x _ hx => by simp only; rw [Array.getElem?_setIfInBounds_ne (Ne.symm hx)], Nat.le_refl _⟩
  have S' := S.step (A' := IterA b s (pos + (Utf8.decode s pos).2)) hi rfl fun F hF => ⟨F, hK.mono (fun x _ h e => h ((hF.2 x).2 e)), ⟨by simp only; rw [Array.getElem?_setIfInBounds_self_of_lt hlt], hF.2⟩, fun _ h => .inl h⟩
  refine wpList_ok hgd fun K hK' => ?_
  unfold Oper.wp execOp
  simp only [hx, hr, Sem.run_bind, Sem.run_pure, Result.andThen_ok]
  exact hK' _ _ (next _ S')
theorem wps_nextend {s : ByteArray} {b pos : Nat} (S : St G w0 w L) (i : Nat) (hi : L[i]? = some (IterA b s pos)) (h : ¬ pos < s.size) (hx : a.eval x = .pointer (some ⟨b, 0, none⟩))
    (next : wpList P ops Q rest (a.put d (.tuple #[.bool false])) w) (hgd : gOk gd ops a = true := by with_unfolding_all rfl) :
    wpList P ops Q ({ dst := d, op := .next x true, type := tt, pos := p, after := af, guard := gd } :: rest) a w := by
  obtain ⟨F0, h0, hF0⟩ := S.get hi
  have hr : (Instr.next (.pointer (some ⟨b, 0, none⟩)) true tt).run P w = .ok (.tuple #[.bool false]) w := by
    simp [Instr.next, getObj, Sem.run, h0, h]
  refine wpList_ok hgd fun K hK' => ?_
  unfold Oper.wp execOp
  simp only [hx, hr, Sem.run_bind, Sem.run_pure, Result.andThen_ok]
  exact hK' _ _ next
theorem wps_makecap {α : Type} {enc : α → List Value} {k : Nat} {T E : TypeId} (hT : P.underlying T = some (.slice E)) (x0 : α) (hz : zeroIs P E k (enc x0)) (S : St G w0 w L) (n : Nat) (hx : a.eval x = .int .i64 0) (hy : a.eval y = .int .i64 n) (hn : n ≤ 4294967296)
    (next : ∀ b w', St G w0 w' (Own E enc k (.slice (some ⟨b, 0, none⟩) 0 n) [] :: L) → wpList P ops Q rest (a.put d (.slice (some ⟨b, 0, none⟩) 0 n)) w') (hgd : gOk gd ops a = true := by with_unfolding_all rfl) :
    wpList P ops Q ({ dst := d, op := .makeSlice T x y, type := tt, pos := p, after := af, guard := gd } :: rest) a w :=
  wpList_ok hgd fun K hK => by
    obtain ⟨i, z, h1, h2, h3, h4, h5⟩ := hz
    have hb : i.bytes * n ≤ 32768 * 4294967296 := Nat.mul_le_mul h5 hn
    have hb' : (i.bytes : Int) * (n : Int) ≤ 281474976710656 := by
      have : ((i.bytes * n : Nat) : Int) ≤ 281474976710656 := by omega
      rwa [Int.natCast_mul] at this
    have hr := run_make (P := P) w T E i z hT h1 h2 .i64 .i64 0 n (by omega) (by omega) hb' (by omega)
    simp only [Int.toNat_natCast, Int.toNat_zero] at hr
    unfold Oper.wp execOp
    simp only [hx, hy, hr, Sem.run_bind, Sem.run_pure, Result.andThen_ok]
    refine hK _ _ (next _ _ (S.grow (F := fun x => x = w.heap.size) (keep_alloc w _) ⟨?_, fun x => by simp [Value.ownBlock, eq_comm]⟩ (fun _ e => Nat.le_of_eq e.symm)))
    refine ⟨by simp [flatE], .inr ⟨w.heap.size, n, madeCells z.cells (n * i.size), by simp, Nat.zero_le _, heap_alloc_new w _, by simp, by simp [maxLen]; omega, by rw [size_madeCells, h3], by simp [flatE]⟩⟩
end
end Go.Proofs.YtkcnbejpmknaoaaDoor.Mem
