import Derived.Test.YtfiiaechippboaaDoorModP
/- Plain: the machine that runs a handler's program. No program in sight. -/
namespace Go.Proofs.YtfiiaechippboaaDoor
open Go Go.RowKit Mem

structure Emit where
  dst : Int
  delay : Int
  kind : Int
  data : Int
  deriving DecidableEq
instance : Inhabited Emit := ⟨⟨0, 0, 0, 0⟩⟩
def Emit.cells (x : Emit) : List Value := [.int .i64 x.dst, .int .i64 x.delay, .int .i64 x.kind, .int .i64 x.data]
theorem emcells : ∀ e : Emit, e.cells.length = 4 := fun _ => rfl
theorem emone : ∀ e : Emit, ∀ u ∈ e.cells, u.oneCell' = true := fun _ => by simp [Emit.cells, Value.oneCell']
/-- A handler at work: its numbers (eight), the place, what it has sent. -/
structure Mach where
  cs : List Int
  at_ : Int
  sent : List Emit
def Mach.get (m : Mach) (a : Int) : Int := m.cs[a.toNat]?.getD 0
def Mach.put (m : Mach) (a v : Int) : Mach := { m with cs := m.cs.set a.toNat v }
def reckonE (op b c : Int) : Int :=
  if op = 4 then wrap64 (b + wrap64 (-c)) else if op = 3 then wrap64 (b + c) else if op = 5 then wrap64 (b * c) else if op = 6 then (if c ≠ 0 then b.tmod c else 0) else if op = 7 then (if b < c then 1 else 0) else 0
/-- What an instruction that may be does; the machine stands behind it. -/
def doE (e : Event) (fan : Int) (m : Mach) (x : Instr) : Mach :=
  if x.op = 1 then m.put x.a x.b
  else if x.op = 2 then m.put x.a (m.get x.b)
  else if 3 ≤ x.op ∧ x.op ≤ 7 then m.put x.a (reckonE x.op (m.get x.b) (m.get x.c))
  else if x.op = 8 then { m with at_ := x.a }
  else if x.op = 9 then (if m.get x.a = 0 then { m with at_ := x.b } else m)
  else if x.op = 10 then m.put x.a e.key.at_
  else if x.op = 11 then m.put x.a e.kind
  else if x.op = 12 then m.put x.a e.data
  else if x.op = 13 then m.put x.a e.dst
  else if x.op = 14 then (if (m.sent.length : Int) < fan then { m with sent := m.sent ++ [⟨m.get x.a, m.get x.b, x.d, m.get x.c⟩] } else m)
  else m
/-- One step, if there is one. -/
def stepE (p : List Instr) (e : Event) (fan : Int) (m : Mach) : Option Mach :=
  if m.at_ < 0 ∨ (p.length : Int) ≤ m.at_ then none
  else match p[m.at_.toNat]? with
    | none => none
    | some x => if x.op = 15 ∨ mayE x p.length ≠ 0 then none else some (doE e fan { m with at_ := m.at_ + 1 } x)
def stepsE (p : List Instr) (e : Event) (fan : Int) : Nat → Mach → Mach
  | 0, m => m
  | f + 1, m => match stepE p e fan m with
    | none => m
    | some n => stepsE p e fan f n
def startE (s : State) : Mach := ⟨[s.n0, s.n1, s.n2, s.n3, 0, 0, 0, 0], 0, []⟩
theorem ite_len {c : Prop} [Decidable c] {a b : Mach} {n : Nat} (ha : a.cs.length = n) (hb : b.cs.length = n) : (if c then a else b).cs.length = n := by split <;> assumption
theorem doE_len (e : Event) (fan : Int) (m : Mach) (x : Instr) : (doE e fan m x).cs.length = m.cs.length := by
  unfold doE
  repeat' apply ite_len
  all_goals first | rfl | (unfold Mach.put; exact List.length_set)
/-- The cells of a machine. -/
def machCells (e : Event) (vp : Value) (m : Mach) (fan : Int) (vs : Value) : Array Value :=
  (e.cells ++ vp :: (m.cs.map (Value.int .i64) ++ [.int .i64 m.at_, .int .i64 fan, vs])).toArray
section
variable {e : Event} {vp vs u : Value} {m : Mach} {fan : Int}
theorem mach_ev {q : Nat} (hq : q < 7) (hu : e.cells[q]? = some u) : (machCells e vp m fan vs)[q]? = some u := by
  unfold machCells
  simp only [List.getElem?_toArray]
  rw [List.getElem?_append_left (by simpa [Event.cells] using hq)]; exact hu
theorem mach_prog : (machCells e vp m fan vs)[7]? = some vp := by simp [machCells, Event.cells]
theorem mach_cell (h8 : m.cs.length = 8) {a : Nat} (ha : a < 8) : (machCells e vp m fan vs)[8 + a]? = some (.int .i64 (m.get a)) := by
  unfold machCells Mach.get
  simp only [List.getElem?_toArray]
  rw [List.getElem?_append_right (by simp [Event.cells]; omega), show 8 + a - e.cells.length = a + 1 by simp [Event.cells]; omega, List.getElem?_cons_succ, List.getElem?_append_left (by simp [h8]; exact ha), List.getElem?_map]
  have : m.cs[a]? = some m.cs[a] := List.getElem?_eq_getElem (by omega)
  simp [this]
theorem mach_at (h8 : m.cs.length = 8) : (machCells e vp m fan vs)[16]? = some (.int .i64 m.at_) := by
  unfold machCells
  simp only [List.getElem?_toArray]
  rw [List.getElem?_append_right (by simp [Event.cells]), show 16 - e.cells.length = 8 + 1 by simp [Event.cells], List.getElem?_cons_succ, List.getElem?_append_right (by simp [h8])]
  simp [h8]
theorem mach_fan (h8 : m.cs.length = 8) : (machCells e vp m fan vs)[17]? = some (.int .i64 fan) := by
  unfold machCells
  simp only [List.getElem?_toArray]
  rw [List.getElem?_append_right (by simp [Event.cells]), show 17 - e.cells.length = 9 + 1 by simp [Event.cells], List.getElem?_cons_succ, List.getElem?_append_right (by simp [h8])]
  simp [h8]
theorem mach_sent (h8 : m.cs.length = 8) : (machCells e vp m fan vs)[18]? = some vs := by
  unfold machCells
  simp only [List.getElem?_toArray]
  rw [List.getElem?_append_right (by simp [Event.cells]), show 18 - e.cells.length = 10 + 1 by simp [Event.cells], List.getElem?_cons_succ, List.getElem?_append_right (by simp [h8])]
  simp [h8]
theorem mach_size (h8 : m.cs.length = 8) : (machCells e vp m fan vs).size = 19 := by simp [machCells, Event.cells, h8]
theorem mach_put (h8 : m.cs.length = 8) {a : Nat} (ha : a < 8) (v : Int) : (machCells e vp m fan vs).setIfInBounds (8 + a) (.int .i64 v) = machCells e vp (m.put a v) fan vs := by
  unfold machCells Mach.put
  rw [List.setIfInBounds_toArray]
  congr 1
  rw [List.set_append_right _ _ (by simp [Event.cells]; omega), show 8 + a - e.cells.length = a + 1 by simp [Event.cells]; omega, List.set_cons_succ, List.set_append_left _ _ (by simp [h8]; exact ha), List.map_set]
  simp
theorem mach_setat (h8 : m.cs.length = 8) (v : Int) : (machCells e vp m fan vs).setIfInBounds 16 (.int .i64 v) = machCells e vp { m with at_ := v } fan vs := by
  unfold machCells
  rw [List.setIfInBounds_toArray]
  congr 1
  rw [List.set_append_right _ _ (by simp [Event.cells]), show 16 - e.cells.length = 8 + 1 by simp [Event.cells], List.set_cons_succ, List.set_append_right _ _ (by simp [h8])]
  simp [h8]
theorem mach_setsent (h8 : m.cs.length = 8) (v : Value) (l : List Emit) : (machCells e vp m fan vs).setIfInBounds 18 v = machCells e vp { m with sent := l } fan v := by
  unfold machCells
  rw [List.setIfInBounds_toArray]
  congr 1
  rw [List.set_append_right _ _ (by simp [Event.cells]), show 18 - e.cells.length = 10 + 1 by simp [Event.cells], List.set_cons_succ, List.set_append_right _ _ (by simp [h8])]
  simp [h8]
end
end Go.Proofs.YtfiiaechippboaaDoor
