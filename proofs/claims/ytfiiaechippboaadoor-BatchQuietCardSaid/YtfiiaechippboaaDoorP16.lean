import Derived.Test.YtfiiaechippboaaDoorP15
import Derived.Test.YtfiiaechippboaaDoorP10
import Derived.Test.YtfiiaechippboaaDoorP12
import Derived.Test.YtfiiaechippboaaDoorP04
import Derived.Test.YtfiiaechippboaaDoorP05
import Derived.Laws.CopyRow
/- The walks of the reference's Check of programs and of configurations. -/
namespace Go.Proofs.YtfiiaechippboaaDoor
open Go Go.RowKit Reg Mem

def RCodeRel (v : Value) (p : List Instr) (w : World) (i : Value) (wr : World) : Prop :=
  ∃ j : Nat, j ≤ p.length ∧ i = .int .i64 j ∧ Hid (∀ (q : Nat) y, q < j → p[q]? = some y → mayE y p.length = 0) ∧ St (fun _ => False) w wr [Sl true Instr.cells 5 v p]
set_option maxRecDepth 100000 in
set_option maxHeartbeats 4000000 in
theorem rcode_calls (v : Value) (p : List Instr) (w : World) (F : Nat → Prop) (h : (Sl true Instr.cells 5 v p).at_ w F) : Calls Tryd.prog 42 #[v] w fun r w' => r = .returned (.tuple #[.int .i64 (codeAt p), .int .i64 (codeE p)]) ∧ Below w.heap.size w w' := by
  have S : St (fun _ => False) w w [Sl true Instr.cells 5 v p] := (St.init _ w).share rfl rfl h
  obtain ⟨ad, cp, rfl, _⟩ := (S.sl 0 rfl).elim fun _ h => h.form
  clear h
  by_cases g1 : (64 : Int) < p.length
  · have HE : Hid (codeAt p = 0 ∧ codeE p = 11) := ⟨by unfold codeAt; rw [if_pos (by omega)], by unfold codeE; rw [if_pos (by omega)]⟩
    go_enter Tryd.func42, Tryd.ntmps42
    go_wp2_with first
      | ((with_reducible refine tot_done ?ht ?_); (case ht => kernel_rfl))
      | ((with_reducible apply wps_loada (T := 123) (k := 5) S 0); (case hx => rfl); (case hi => rfl); (case hT => decide +kernel); (case hk => exact Nat.le_of_ble_eq_true rfl))
    go_ret2
    exact ⟨by simp [HE.out.1, HE.out.2], S.below⟩
  · have HE : Hid (codeAt p = whereE (p.map (mayE · p.length)) 0 ∧ codeE p = firstE (p.map (mayE · p.length))) := ⟨by unfold codeAt; rw [if_neg (by omega)], by unfold codeE; rw [if_neg (by omega)]⟩
    go_enter Tryd.func42, Tryd.ntmps42
    go_wp2_with first
      | ((with_reducible refine tot_done ?ht ?_); (case ht => kernel_rfl))
      | ((with_reducible apply wps_loada (T := 123) (k := 5) S 0); (case hx => rfl); (case hi => rfl); (case hT => decide +kernel); (case hk => exact Nat.le_of_ble_eq_true rfl))
    go_loopw [4] (fun i wr => RCodeRel (.slice ad p.length cp) p w i wr) (fun i _ => p.length - (intOf i).toNat)
    case atStart => exact ⟨0, Nat.zero_le _, rfl, fun q y h => by omega, S⟩
    case round =>
      clear S
      obtain ⟨j, hj, rfl, Hz, S⟩ := hrel
      by_cases hlt : j < p.length
      · obtain ⟨x, hx⟩ : ∃ x, p[j]? = some x := ⟨_, List.getElem?_eq_getElem hlt⟩
        obtain ⟨R, o, rfl⟩ : ∃ R o, ad = some ⟨R, o, none⟩ := (S.sl 0 rfl).elim fun F h => h.head (by omega)
        have hlt2 : (j : Int) < p.length := by omega
        have hc := rmay_calls x p.length
        obtain ⟨m, hm⟩ : ∃ m, mayE x p.length = m := ⟨_, rfl⟩
        rw [hm] at hc
        have Hx := Lib.hid hx
        have Hm := Lib.hid hm
        have Hc := Lib.hid hc
        clear hx hm hc
        by_cases h0 : m = 0
        · subst h0
          go_wp2_with first
            | ((with_reducible apply wps_loada_el S 0 (hj := Hx.out) (q := 0) (vs := [.int .i64 x.op, .int .i64 x.a, .int .i64 x.b, .int .i64 x.c, .int .i64 x.d]) (m := 5)); (case hx => rfl); (case hT => decide +kernel); (case hi => rfl); (case hn => omega); (case hm => rfl); (case hv => rfl))
            | (go_at_call 59; refine Calls.mono (Hc.out _) ?_; rintro e wz ⟨rfl, hE⟩; replace S := S.ext (Keep.of_below hE); clear hE)
            | ((with_reducible refine tot_done ?ht ?_); (case ht => kernel_rfl))
            | ((with_reducible apply wps_loada (T := 123) (k := 5) S 0); (case hx => rfl); (case hi => rfl); (case hT => decide +kernel); (case hk => exact Nat.le_of_ble_eq_true rfl))
          go_roundw
          case rel =>
            refine ⟨j + 1, by omega, by go_num, fun q y hq hy => ?_, S⟩
            by_cases e : q = j
            · subst e; rw [Hx.out] at hy; cases hy; exact Hm.out
            · exact Hz.out q y (by omega) hy
          case measure => first | (simp [intOf]; done) | (simp [intOf]; omega)
        · have h1 : (m != 0) = true := by simpa using h0
          have H0 := Lib.hid h0
          clear h0
          go_wp2_with first
            | ((with_reducible apply wps_loada_el S 0 (hj := Hx.out) (q := 0) (vs := [.int .i64 x.op, .int .i64 x.a, .int .i64 x.b, .int .i64 x.c, .int .i64 x.d]) (m := 5)); (case hx => rfl); (case hT => decide +kernel); (case hi => rfl); (case hn => omega); (case hm => rfl); (case hv => rfl))
            | (go_at_call 59; refine Calls.mono (Hc.out _) ?_; rintro e wz ⟨rfl, hE⟩; replace S := S.ext (Keep.of_below hE); clear hE)
            | ((with_reducible refine tot_done ?ht ?_); (case ht => kernel_rfl))
            | ((with_reducible apply wps_loada (T := 123) (k := 5) S 0); (case hx => rfl); (case hi => rfl); (case hT => decide +kernel); (case hk => exact Nat.le_of_ble_eq_true rfl))
          go_ret2
          have hz : ∀ (q : Nat) y, q < j → (p.map (mayE · p.length))[q]? = some y → y = 0 := fun q y hq hy => by
            rw [List.getElem?_map] at hy
            cases hp : p[q]? with
            | none => rw [hp] at hy; cases hy
            | some z => rw [hp] at hy; simp at hy; subst hy; exact Hz.out q z hq hp
          have hx : (p.map (mayE · p.length))[j]? = some m := by rw [List.getElem?_map, Hx.out]; simp [Hm.out]
          refine ⟨?_, S.below⟩
          rw [HE.out.1, HE.out.2, whereE_at hz hx H0.out, firstE_at hz hx H0.out]
          simp
      · obtain rfl : j = p.length := by omega
        go_wp2_with first
          | ((with_reducible refine tot_done ?ht ?_); (case ht => kernel_rfl))
          | ((with_reducible apply wps_loada (T := 123) (k := 5) S 0); (case hx => rfl); (case hi => rfl); (case hT => decide +kernel); (case hk => exact Nat.le_of_ble_eq_true rfl))
        go_ret2
        refine ⟨?_, S.below⟩
        have hz : ∀ (q : Nat) y, (p.map (mayE · p.length))[q]? = some y → y = 0 := fun q y hy => by
          rw [List.getElem?_map] at hy
          cases hp : p[q]? with
          | none => rw [hp] at hy; cases hy
          | some z => rw [hp] at hy; simp at hy; subst hy; exact Hz.out q z (List.getElem?_eq_some_iff.1 hp).1 hp
        rw [HE.out.1, HE.out.2, firstE_none hz, whereE_none (fun x hx => by obtain ⟨q, hq, rfl⟩ := List.mem_iff_getElem.1 hx; exact hz q _ (List.getElem?_eq_getElem hq))]
        simp
theorem cfg_sizes {c : Cfg} (h : ¬ sizesOk c) : cfgE c = 10 := by
  unfold cfgE; rw [show sizesE c = 10 from if_neg h]; rfl
theorem cfg_starts {c : Cfg} (h : sizesOk c) (h2 : 256 < c.starts.length) : cfgE c = 11 := by
  unfold cfgE; rw [show sizesE c = 0 from if_pos h, show startsE c = 11 from if_pos h2]; rfl
theorem cfg_prog {c : Cfg} (h : sizesOk c) (h2 : ¬ 256 < c.starts.length) {m : Int} (h3 : programsE c = m) (h4 : m ≠ 0) : cfgE c = m := by
  unfold cfgE; rw [show sizesE c = 0 from if_pos h, show startsE c = 0 from if_neg h2, h3]; simp [firstE, h4]
theorem cfg_ends {c : Cfg} (h : sizesOk c) (h2 : ¬ 256 < c.starts.length) (h3 : programsE c = 0) (h4 : ¬ ((∀ p ∈ c.lps, 0 ≤ p.program ∧ p.program < c.programs.length) ∧ (∀ s ∈ c.starts, 0 ≤ s.dst ∧ s.dst < c.lps.length))) : cfgE c = 14 := by
  unfold cfgE; rw [show sizesE c = 0 from if_pos h, show startsE c = 0 from if_neg h2, h3, show endsE c = 14 from if_neg h4]; rfl
theorem cfg_times {c : Cfg} (h : sizesOk c) (h2 : ¬ 256 < c.starts.length) (h3 : programsE c = 0) (h4 : (∀ p ∈ c.lps, 0 ≤ p.program ∧ p.program < c.programs.length) ∧ (∀ s ∈ c.starts, 0 ≤ s.dst ∧ s.dst < c.lps.length)) (h5 : ¬ ∀ s ∈ c.starts, 0 ≤ s.at_ ∧ s.at_ ≤ c.fin) : cfgE c = 18 := by
  unfold cfgE; rw [show sizesE c = 0 from if_pos h, show startsE c = 0 from if_neg h2, h3, show endsE c = 0 from if_pos h4, show timesE c = 18 from if_neg h5]; rfl
theorem cfg_fine {c : Cfg} (h : sizesOk c) (h2 : ¬ 256 < c.starts.length) (h3 : programsE c = 0) (h4 : (∀ p ∈ c.lps, 0 ≤ p.program ∧ p.program < c.programs.length) ∧ (∀ s ∈ c.starts, 0 ≤ s.dst ∧ s.dst < c.lps.length)) (h5 : ∀ s ∈ c.starts, 0 ≤ s.at_ ∧ s.at_ ≤ c.fin) : cfgE c = 0 := by
  unfold cfgE; rw [show sizesE c = 0 from if_pos h, show startsE c = 0 from if_neg h2, h3, show endsE c = 0 from if_pos h4, show timesE c = 0 from if_pos h5]; rfl
end Go.Proofs.YtfiiaechippboaaDoor
/- Plain: the machine that runs a handler's program. No program in sight. -/
namespace Go.Proofs.YtfiiaechippboaaDoor
open Go Go.RowKit Mem

structure Emit where
  dst : Int
  delay : Int
  kind : Int
  data : Int
  deriving DecidableEq
instance : Inhabited Emit := ⟨⟨0, 0, 0, 0⟩⟩
def Emit.cells (x : Emit) : List Value := [.int .i64 x.dst, .int .i64 x.delay, .int .i64 x.kind, .int .i64 x.data]
theorem emcells : ∀ e : Emit, e.cells.length = 4 := fun _ => rfl
theorem emone : ∀ e : Emit, ∀ u ∈ e.cells, u.oneCell' = true := fun _ => by simp [Emit.cells, Value.oneCell']
/-- A handler at work: its numbers (eight), the place, what it has sent. -/
structure Mach where
  cs : List Int
  at_ : Int
  sent : List Emit
def Mach.get (m : Mach) (a : Int) : Int := m.cs[a.toNat]?.getD 0
def Mach.put (m : Mach) (a v : Int) : Mach := { m with cs := m.cs.set a.toNat v }
def reckonE (op b c : Int) : Int :=
  if op = 4 then wrap64 (b + wrap64 (-c)) else if op = 3 then wrap64 (b + c) else if op = 5 then wrap64 (b * c) else if op = 6 then (if c ≠ 0 then b.tmod c else 0) else if op = 7 then (if b < c then 1 else 0) else 0
/-- What an instruction that may be does; the machine stands behind it. -/
def doE (e : Event) (fan : Int) (m : Mach) (x : Instr) : Mach :=
  if x.op = 1 then m.put x.a x.b
  else if x.op = 2 then m.put x.a (m.get x.b)
  else if 3 ≤ x.op ∧ x.op ≤ 7 then m.put x.a (reckonE x.op (m.get x.b) (m.get x.c))
  else if x.op = 8 then { m with at_ := x.a }
  else if x.op = 9 then (if m.get x.a = 0 then { m with at_ := x.b } else m)
  else if x.op = 10 then m.put x.a e.key.at_
  else if x.op = 11 then m.put x.a e.kind
  else if x.op = 12 then m.put x.a e.data
  else if x.op = 13 then m.put x.a e.dst
  else if x.op = 14 then (if (m.sent.length : Int) < fan then { m with sent := m.sent ++ [⟨m.get x.a, m.get x.b, x.d, m.get x.c⟩] } else m)
  else m
/-- One step, if there is one. -/
def stepE (p : List Instr) (e : Event) (fan : Int) (m : Mach) : Option Mach :=
  if m.at_ < 0 ∨ (p.length : Int) ≤ m.at_ then none
  else match p[m.at_.toNat]? with
    | none => none
    | some x => if x.op = 15 ∨ mayE x p.length ≠ 0 then none else some (doE e fan { m with at_ := m.at_ + 1 } x)
def stepsE (p : List Instr) (e : Event) (fan : Int) : Nat → Mach → Mach
  | 0, m => m
  | f + 1, m => match stepE p e fan m with
    | none => m
    | some n => stepsE p e fan f n
def startE (s : State) : Mach := ⟨[s.n0, s.n1, s.n2, s.n3, 0, 0, 0, 0], 0, []⟩
theorem ite_len {c : Prop} [Decidable c] {a b : Mach} {n : Nat} (ha : a.cs.length = n) (hb : b.cs.length = n) : (if c then a else b).cs.length = n := by split <;> assumption
theorem doE_len (e : Event) (fan : Int) (m : Mach) (x : Instr) : (doE e fan m x).cs.length = m.cs.length := by
  unfold doE
  repeat' apply ite_len
  all_goals first | rfl | (unfold Mach.put; exact List.length_set)
/-- The cells of a machine. -/
def machCells (e : Event) (vp : Value) (m : Mach) (fan : Int) (vs : Value) : Array Value :=
  (e.cells ++ vp :: (m.cs.map (Value.int .i64) ++ [.int .i64 m.at_, .int .i64 fan, vs])).toArray
section
variable {e : Event} {vp vs u : Value} {m : Mach} {fan : Int}
theorem mach_ev {q : Nat} (hq : q < 7) (hu : e.cells[q]? = some u) : (machCells e vp m fan vs)[q]? = some u := by
  unfold machCells
  simp only [List.getElem?_toArray]
  rw [List.getElem?_append_left (by simpa [Event.cells] using hq)]; exact hu
theorem mach_prog : (machCells e vp m fan vs)[7]? = some vp := by simp [machCells, Event.cells]
theorem mach_cell (h8 : m.cs.length = 8) {a : Nat} (ha : a < 8) : (machCells e vp m fan vs)[8 + a]? = some (.int .i64 (m.get a)) := by
  unfold machCells Mach.get
  simp only [List.getElem?_toArray]
  rw [List.getElem?_append_right (by simp [Event.cells]; omega), show 8 + a - e.cells.length = a + 1 by simp [Event.cells]; omega, List.getElem?_cons_succ, List.getElem?_append_left (by simp [h8]; exact ha), List.getElem?_map]
  have : m.cs[a]? = some m.cs[a] := List.getElem?_eq_getElem (by omega)
  simp [this]
theorem mach_at (h8 : m.cs.length = 8) : (machCells e vp m fan vs)[16]? = some (.int .i64 m.at_) := by
  unfold machCells
  simp only [List.getElem?_toArray]
  rw [List.getElem?_append_right (by simp [Event.cells]), show 16 - e.cells.length = 8 + 1 by simp [Event.cells], List.getElem?_cons_succ, List.getElem?_append_right (by simp [h8])]
  simp [h8]
theorem mach_fan (h8 : m.cs.length = 8) : (machCells e vp m fan vs)[17]? = some (.int .i64 fan) := by
  unfold machCells
  simp only [List.getElem?_toArray]
  rw [List.getElem?_append_right (by simp [Event.cells]), show 17 - e.cells.length = 9 + 1 by simp [Event.cells], List.getElem?_cons_succ, List.getElem?_append_right (by simp [h8])]
  simp [h8]
theorem mach_sent (h8 : m.cs.length = 8) : (machCells e vp m fan vs)[18]? = some vs := by
  unfold machCells
  simp only [List.getElem?_toArray]
  rw [List.getElem?_append_right (by simp [Event.cells]), show 18 - e.cells.length = 10 + 1 by simp [Event.cells], List.getElem?_cons_succ, List.getElem?_append_right (by simp [h8])]
  simp [h8]
theorem mach_size (h8 : m.cs.length = 8) : (machCells e vp m fan vs).size = 19 := by simp [machCells, Event.cells, h8]
theorem mach_put (h8 : m.cs.length = 8) {a : Nat} (ha : a < 8) (v : Int) : (machCells e vp m fan vs).setIfInBounds (8 + a) (.int .i64 v) = machCells e vp (m.put a v) fan vs := by
  unfold machCells Mach.put
  rw [List.setIfInBounds_toArray]
  congr 1
  rw [List.set_append_right _ _ (by simp [Event.cells]; omega), show 8 + a - e.cells.length = a + 1 by simp [Event.cells]; omega, List.set_cons_succ, List.set_append_left _ _ (by simp [h8]; exact ha), List.map_set]
  simp
theorem mach_setat (h8 : m.cs.length = 8) (v : Int) : (machCells e vp m fan vs).setIfInBounds 16 (.int .i64 v) = machCells e vp { m with at_ := v } fan vs := by
  unfold machCells
  rw [List.setIfInBounds_toArray]
  congr 1
  rw [List.set_append_right _ _ (by simp [Event.cells]), show 16 - e.cells.length = 8 + 1 by simp [Event.cells], List.set_cons_succ, List.set_append_right _ _ (by simp [h8])]
  simp [h8]
theorem mach_setsent (h8 : m.cs.length = 8) (v : Value) (l : List Emit) : (machCells e vp m fan vs).setIfInBounds 18 v = machCells e vp { m with sent := l } fan v := by
  unfold machCells
  rw [List.setIfInBounds_toArray]
  congr 1
  rw [List.set_append_right _ _ (by simp [Event.cells]), show 18 - e.cells.length = 10 + 1 by simp [Event.cells], List.set_cons_succ, List.set_append_right _ _ (by simp [h8])]
  simp [h8]
end
end Go.Proofs.YtfiiaechippboaaDoor
/- The walk of vm.reckon. -/
namespace Go.Proofs.YtfiiaechippboaaDoor
open Go Go.RowKit Reg Mem

set_option maxRecDepth 100000 in
theorem reckon_calls (op b c : Int) (hop : 3 ≤ op ∧ op ≤ 7) (w : World) : Calls Tryd.prog 82 #[.int .i64 op, .int .i64 b, .int .i64 c] w fun r w' => r = .returned (.int .i64 (reckonE op b c)) ∧ Below w.heap.size w w' := by
  have S := St.init (fun _ => False) w
  obtain rfl | rfl | rfl | rfl | rfl : op = 3 ∨ op = 4 ∨ op = 5 ∨ op = 6 ∨ op = 7 := by omega
  · skip
    go_enter Tryd.func82, Tryd.ntmps82
    go_wp2_with first
      | ((with_reducible refine tot_done ?ht ?_); (case ht => kernel_rfl))
    go_ret
    exact ⟨ret_int (by simp [reckonE]), S.below⟩
  · skip
    go_enter Tryd.func82, Tryd.ntmps82
    go_wp2_with first
      | ((with_reducible refine tot_done ?ht ?_); (case ht => kernel_rfl))
    go_ret
    exact ⟨ret_int (by simp [reckonE]), S.below⟩
  · skip
    go_enter Tryd.func82, Tryd.ntmps82
    go_wp2_with first
      | ((with_reducible refine tot_done ?ht ?_); (case ht => kernel_rfl))
    go_ret
    exact ⟨ret_int (by simp [reckonE]), S.below⟩
  · by_cases h0 : c = 0
    · subst h0
      go_enter Tryd.func82, Tryd.ntmps82
      go_wp2_with first
        | ((with_reducible refine tot_done ?ht ?_); (case ht => kernel_rfl))
      go_ret
      exact ⟨ret_int (by simp [reckonE]), S.below⟩
    · have h1 : (c != 0) = true := by simpa using h0
      have HR := Lib.hid (show reckonE 6 b c = b.tmod c by simp [reckonE, h0])
      go_enter Tryd.func82, Tryd.ntmps82
      go_wp2_with first
        | ((with_reducible refine tot_done ?ht ?_); (case ht => kernel_rfl))
      go_ret
      exact ⟨ret_int HR.out.symm, S.below⟩
  · by_cases h0 : b < c
    · have HR := Lib.hid (show reckonE 7 b c = 1 by simp [reckonE, h0])
      go_enter Tryd.func82, Tryd.ntmps82
      go_wp2_with first
        | ((with_reducible refine tot_done ?ht ?_); (case ht => kernel_rfl))
      go_ret
      exact ⟨ret_int HR.out.symm, S.below⟩
    · have HR := Lib.hid (show reckonE 7 b c = 0 by simp [reckonE, h0])
      go_enter Tryd.func82, Tryd.ntmps82
      go_wp2_with first
        | ((with_reducible refine tot_done ?ht ?_); (case ht => kernel_rfl))
      go_ret
      exact ⟨ret_int HR.out.symm, S.below⟩
end Go.Proofs.YtfiiaechippboaaDoor
/- 'copy' between blocks that are known whole. Over any program. -/
namespace Go.Proofs.YtfiiaechippboaaDoor.Mem
open Go Go.RowKit Reg
section
variable {P : Program} {ops : Array Oper} {rest : List Oper} {a : Act} {Q : Exit → Act → World → Prop} {d : Option Tmp} {tt : TypeId} {p : String} {af : Array Edge} {gd : Option (Nat × Bool)} {x y : Operand}
variable {G : Nat → Prop} {w0 w w' : World} {L : List Asn}
theorem wps_copyb {b o dLen dCap b2 o2 sLen sCap : Nat} {cs cs2 : Array Value} {t t2 dT sT elem : TypeId} {sh : Bool} (S : St G w0 w L) (i : Nat) (hi : L[i]? = some (Blk false b cs t)) (j : Nat) (hj : L[j]? = some (Blk sh b2 cs2 t2)) (us : List Value)
    (hx : a.eval x = .slice (some ⟨b, o, none⟩) dLen dCap) (hy : a.eval y = .slice (some ⟨b2, o2, none⟩) sLen sCap) (hu : P.underlying dT = some (.slice elem)) (hsz : (match P.info? elem with | some i => i.size == 1 | none => false) = true)
    (hn : us.length = Nat.min sLen dLen) (hsrc : ∀ k v, us[k]? = some v → cs2[o2 + k]? = some v) (hfit : o + us.length ≤ cs.size) (h1 : us.all Value.oneCell' = true)
    (next : ∀ w', St G w0 w' (L.set i (Blk false b (splice cs o us) t)) → wpList P ops Q rest (a.put d (.int .i64 us.length)) w') (hgd : gOk gd ops a = true := by with_unfolding_all rfl) :
    wpList P ops Q ({ dst := d, op := .call { callee := .builtin .copy, args := #[x, y], argTypes := #[dT, sT] }, type := tt, pos := p, after := af, guard := gd } :: rest) a w :=
  wpList_ok hgd fun K hK => by
    have hs : (P.info? elem).map (·.size) = some 1 := by
      cases h : P.info? elem with
      | none => rw [h] at hsz; simp at hsz
      | some i => rw [h] at hsz; simpa using hsz
    have hr := run_copy_row (P := P) w dT sT tt elem b o dLen dCap ⟨b2, o2, none⟩ sLen sCap cs t us hu hs (S.blk i hi) hn
      (fun k v hk => by
        have : (Addr.add ⟨b2, o2, none⟩ k) = ⟨b2, o2 + k, none⟩ := by simp [Addr.add]
        rw [this, cell_of (S.blk j hj)]; exact hsrc k v hk) hfit (by simpa using h1)
    unfold Oper.wp execOp
    simp [resolve, invoke, builtin, hx, hy, hr, Result.andThen]
    refine hK _ _ (next _ (S.step hi rfl fun F hF => ⟨F, setRow_keep.mono (fun z _ hn e => hn ((hF.2 z).2 e)), ⟨?_, hF.2⟩, fun _ h => .inl h⟩))
    rw [show splice cs o us = (List.take o cs.toList ++ (us ++ List.drop (o + us.length) cs.toList)).toArray by simp [splice]]
    exact setRow_heap w b cs _ t _ (S.blk i hi)
end
end Go.Proofs.YtfiiaechippboaaDoor.Mem
