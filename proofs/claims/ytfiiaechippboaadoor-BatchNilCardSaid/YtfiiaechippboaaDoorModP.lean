import Derived.Test.YtfiiaechippboaaDoorKeysP
import Derived.Test.YtfiiaechippboaaDoorNest
/- Plain: programs, configurations, models: what they are, what is wrong with them. No program in sight. -/
namespace Go.Proofs.YtfiiaechippboaaDoor
open Go Go.RowKit Mem

structure Instr where
  op : Int
  a : Int
  b : Int
  c : Int
  d : Int
  deriving DecidableEq
structure State where
  n0 : Int
  n1 : Int
  n2 : Int
  n3 : Int
  deriving DecidableEq
structure Place where
  program : Int
  first : State
  deriving DecidableEq
structure Start where
  dst : Int
  at_ : Int
  kind : Int
  data : Int
  deriving DecidableEq
structure Cfg where
  programs : List (List Instr)
  lps : List Place
  starts : List Start
  fin : Int
  fuel : Int
  fan : Int
instance : Inhabited Instr := ⟨⟨0, 0, 0, 0, 0⟩⟩
instance : Inhabited State := ⟨⟨0, 0, 0, 0⟩⟩
instance : Inhabited Place := ⟨⟨0, default⟩⟩
instance : Inhabited Start := ⟨⟨0, 0, 0, 0⟩⟩
def Instr.cells (x : Instr) : List Value := [.int .i64 x.op, .int .i64 x.a, .int .i64 x.b, .int .i64 x.c, .int .i64 x.d]
def Place.cells (x : Place) : List Value := [.int .i64 x.program, .int .i64 x.first.n0, .int .i64 x.first.n1, .int .i64 x.first.n2, .int .i64 x.first.n3]
def Start.cells (x : Start) : List Value := [.int .i64 x.dst, .int .i64 x.at_, .int .i64 x.kind, .int .i64 x.data]
theorem incells : ∀ e : Instr, e.cells.length = 5 := fun _ => rfl
theorem inone : ∀ e : Instr, ∀ u ∈ e.cells, u.oneCell' = true := fun _ => by simp [Instr.cells, Value.oneCell']
theorem plcells : ∀ e : Place, e.cells.length = 5 := fun _ => rfl
theorem plone : ∀ e : Place, ∀ u ∈ e.cells, u.oneCell' = true := fun _ => by simp [Place.cells, Value.oneCell']
theorem stcells : ∀ e : Start, e.cells.length = 4 := fun _ => rfl
theorem stone : ∀ e : Start, ∀ u ∈ e.cells, u.oneCell' = true := fun _ => by simp [Start.cells, Value.oneCell']
/-- A value as a thing of one cell. -/
def vcell (v : Value) : List Value := [v]
theorem vcells : ∀ v : Value, (vcell v).length = 1 := fun _ => rfl

/-- What is told of an op. -/
structure Word where
  text : ByteArray
  many : Int
structure About where
  word : Word
  num : State
def About.cells (x : About) : List Value := [.string x.word.text, .int .i64 x.word.many, .int .i64 x.num.n0, .int .i64 x.num.n1, .int .i64 x.num.n2, .int .i64 x.num.n3]
def bytes (l : List UInt8) : ByteArray := ⟨l.toArray⟩
def table : List About := [
  ⟨⟨bytes [], 0⟩, ⟨0, 0, 0, 0⟩⟩,
  ⟨⟨bytes [115, 101, 116], 2⟩, ⟨1, 2, 0, 0⟩⟩,
  ⟨⟨bytes [109, 111, 118, 101], 2⟩, ⟨1, 1, 0, 0⟩⟩,
  ⟨⟨bytes [97, 100, 100], 3⟩, ⟨1, 1, 1, 0⟩⟩,
  ⟨⟨bytes [115, 117, 98], 3⟩, ⟨1, 1, 1, 0⟩⟩,
  ⟨⟨bytes [109, 117, 108], 3⟩, ⟨1, 1, 1, 0⟩⟩,
  ⟨⟨bytes [109, 111, 100], 3⟩, ⟨1, 1, 1, 0⟩⟩,
  ⟨⟨bytes [108, 101, 115, 115], 3⟩, ⟨1, 1, 1, 0⟩⟩,
  ⟨⟨bytes [106, 117, 109, 112], 1⟩, ⟨3, 0, 0, 0⟩⟩,
  ⟨⟨bytes [122, 101, 114, 111], 2⟩, ⟨1, 3, 0, 0⟩⟩,
  ⟨⟨bytes [110, 111, 119], 1⟩, ⟨1, 0, 0, 0⟩⟩,
  ⟨⟨bytes [107, 105, 110, 100], 1⟩, ⟨1, 0, 0, 0⟩⟩,
  ⟨⟨bytes [100, 97, 116, 97], 1⟩, ⟨1, 0, 0, 0⟩⟩,
  ⟨⟨bytes [115, 101, 108, 102], 1⟩, ⟨1, 0, 0, 0⟩⟩,
  ⟨⟨bytes [115, 101, 110, 100], 4⟩, ⟨1, 1, 1, 4⟩⟩,
  ⟨⟨bytes [115, 116, 111, 112], 0⟩, ⟨0, 0, 0, 0⟩⟩]
theorem table_len : table.length = 16 := rfl

/-- The first error of several. -/
def firstE : List Int → Int
  | [] => 0
  | x :: l => if x = 0 then firstE l else x
theorem firstE_append {l m : List Int} : firstE (l ++ m) = if firstE l = 0 then firstE m else firstE l := by
  induction l with
  | nil => simp [firstE]
  | cons x l ih => by_cases h : x = 0 <;> simp [firstE, h, ih]
theorem firstE_zero {l : List Int} : firstE l = 0 ↔ ∀ x ∈ l, x = 0 := by
  induction l with
  | nil => simp [firstE]
  | cons x l ih => by_cases h : x = 0 <;> simp [firstE, h, ih]
def isOp (op : Int) : Bool := decide (1 ≤ op ∧ op ≤ 15)
def fitsN (asked n many : Int) : Bool :=
  if asked = 1 then decide (0 ≤ n ∧ n < 8) else if asked = 2 then true else if asked = 3 then decide (0 ≤ n ∧ n ≤ many) else if asked = 4 then decide (0 ≤ n ∧ n ≤ 255) else decide (n = 0)
def mayE (x : Instr) (many : Int) : Int :=
  if isOp x.op then
    (match table[x.op.toNat]? with
    | some t => if fitsN t.num.n0 x.a many && fitsN t.num.n1 x.b many && fitsN t.num.n2 x.c many && fitsN t.num.n3 x.d many then 0 else 10
    | none => 15)
  else 15
/-- What is wrong with a program, and where. -/
def codeE (p : List Instr) : Int := if 64 < p.length then 11 else firstE (p.map (mayE · p.length))
def whereE : List Int → Int → Int
  | [], _ => 0
  | x :: l, i => if x = 0 then whereE l (i + 1) else i + 1
def codeAt (p : List Instr) : Int := if 64 < p.length then 0 else whereE (p.map (mayE · p.length)) 0
def sizesOk (c : Cfg) : Prop := (1 ≤ c.lps.length ∧ c.lps.length ≤ 32) ∧ (1 ≤ c.programs.length ∧ c.programs.length ≤ 32) ∧ (1 ≤ c.fin ∧ c.fin ≤ 1073741824) ∧ (1 ≤ c.fuel ∧ c.fuel ≤ 1024) ∧ (0 ≤ c.fan ∧ c.fan ≤ 8)
instance (c : Cfg) : Decidable (sizesOk c) := by unfold sizesOk; infer_instance
def sizesE (c : Cfg) : Int := if sizesOk c then 0 else 10
def startsE (c : Cfg) : Int := if 256 < c.starts.length then 11 else 0
def programsE (c : Cfg) : Int := firstE (c.programs.map codeE)
def endsE (c : Cfg) : Int := if (∀ p ∈ c.lps, 0 ≤ p.program ∧ p.program < c.programs.length) ∧ (∀ s ∈ c.starts, 0 ≤ s.dst ∧ s.dst < c.lps.length) then 0 else 14
def timesE (c : Cfg) : Int := if ∀ s ∈ c.starts, 0 ≤ s.at_ ∧ s.at_ ≤ c.fin then 0 else 18
def cfgE (c : Cfg) : Int := firstE [sizesE c, startsE c, programsE c, endsE c, timesE c]
def startEv (i : Nat) (s : Start) : Event := ⟨⟨s.at_, -1, -1, i⟩, s.dst, s.kind, s.data⟩
def startsFrom : Nat → List Start → List Event
  | _, [] => []
  | i, s :: l => startEv i s :: startsFrom (i + 1) l
theorem startsFrom_append (l m : List Start) (i : Nat) : startsFrom i (l ++ m) = startsFrom i l ++ startsFrom (i + l.length) m := by
  induction l generalizing i with
  | nil => simp [startsFrom]
  | cons x l ih => simp [startsFrom, ih, Nat.add_assoc, Nat.add_comm 1]
theorem startsFrom_len (l : List Start) (i : Nat) : (startsFrom i l).length = l.length := by
  induction l generalizing i with
  | nil => rfl
  | cons x l ih => simp [startsFrom, ih]
/-- What a configuration is, in memory. -/
structure CfgAt (w : World) (F : Nat → Prop) (vs : List Value) (hs : List Value) (c : Cfg) : Prop where
  heads : ∃ vP vL vS, vs = [vP, vL, vS, .int .i64 c.fin, .int .i64 c.fuel, .int .i64 c.fan] ∧ SlAt vcell 1 w F vP hs ∧ SlAt Place.cells 5 w F vL c.lps ∧ SlAt Start.cells 4 w F vS c.starts
  progs : SlsAt Instr.cells 5 w F hs c.programs
theorem CfgAt.mono {w : World} {F F' : Nat → Prop} {vs hs : List Value} {c : Cfg} (h : CfgAt w F vs hs c) (hF : ∀ b, F b → F' b) : CfgAt w F' vs hs c := by
  obtain ⟨⟨vP, vL, vS, e, h1, h2, h3⟩, h4⟩ := h
  exact ⟨⟨vP, vL, vS, e, h1.mono hF, h2.mono hF, h3.mono hF⟩, h4.mono hF⟩
theorem CfgAt.loc {w w' : World} {F : Nat → Prop} {vs hs : List Value} {c : Cfg} (h : CfgAt w F vs hs c) (hb : ∀ b, F b → w'.heap[b]? = w.heap[b]?) : CfgAt w' F vs hs c := by
  obtain ⟨⟨vP, vL, vS, e, h1, h2, h3⟩, h4⟩ := h
  exact ⟨⟨vP, vL, vS, e, h1.loc hb, h2.loc hb, h3.loc hb⟩, h4.loc hb⟩
def CfgA (sh : Bool) (vs hs : List Value) (c : Cfg) : Asn where
  sh := sh
  at_ w F := CfgAt w F vs hs c ∧ ∀ b, F b → b < w.heap.size
  loc h hb := ⟨h.1.loc hb, lt_loc h.2 hb⟩
  lt h := h.2
/-- A model: its block, and its configuration. -/
def ModA (sh : Bool) (T : TypeId) (R : Nat) (vs hs : List Value) (c : Cfg) : Asn where
  sh := sh
  at_ w F := (w.heap[R]? = some (.cells vs.toArray T (0, 0)) ∧ F R ∧ CfgAt w F vs hs c) ∧ ∀ b, F b → b < w.heap.size
  loc h hb := ⟨⟨(hb _ h.1.2.1).trans h.1.1, h.1.2.1, h.1.2.2.loc hb⟩, lt_loc h.2 hb⟩
  lt h := h.2
section
variable {G : Nat → Prop} {w0 w : World} {L : List Asn} {vs hs : List Value} {c : Cfg}
/-- A configuration is opened: its slices may be read. -/
theorem Mem.St.cfg (S : St G w0 w L) (i : Nat) (hi : L[i]? = some (CfgA true vs hs c)) : ∃ aP cP aL cL aS cS, vs = [.slice aP c.programs.length cP, .slice aL c.lps.length cL, .slice aS c.starts.length cS, .int .i64 c.fin, .int .i64 c.fuel, .int .i64 c.fan] ∧ hs.length = c.programs.length ∧
    St G w0 w (Sls true Instr.cells 5 hs c.programs :: Sl true vcell 1 (.slice aP c.programs.length cP) hs :: Sl true Place.cells 5 (.slice aL c.lps.length cL) c.lps :: Sl true Start.cells 4 (.slice aS c.starts.length cS) c.starts :: L) := by
  obtain ⟨F, ⟨⟨vP, vL, vS, e, h1, h2, h3⟩, h4⟩, h5⟩ := S.get hi
  obtain ⟨aP, cP, rfl, _⟩ := h1.form
  obtain ⟨aL, cL, rfl, _⟩ := h2.form
  obtain ⟨aS, cS, rfl, _⟩ := h3.form
  rw [h4.1] at e h1
  refine ⟨aP, cP, aL, cL, aS, cS, e, h4.1, ?_⟩
  have key : ∀ F, (CfgA true vs hs c).at_ w F → SlAt vcell 1 w F (.slice aP c.programs.length cP) hs ∧ SlAt Place.cells 5 w F (.slice aL c.lps.length cL) c.lps ∧ SlAt Start.cells 4 w F (.slice aS c.starts.length cS) c.starts := by
    rintro F ⟨⟨⟨vP, vL, vS, e', h1, h2, h3⟩, h4⟩, h5⟩
    rw [e] at e'
    simp only [List.cons.injEq] at e'
    obtain ⟨rfl, rfl, rfl, _⟩ := e'
    exact ⟨h1, h2, h3⟩
  have S1 := S.also (A := CfgA true vs hs c) (A' := Sl true Start.cells 4 (.slice aS c.starts.length cS) c.starts) i hi rfl rfl fun F h => ⟨F, fun _ h => h, (key F h).2.2, h.2⟩
  have S2 := S1.also (A := CfgA true vs hs c) (A' := Sl true Place.cells 5 (.slice aL c.lps.length cL) c.lps) (i + 1) (by simpa using hi) rfl rfl fun F h => ⟨F, fun _ h => h, (key F h).2.1, h.2⟩
  have S3 := S2.also (A := CfgA true vs hs c) (A' := Sl true vcell 1 (.slice aP c.programs.length cP) hs) (i + 2) (by simpa using hi) rfl rfl fun F h => ⟨F, fun _ h => h, (key F h).1, h.2⟩
  exact S3.also (A := CfgA true vs hs c) (A' := Sls true Instr.cells 5 hs c.programs) (i + 3) (by simpa using hi) rfl rfl fun F h => ⟨F, fun _ h => h, h.1.progs, h.2⟩
theorem Mem.St.modCfg {T : TypeId} {R : Nat} (S : St G w0 w L) (i : Nat) (hi : L[i]? = some (ModA true T R vs hs c)) : St G w0 w (CfgA true vs hs c :: L) :=
  S.also (A := ModA true T R vs hs c) (A' := CfgA true vs hs c) i hi rfl rfl fun F h => ⟨F, fun _ h => h, h.1.2.2, h.2⟩
theorem Mem.St.modBlk {T : TypeId} {R : Nat} (S : St G w0 w L) (i : Nat) (hi : L[i]? = some (ModA true T R vs hs c)) : St G w0 w (Blk true R vs.toArray T :: L) :=
  S.also (A := ModA true T R vs hs c) (A' := Blk true R vs.toArray T) i hi rfl rfl fun _ h => ⟨fun x => x = R, fun _ e => e ▸ h.1.2.1, h.1.1, fun _ => Iff.rfl⟩
theorem Mem.St.modShare {T : TypeId} {R : Nat} (S : St G w0 w L) (i : Nat) (hi : L[i]? = some (ModA false T R vs hs c)) : St G w0 w (L.set i (ModA true T R vs hs c)) :=
  S.weak hi (fun e => by cases e) (fun F h => ⟨F, fun _ hb => hb, h⟩)
end
end Go.Proofs.YtfiiaechippboaaDoor
