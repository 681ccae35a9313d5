import Derived.Test.YtkcnbejpmknaoaaDoorW10
/- The walk of the reference's line (chapter 21). -/
namespace Go.Proofs.YtkcnbejpmknaoaaDoor
open Go Go.RowKit Reg Mem

def outR (k : Nat) (a b z : Int) : DoE × Nat × Int :=
  if a < 0 ∨ b < 0 ∨ z < 0 then (⟨0, 0, 0⟩, 0, 15) else if 4095 < a ∨ 4095 < b ∨ 4095 < z ∨ z = 0 then (⟨0, 0, 0⟩, 0, 10) else (⟨k, a, b⟩, z.toNat, 0)
def rAt (T : List (List UInt8)) (i : Nat) : Int := match T[i]? with | some w => rnumE w | none => 0
theorem many_nat {k : Nat} (hk : k < 4) : manyI (k : Int) = manyE k := by
  rcases (by omega : k = 0 ∨ k = 1 ∨ k = 2 ∨ k = 3) with rfl | rfl | rfl | rfl <;> rfl
def regs (T : List (List UInt8)) (j : Nat) (z : Int) : List Int := [if 0 < j then rAt T 0 else 0, if 1 < j then rAt T 1 else 0, z]
def RRel (T : List (List UInt8)) (z : Int) (tn : Nat) (w : World) (i : Value) (v : Value) (bI : Nat) (A : Asn) (wr : World) : Prop :=
  ∃ j : Nat, j ≤ tn ∧ i = .int .i64 j ∧ St (fun _ => False) w wr [Sl true strcell 1 v T, Own 3 icell 1 (.slice (some ⟨bI, 0, none⟩) 3 3) (regs T j z), A]
def RwRel (w0 : List UInt8) (w : World) (what i : Value) (L : List Asn) (wr : World) : Prop :=
  ∃ (k : Nat) (q : Int), k ≤ 4 ∧ i = .int .i64 k ∧ what = .int .i64 q ∧ Hid (q = if kindE w0 < k then (kindE w0 : Int) else -1) ∧ St (fun _ => False) w wr L
end Go.Proofs.YtkcnbejpmknaoaaDoor
