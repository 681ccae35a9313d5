import Derived.Test.YtfiiaechippboaaDoorR26
import Derived.Test.YtfiiaechippboaaDoorR24
import Derived.Test.YtfiiaechippboaaDoorR10
/- Plain: what is sent in a batch; and a configuration that is shared. -/
namespace Go.Proofs.YtfiiaechippboaaDoor
open Go Go.RowKit Mem

section
variable {G : Nat → Prop} {w0 w : World} {L : List Asn} {vs hs : List Value} {c : Cfg}
theorem Mem.St.cfgShare (S : St G w0 w L) (i : Nat) (hi : L[i]? = some (CfgA false vs hs c)) : St G w0 w (L.set i (CfgA true vs hs c)) :=
  S.weak hi (fun e => by cases e) (fun F h => ⟨F, fun _ hb => hb, h⟩)
end
/-- What is known of each message's event. -/
structure SentOk (n : Nat) (fin lp at_ : Int) (out : List Event) : Prop where
  each : ∀ (i : Nat) (x : Event), out[i]? = some x → x.key.src = lp ∧ x.key.sent = at_ ∧ x.key.no = i ∧ at_ < x.key.at_ ∧ x.key.at_ ≤ fin ∧ 0 ≤ x.dst ∧ x.dst < n
end Go.Proofs.YtfiiaechippboaaDoor
/- Plain: a process without instructions; messages that go behind the end. -/
namespace Go.Proofs.YtfiiaechippboaaDoor
open Go Go.RowKit Mem

/-- A configuration with its programs left away. -/
def stillC (c : Cfg) : Cfg := ⟨List.replicate c.programs.length [], c.lps, c.starts, c.fin, c.fuel, c.fan⟩
/-- One without starts that ends at a time. -/
def lateC (c : Cfg) (t : Int) : Cfg := ⟨c.programs, c.lps, [], t, c.fuel, c.fan⟩
end Go.Proofs.YtfiiaechippboaaDoor
