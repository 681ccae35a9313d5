import Derived.Test.YtcbdacmdmaoegaaStab6
/- Plain: a list in order; a batch's time. No program in sight. -/
namespace Go.Proofs.Ytcbdacmdmaoegaa
open Go Go.RowKit Mem

theorem sortE_up (l : List Event) : (sortE l).Pairwise (fun x y => y.key.lt x.key = false) := by
  obtain ⟨ys, _, hs, e⟩ := sortE_ex l
  rw [← e, List.pairwise_map]
  refine List.Pairwise.imp (fun {x y} h => ?_) hs
  rcases h with h | h
  · exact Key.lt_asymm' h
  · exact h.1
def atE (l : List Event) : Int := match l with | [] => 0 | x :: _ => x.key.at_
end Go.Proofs.Ytcbdacmdmaoegaa
