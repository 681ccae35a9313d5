import Derived.Test.YtcbdacmdmaoegaaKeysP
import Derived.Test.YtcbdacmdmaoegaaOrd
/- The places of messages, sorted by IDs: those of one ID lie side by side. -/
namespace Go.Proofs.Ytcbdacmdmaoegaa

def idKey (m : Message) (i : Nat) : Key := ⟨m.ev.key.src, m.ev.key.sent, m.ev.key.no, i⟩
def placeKey (l : List Message) (i : Fin l.length) : Key := idKey l[i] i
theorem places_of {l : List Message} {ys : List (Fin l.length)} (hp : ys.Perm (List.finRange l.length)) (hs : ys.Pairwise (fun a b => (placeKey l b).lt (placeKey l a) = false)) : Places l (ys.map (·.val)) := by
  refine ⟨?_, fun q r s x y z a b c hqr hrs hx hy hz ha hb hc hid => ?_⟩
  · have := hp.map (·.val)
    have e : (List.finRange l.length).map (·.val) = List.range l.length := List.ext_getElem (by simp) (fun i h1 h2 => by simp)
    rwa [e] at this
  · rw [List.getElem?_map] at hx hy hz
    obtain ⟨x', hx', rfl⟩ := Option.map_eq_some_iff.1 hx
    obtain ⟨y', hy', rfl⟩ := Option.map_eq_some_iff.1 hy
    obtain ⟨z', hz', rfl⟩ := Option.map_eq_some_iff.1 hz
    obtain ⟨q1, q2⟩ := List.getElem?_eq_some_iff.1 hx'
    obtain ⟨r1, r2⟩ := List.getElem?_eq_some_iff.1 hy'
    obtain ⟨s1, s2⟩ := List.getElem?_eq_some_iff.1 hz'
    have h1 := List.pairwise_iff_getElem.1 hs q r q1 r1 hqr
    have h2 := List.pairwise_iff_getElem.1 hs r s r1 s1 hrs
    rw [q2, r2] at h1
    rw [r2, s2] at h2
    have ea : l[x'] = a := Option.some.inj ((List.getElem?_eq_getElem x'.2).symm.trans ha)
    have eb : l[y'] = b := Option.some.inj ((List.getElem?_eq_getElem y'.2).symm.trans hb)
    have ec : l[z'] = c := Option.some.inj ((List.getElem?_eq_getElem z'.2).symm.trans hc)
    rw [Bool.eq_false_iff, ne_eq, Key.lt_iff] at h1 h2
    rw [sameId_iff] at hid ⊢
    simp only [placeKey, idKey, ea, eb, ec] at h1 h2
    omega
end Go.Proofs.Ytcbdacmdmaoegaa
