import Derived.Test.YtfiiaechippboaaDoorOps2
import Derived.Laws.CopyRow
/- 'copy' between blocks that are known whole. Over any program. -/
namespace Go.Proofs.YtfiiaechippboaaDoor.Mem
open Go Go.RowKit Reg
section
variable {P : Program} {ops : Array Oper} {rest : List Oper} {a : Act} {Q : Exit → Act → World → Prop} {d : Option Tmp} {tt : TypeId} {p : String} {af : Array Edge} {gd : Option (Nat × Bool)} {x y : Operand}
variable {G : Nat → Prop} {w0 w w' : World} {L : List Asn}
theorem wps_copyb {b o dLen dCap b2 o2 sLen sCap : Nat} {cs cs2 : Array Value} {t t2 dT sT elem : TypeId} {sh : Bool} (S : St G w0 w L) (i : Nat) (hi : L[i]? = some (Blk false b cs t)) (j : Nat) (hj : L[j]? = some (Blk sh b2 cs2 t2)) (us : List Value)
    (hx : a.eval x = .slice (some ⟨b, o, none⟩) dLen dCap) (hy : a.eval y = .slice (some ⟨b2, o2, none⟩) sLen sCap) (hu : P.underlying dT = some (.slice elem)) (hsz : (match P.info? elem with | some i => i.size == 1 | none => false) = true)
    (hn : us.length = Nat.min sLen dLen) (hsrc : ∀ k v, us[k]? = some v → cs2[o2 + k]? = some v) (hfit : o + us.length ≤ cs.size) (h1 : us.all Value.oneCell' = true)
    (next : ∀ w', St G w0 w' (L.set i (Blk false b (splice cs o us) t)) → wpList P ops Q rest (a.put d (.int .i64 us.length)) w') (hgd : gOk gd ops a = true := by with_unfolding_all rfl) :
    wpList P ops Q ({ dst := d, op := .call { callee := .builtin .copy, args := #[x, y], argTypes := #[dT, sT] }, type := tt, pos := p, after := af, guard := gd } :: rest) a w :=
  wpList_ok hgd fun K hK => by
    have hs : (P.info? elem).map (·.size) = some 1 := by
      cases h : P.info? elem with
      | none => rw [h] at hsz; simp at hsz
      | some i => rw [h] at hsz; simpa using hsz
    have hr := run_copy_row (P := P) w dT sT tt elem b o dLen dCap ⟨b2, o2, none⟩ sLen sCap cs t us hu hs (S.blk i hi) hn
      (fun k v hk => by
        have : (Addr.add ⟨b2, o2, none⟩ k) = ⟨b2, o2 + k, none⟩ := by simp [Addr.add]
        rw [this, cell_of (S.blk j hj)]; exact hsrc k v hk) hfit (by simpa using h1)
    unfold Oper.wp execOp
    simp [resolve, invoke, builtin, hx, hy, hr, Result.andThen]
    refine hK _ _ (next _ (S.step hi rfl fun F hF => ⟨F, setRow_keep.mono (fun z _ hn e => hn ((hF.2 z).2 e)), ⟨?_, hF.2⟩, fun _ h => .inl h⟩))
    rw [show splice cs o us = (List.take o cs.toList ++ (us ++ List.drop (o + us.length) cs.toList)).toArray by simp [splice]]
    exact setRow_heap w b cs _ t _ (S.blk i hi)
end
end Go.Proofs.YtfiiaechippboaaDoor.Mem
