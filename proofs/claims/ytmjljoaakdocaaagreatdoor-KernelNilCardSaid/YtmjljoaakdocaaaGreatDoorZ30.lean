import Derived.Test.YtmjljoaakdocaaaGreatDoorZ29
import Derived.Test.YtmjljoaakdocaaaGreatDoorZ22
import Derived.Test.YtmjljoaakdocaaaGreatDoorZ17
/- The walk of a log's Commit where nothing is told. -/
namespace Go.Proofs.YtmjljoaakdocaaaGreatDoor
open Go Go.RowKit Reg Mem

theorem wrong_none {n : Nat} {time below : Int} (h1 : time ≤ below) (h2 : below ≤ 1073741825) : wrongL n time below [] = 0 := by
  unfold wrongL
  rw [if_neg (by omega), if_neg (by simp), if_neg (by simp), if_neg (by decide)]
def CeRel (X R : Nat) (g : LogE) (F : Nat → Prop) (w : World) (vin out : Value) (wr : World) : Prop :=
  ∃ ad c, vin = .slice ad 0 c ∧ out = .slice none 0 0 ∧ St F w wr [logA X R g]
set_option maxRecDepth 100000 in
set_option maxHeartbeats 4000000 in
theorem commit_empty (X R : Nat) (g : LogE) (below : Int) (v : Value) (w : World) (F : Nat → Prop) (S0 : St F w w [logA X R g, Sl true Event.cells 7 v []]) (h1 : g.time ≤ below) (h2 : below ≤ 1073741825) :
    Calls Tryz.prog 140 #[.pointer (some ⟨X, 0, none⟩), .int .i64 below, v] w fun e w' => e = .returned (.tuple #[.slice none 0 0, .int .i64 0]) ∧ St F w w' [logA X R ⟨g.ss, below, g.done⟩] := by
  have S := S0
  clear S0
  obtain ⟨ad, cp, rfl, _⟩ := (S.sl 1 rfl).elim fun _ h => h.form
  have HW := Lib.hid (wrong_none (n := g.ss.length) h1 h2)
  have HS : Hid (sortT ([] : List Event) = []) := Lib.hid rfl
  clear h1 h2
  go_enter Tryz.func140, Tryz.ntmps140
  go_wp2_with first | (go_at_call 70; refine Calls.mono (clone_Ev _ _ (S.get (i := 1) rfl).choose_spec (by simp)) ?_; rintro e wz ⟨ad1, c1, rfl, _, T⟩; replace S := S.join T rfl; clear T; simp only [List.cons_append, List.nil_append] at S) | (go_at_call 177; refine Calls.mono (sortev_calls 0 S rfl (by simp)) ?_; clear S; rintro e wz ⟨rfl, S⟩; rw [HS.out] at S; simp only [List.set_cons_zero] at S) | (go_at_call 179; refine Calls.mono (lwrong_calls X R g below _ [] _ _ _ (S.get (i := 1) rfl).choose_spec (own_sl (sh := true) ecells (S.get (i := 0) rfl).choose_spec) List.Pairwise.nil (by simp)) ?_; rw [HW.out]; rintro e wz ⟨rfl, hE⟩; replace S := S.ext (Keep.of_below hE); clear hE)
  replace S := S.pick [1] rfl
  simp only [pick, nth] at S
  go_loopw [8, 10] (fun vin out wr => CeRel X R g F w vin out wr) (fun _ _ _ => 0)
  case atStart => exact ⟨_, _, rfl, rfl, S⟩
  case round =>
    clear S
    obtain ⟨ad2, c2, rfl, rfl, S⟩ := hrel
    obtain ⟨v1, v2, ld, hld, S2⟩ := log_open S
    clear S
    have S := S2
    clear S2
    have HLD := Lib.hid hld
    clear hld
    go_wp2_with first | ((with_reducible apply wps_store (u := (.int .i64 below)) S 4); (case hx | hy | hi | h1 => rfl); (case hn => exact Nat.le_of_ble_eq_true rfl); (case hT => decide +kernel); clear S; intro wz S; simp only [List.set_cons_succ, List.set_cons_zero, List.setIfInBounds_toArray] at S)
    (try simp only [Exit.inBlock, Exit.then]); refine bodyPost_ret (results2 rfl (res_tmp rfl) (res_tmp rfl)) rfl ?_
    exact ⟨rfl, log_close (g := ⟨g.ss, below, g.done⟩) HLD.out S⟩
end Go.Proofs.YtmjljoaakdocaaaGreatDoor
/- A configuration out of its parts. -/
namespace Go.Proofs.YtmjljoaakdocaaaGreatDoor
open Go Go.RowKit Reg Mem

theorem cfg_any {vP vL vS : Value} {hs : List Value} {c : Cfg} {w : World} {F1 F2 F3 F4 : Nat → Prop} (h1 : (Sl true vcell 1 vP hs).at_ w F1) (h2 : (Sl true Place.cells 5 vL c.lps).at_ w F2) (h3 : (Sl true Start.cells 4 vS c.starts).at_ w F3) (h4 : (Sls true Instr.cells 5 hs c.programs).at_ w F4) :
    (CfgA true [vP, vL, vS, .int .i64 c.fin, .int .i64 c.fuel, .int .i64 c.fan] hs c).at_ w (fun b => b < w.heap.size) :=
  ⟨⟨⟨vP, vL, vS, rfl, h1.1.mono h1.2, h2.1.mono h2.2, h3.1.mono h3.2⟩, h4.1.mono h4.2⟩, fun _ h => h⟩
theorem sls_one {α : Type} {enc : α → List Value} {k : Nat} {v : Value} {xs : List α} {w : World} {F : Nat → Prop} (h : (Sl true enc k v xs).at_ w F) : (Sls true enc k [v] [xs]).at_ w F :=
  ⟨⟨rfl, fun i u ys hu hy => by
    cases i with
    | zero => simp at hu hy; subst hu; subst hy; exact h.1
    | succ i => simp at hu⟩, h.2⟩
end Go.Proofs.YtmjljoaakdocaaaGreatDoor
