import Derived.Test.YtfiiaechippboaaDoorR09
import Derived.Test.YtfiiaechippboaaDoorR07
import Derived.Test.YtfiiaechippboaaDoorR06
import Derived.Test.YtfiiaechippboaaDoorR04
import Derived.Test.YtfiiaechippboaaDoorR03
import Derived.RangeFuncNested
import Derived.RangeFuncBound
import Derived.RangeFuncCalls
import Derived.RangeFuncLeaves
import Derived.OrdersIn
import Derived.OwnWalkIn
import Derived.TacticsInMore
import Derived.LoopNIn
import Derived.LoopIn
import Derived.RangeFuncSeq
/- The walk of slices.SortStableFunc. -/
namespace Go.Proofs.YtfiiaechippboaaDoor
open Go Go.RowKit Reg Mem

def St1Rel (F : Nat → Prop) (R c N : Nat) (xs : List TE) (w : World) (av bv : Value) (wr : World) : Prop :=
  ∃ (a : Nat) (d : List TE), av = .int .i64 a ∧ bv = .int .i64 ((a + 20 : Nat) : Int) ∧ a ≤ N ∧ Done 20 a d ∧ d.Perm (xs.take a) ∧ St F w wr [Own 54 tcells 7 (.slice (some ⟨R, 0, none⟩) N c) (d ++ xs.drop a)]
def St2Rel (F : Nat → Prop) (R c N : Nat) (xs : List TE) (w : World) (kv : Value) (wr : World) : Prop :=
  ∃ (k : Nat) (ys : List TE), kv = .int .i64 k ∧ 0 < k ∧ k ≤ 131072 ∧ Runs k 0 ys ∧ ys.Perm xs ∧ St F w wr [Own 54 tcells 7 (.slice (some ⟨R, 0, none⟩) N c) ys]
def St3Rel (F : Nat → Prop) (R c N k : Nat) (xs : List TE) (w : World) (av bv : Value) (wr : World) : Prop :=
  ∃ (a : Nat) (d r : List TE), av = .int .i64 a ∧ bv = .int .i64 ((a + 2 * k : Nat) : Int) ∧ a ≤ N ∧ Done (2 * k) a d ∧ Runs k a r ∧ (d ++ r).Perm xs ∧ St F w wr [Own 54 tcells 7 (.slice (some ⟨R, 0, none⟩) N c) (d ++ r)]
def StabPost (F : Nat → Prop) (R c N : Nat) (xs : List TE) (w : World) (e : Ending) (w' : World) : Prop :=
  e = .returned (.tuple #[]) ∧ ∃ ys : List TE, ys.Perm xs ∧ Srt ys ∧ St F w w' [Own 54 tcells 7 (.slice (some ⟨R, 0, none⟩) N c) ys]
set_option maxRecDepth 100000 in
set_option maxHeartbeats 8000000 in
theorem stable_calls (R c N : Nat) (l : List Event) (w : World) (F : Nat → Prop) (h : (Own 54 tcells 7 (.slice (some ⟨R, 0, none⟩) N c) (tag l)).at_ w F) (hN : N = l.length) (hn : N ≤ 65536) :
    Calls Tryd.prog 66 #[.slice (some ⟨R, 0, none⟩) N c, .int .i64 N, .func (.func 50) #[] #[]] w (StabPost F R c N (tag l) w) := by
  have S := St.one w h
  clear h
  have HI : Hid (∀ a n, a + n ≤ N → InT a (((tag l).drop a).take n)) := fun a n h => tag_in l a n (by omega)
  have HR := Lib.hid (tag_rise l)
  have HL : Hid ((tag l).length = N) := by rw [tag_len]; exact hN.symm
  clear hN
  generalize tag l = xs at *
  go_enter Tryd.func66, Tryd.ntmps66
  go_wp2_with first
    | ((with_reducible refine tot_done ?ht ?_); (case ht => kernel_rfl))
  go_loopw [7, 8] (fun a b wr => St1Rel F R c N xs w a b wr) (fun a _ _ => (N - intOf a).toNat)
  case atStart => exact ⟨0, [], rfl, rfl, Nat.zero_le _, Done.start _, by simp, S⟩
  case round =>
    clear S
    obtain ⟨a, d, rfl, rfl, haN, hd, hp, S⟩ := hrel
    have hdl := hd.len
    by_cases hlt : a + 20 ≤ N
    · have hlt2 : (a : Int) + 20 ≤ N := by omega
      have e1 : d ++ xs.drop a = d ++ (xs.drop a).take 20 ++ xs.drop (a + 20) := by
        rw [List.append_assoc, ← List.drop_drop, List.take_append_drop]
      have l1 : ((xs.drop a).take 20).length = 20 := by simp; have := HL.out; omega
      have hpw : ((xs.drop a).take 20).Pairwise (fun x y => x.2 < y.2) := (HR.out.sublist (List.drop_sublist _ _)).sublist (List.take_sublist _ _)
      have HE := Lib.hid e1
      rw [HE.out] at S
      have HI2 := Lib.hid (HI.out a 20 hlt)
      have hlen : N = (d ++ (xs.drop a).take 20 ++ xs.drop (a + 20)).length := by rw [← e1]; simp; have := HL.out; omega
      have Hdl := Lib.hid hdl
      have L1 := Lib.hid l1
      have Hpw := Lib.hid hpw
      have Hd := Lib.hid hd
      have Hp := Lib.hid hp
      have Hlen := Lib.hid hlen
      clear hdl l1 hpw hd hp hlen
      clear e1
      go_wp2_with first
        | (go_at_call 77; obtain ⟨Fz, hF, hBk⟩ := S.lend1 0 rfl rfl; refine Calls.mono (insert_calls R c N a (a + 20) d ((xs.drop a).take 20) (xs.drop (a + 20)) _ _ hF Hlen.out Hdl.out.symm (by have := L1.out; omega) hn Hpw.out) ?_; rintro e wz ⟨rfl, s, hs1, hs2, T⟩; replace S := hBk _ _ rfl T; clear hBk hF T; simp only [List.set_cons_zero] at S)
        | ((with_reducible refine tot_done ?ht ?_); (case ht => kernel_rfl))
      have hsl := hs1.length_eq
      go_roundw
      case rel => exact ⟨a + 20, d ++ s, by go_num, by go_num, by omega, Hd.out.step (by rw [hsl]; exact L1.out) hs2 (HI2.out.perm hs1), by rw [List.take_add]; exact Hp.out.append hs1, S⟩
      case measure => first | (simp [intOf]; done) | (simp [intOf]; omega)
    · have hlt2 : ¬ (a : Int) + 20 ≤ N := by omega
      have HE : Hid (d ++ xs.drop a = d ++ xs.drop a ++ []) := by simp [Hid]
      rw [HE.out] at S
      have hpw : (xs.drop a).Pairwise (fun x y => x.2 < y.2) := HR.out.sublist (List.drop_sublist _ _)
      have HI2 := Lib.hid (HI.out a (N - a) (by omega))
      have hlen : N = (d ++ xs.drop a ++ []).length := by simp; have := HL.out; omega
      have l1 : (xs.drop a).length = N - a := by simp; have := HL.out; omega
      have Hdl := Lib.hid hdl
      have L1 := Lib.hid l1
      have Hpw := Lib.hid hpw
      have Hd := Lib.hid hd
      have Hp := Lib.hid hp
      have Hlen := Lib.hid hlen
      clear hdl l1 hpw hd hp hlen
      go_wp2_with first
        | (go_at_call 77; obtain ⟨Fz, hF, hBk⟩ := S.lend1 0 rfl rfl; refine Calls.mono (insert_calls R c N a N d (xs.drop a) [] _ _ hF Hlen.out Hdl.out.symm (by have := L1.out; omega) hn Hpw.out) ?_; rintro e wz ⟨rfl, s, hs1, hs2, T⟩; replace S := hBk _ _ rfl T; clear hBk hF T; simp only [List.set_cons_zero] at S)
        | ((with_reducible refine tot_done ?ht ?_); (case ht => kernel_rfl))
      have hsl := hs1.length_eq
      have HP : Hid ((d ++ s ++ []).Perm xs) := by
        have := Hp.out.append hs1
        rw [List.take_append_drop] at this
        simpa [Hid] using this
      have HRun : Hid (Runs 20 0 (d ++ s ++ [])) := by
        have e : (xs.drop a).take (N - a) = xs.drop a := List.take_of_length_le (by have := L1.out; omega)
        have h1 := HI2.out
        rw [e] at h1
        rw [List.append_nil]
        exact Hd.out.go _ (.last (by rw [hsl]; have := L1.out; omega) hs2 (h1.perm hs1))
      clear hs1 hs2 hsl
      generalize d ++ s ++ [] = ys at *
      go_loopw [6] (fun kv wr => St2Rel F R c N xs w kv wr) (fun kv _ => (N - intOf kv).toNat)
      case atStart => exact ⟨20, ys, rfl, by omega, by omega, HRun.out, HP.out, S⟩
      case round =>
        clear S HP HRun
        obtain ⟨k, ys, rfl, hk0, hkM, hrun, hp2, S⟩ := hrel
        have hyl : ys.length = N := by rw [hp2.length_eq]; exact HL.out
        by_cases hkN : k < N
        · have hkN2 : (k : Int) < N := by omega
          have Hrun := Lib.hid hrun
          have Hp2 := Lib.hid hp2
          have Hyl := Lib.hid hyl
          clear hp2 hyl
          clear hrun
          go_wp2_with first
            | ((with_reducible refine tot_done ?ht ?_); (case ht => kernel_rfl))
          go_loopw [7, 8] (fun a b wr => St3Rel F R c N k xs w a b wr) (fun a _ _ => (N - intOf a).toNat)
          case atStart => exact ⟨0, [], ys, rfl, by go_num, Nat.zero_le _, Done.start _, Hrun.out, by simpa using Hp2.out, by simpa using S⟩
          case round =>
            clear S Hrun Hp2 Hyl
            obtain ⟨a, d, r, rfl, rfl, haN, hd, hrun, hp3, S⟩ := hrel
            have hdl := hd.len
            have hlen : d.length + r.length = N := by have := hp3.length_eq; rw [List.length_append] at this; rw [this]; exact HL.out
            by_cases hab : a + 2 * k ≤ N
            · have hab2 : (a : Int) + 2 * k ≤ N := by omega
              obtain ⟨l1, l2, r2, rfl, g1, g2, g3, g4, g5, g6, g7⟩ := runs_two hrun hk0 (by omega)
              obtain ⟨i1, i2⟩ := g5.two g6 g1
              have HE : Hid (d ++ (l1 ++ l2 ++ r2) = d ++ l1 ++ l2 ++ r2) := by simp [Hid]
              rw [HE.out] at S
              have hlen2 : N = (d ++ l1 ++ l2 ++ r2).length := by simp at hlen ⊢; omega
              have Hdl := Lib.hid hdl
              have Hlen := Lib.hid hlen
              have Hd := Lib.hid hd
              have Hrun := Lib.hid hrun
              have Hp3 := Lib.hid hp3
              have G1 := Lib.hid g1
              have G2 := Lib.hid g2
              have G3 := Lib.hid g3
              have G4 := Lib.hid g4
              have G5 := Lib.hid g5
              have G6 := Lib.hid g6
              have G7 := Lib.hid g7
              have I1 := Lib.hid i1
              have I2 := Lib.hid i2
              have Hlen2 := Lib.hid hlen2
              clear hdl hlen hd hrun hp3 g1 g2 g3 g4 g5 g6 g7 i1 i2 hlen2
              go_wp2_with first
                | (go_at_call 78; obtain ⟨Fz, hF, hBk⟩ := S.lend1 0 rfl rfl; refine Calls.mono (sym_calls R c N a (a + k) (a + 2 * k) d l1 l2 r2 _ _ hF Hlen2.out Hdl.out.symm (by have := G1.out; omega) (by have := G2.out; omega) (by have := G1.out; omega) (by have := G2.out; omega) G3.out G4.out I2.out hn) ?_; rintro e wz ⟨rfl, ys, ⟨s, hs1, hs2, rfl⟩, T⟩; replace S := hBk _ _ rfl T; clear hBk hF T; simp only [List.set_cons_zero] at S)
                | ((with_reducible refine tot_done ?ht ?_); (case ht => kernel_rfl))
              have hsl := hs1.length_eq
              go_roundw
              case rel => exact ⟨a + 2 * k, d ++ s, r2, by go_num, by go_num, by omega, Hd.out.step (by rw [hsl, List.length_append, G1.out, G2.out]; omega) hs2 (I1.out.perm hs1), G7.out, ((hs1.append_left d).append_right r2).trans (by have := Hp3.out; rwa [HE.out, List.append_assoc d] at this), S⟩
              case measure => first | (simp [intOf]; done) | (simp [intOf]; omega)
            · have hab2 : ¬ (a : Int) + 2 * k ≤ N := by omega
              by_cases hm : a + k < N
              · have hm2 : (a : Int) + k < N := by omega
                obtain ⟨l1, l2, rfl, g1, g3, g4, g5, g6⟩ := runs_one hrun (by omega) (by omega)
                obtain ⟨i1, i2⟩ := g5.two g6 g1
                have g2 : l2.length = N - (a + k) := by simp at hlen; omega
                have HE : Hid (d ++ (l1 ++ l2) = d ++ l1 ++ l2 ++ []) := by simp [Hid]
                rw [HE.out] at S
                have hlen2 : N = (d ++ l1 ++ l2 ++ []).length := by simp at hlen ⊢; omega
                have Hdl := Lib.hid hdl
                have Hlen := Lib.hid hlen
                have Hd := Lib.hid hd
                have Hrun := Lib.hid hrun
                have Hp3 := Lib.hid hp3
                have G1 := Lib.hid g1
                have G2 := Lib.hid g2
                have G3 := Lib.hid g3
                have G4 := Lib.hid g4
                have G5 := Lib.hid g5
                have G6 := Lib.hid g6
                have I1 := Lib.hid i1
                have I2 := Lib.hid i2
                have Hlen2 := Lib.hid hlen2
                clear hdl hlen hd hrun hp3 g1 g2 g3 g4 g5 g6 i1 i2 hlen2
                go_wp2_with first
                  | (go_at_call 78; obtain ⟨Fz, hF, hBk⟩ := S.lend1 0 rfl rfl; refine Calls.mono (sym_calls R c N a (a + k) N d l1 l2 [] _ _ hF Hlen2.out Hdl.out.symm (by have := G1.out; omega) (by have := G2.out; omega) (by have := G1.out; omega) (by have := G2.out; omega) G3.out G4.out I2.out hn) ?_; rintro e wz ⟨rfl, ys, ⟨s, hs1, hs2, rfl⟩, T⟩; replace S := hBk _ _ rfl T; clear hBk hF T; simp only [List.set_cons_zero] at S)
                  | ((with_reducible refine tot_done ?ht ?_); (case ht => kernel_rfl))
                have hsl := hs1.length_eq
                go_roundw
                case rel => exact ⟨2 * k, d ++ s ++ [], by go_num, by omega, by omega, by rw [List.append_nil]; exact Hd.out.go _ (.last (by rw [hsl, List.length_append, G1.out, G2.out]; omega) hs2 (I1.out.perm hs1)), by rw [List.append_nil]; exact (hs1.append_left d).trans Hp3.out, S⟩
                case measure => first | (simp [intOf]; done) | (simp [intOf]; omega)
              · have hm2 : ¬ (a : Int) + k < N := by omega
                obtain ⟨g1, g2⟩ := runs_srt hrun (by omega)
                have HRun : Hid (Runs (2 * k) 0 (d ++ r)) := hd.go _ (.last (by omega) g1 g2)
                have Hdl := Lib.hid hdl
                have Hlen := Lib.hid hlen
                have Hd := Lib.hid hd
                have Hrun := Lib.hid hrun
                have Hp3 := Lib.hid hp3
                have G1 := Lib.hid g1
                have G2 := Lib.hid g2
                clear hdl hlen hd hrun hp3 g1 g2
                go_wp2_with first
                  | ((with_reducible refine tot_done ?ht ?_); (case ht => kernel_rfl))
                go_roundw
                case rel => exact ⟨2 * k, d ++ r, by go_num, by omega, by omega, HRun.out, Hp3.out, S⟩
                case measure => first | (simp [intOf]; done) | (simp [intOf]; omega)
        · have hkN2 : ¬ (k : Int) < N := by omega
          have HS := Lib.hid (runs_srt hrun (by omega)).1
          have Hrun := Lib.hid hrun
          have Hp2 := Lib.hid hp2
          have Hyl := Lib.hid hyl
          clear hp2 hyl
          clear hrun
          go_wp2_with first
            | ((with_reducible refine tot_done ?ht ?_); (case ht => kernel_rfl))
          go_end0
          exact ⟨rfl, ys, Hp2.out, HS.out, S⟩
set_option maxRecDepth 100000 in
set_option maxHeartbeats 4000000 in
theorem stableF_calls (R c N : Nat) (l : List Event) (w : World) (F : Nat → Prop) (h : (Own 54 tcells 7 (.slice (some ⟨R, 0, none⟩) N c) (tag l)).at_ w F) (hN : N = l.length) (hn : N ≤ 65536) :
    Calls Tryd.prog 49 #[.slice (some ⟨R, 0, none⟩) N c, .func (.func 50) #[] #[]] w (StabPost F R c N (tag l) w) := by
  have S := St.one w h
  clear h
  have HN := Lib.hid hN
  clear hN
  go_enter Tryd.func49, Tryd.ntmps49
  go_wp2_with first
    | (go_at_call 66; obtain ⟨Fz, hF, hBk⟩ := S.lend1 0 rfl rfl; refine Calls.mono (stable_calls R c N l _ _ hF HN.out hn) ?_; rintro e wz ⟨rfl, ys, hy1, hy2, T⟩; replace S := hBk _ _ rfl T; clear hBk hF T; simp only [List.set_cons_zero] at S)
    | ((with_reducible refine tot_done ?ht ?_); (case ht => kernel_rfl))
  go_end0
  exact ⟨rfl, ys, hy1, hy2, S⟩
end Go.Proofs.YtfiiaechippboaaDoor
/- The walk of keys.Sort. -/
namespace Go.Proofs.YtfiiaechippboaaDoor
open Go Go.RowKit Reg Mem

theorem ecells : ∀ e : Event, e.cells.length = 7 := fun _ => rfl
theorem eone : ∀ e : Event, ∀ u ∈ e.cells, u.oneCell' = true := fun _ => by simp [Event.cells, Value.oneCell']
set_option maxRecDepth 100000 in
theorem elem_Ev : Elem Tryd.prog 29 54 7 56 := ⟨_, .agg #[.int .i64 0, .int .i64 0, .int .i64 0, .int .i64 0, .int .i64 0, .int .i64 0, .int .i64 0], Tryd.underlying29, rfl, by kernel_rfl, by kernel_rfl, by kernel_rfl, by kernel_rfl, by omega⟩
set_option maxRecDepth 100000 in
/-- slices.Clone. -/
theorem clone_Ev {ad : Option Addr} {n c : Nat} {xs : List _} (w : World) (F : Nat → Prop) (h : (Sl true Event.cells 7 (.slice ad n c) xs).at_ w F) (hn : xs.length ≤ 4294967296) :
    Calls Tryd.prog 48 #[.slice ad n c] w fun e w' => ∃ ad' c', e = .returned (.slice ad' xs.length c') ∧ (0 < xs.length → ∃ R, ad' = some ⟨R, 0, none⟩) ∧ St (fun _ => False) w w' [Own 54 Event.cells 7 (.slice ad' xs.length c') xs] := by
  have S : St (fun _ => False) w w [Sl true Event.cells 7 (.slice ad n c) xs] := (St.init _ w).share rfl rfl h
  have hq : ∀ (w : World) (a : Option Addr) (n c n' c' : Nat), (binOp .eql 29 (.slice a n c) (.slice none n' c')).run Tryd.prog w = .ok (.bool a.isNone) w := fun w a n c n' c' => Lib.run_eql_slice_nil w _ _ a n c n' c' Tryd.underlying29
  cases ad with
  | none =>
    have hx : xs = [] := by
      obtain ⟨a, c', e, h1, h2, _⟩ := h.1
      simp only [Value.slice.injEq] at e
      obtain ⟨rfl, rfl, rfl⟩ := e
      exact List.eq_nil_of_length_eq_zero (by have := h2 rfl; omega)
    subst hx
    go_enter Tryd.func48, Tryd.ntmps48
    go_wp2_with first
      | ((with_reducible refine tot_done ?ht ?_); (case ht => kernel_rfl))
    go_ret
    exact ⟨_, _, rfl, fun h => absurd h (by simp), ((S.nil 54 Event.cells 7).pick [0] rfl)⟩
  | some a0 =>
    go_enter Tryd.func48, Tryd.ntmps48
    go_wp2_with first
      | ((with_reducible apply wps_build0 (T := 29) (E := 54) Event.cells 7 S); (case hr => intro w; kernel_rfl); clear S; intro bz wz S)
      | ((with_reducible apply wps_appends elem_Ev ecells eone (by decide) S 0 (j := 1)); (case hx => rfl); (case hy => rfl); (case hi => rfl); (case hj => rfl); (case hl => first | omega | (simp; omega)); clear S; intro az nz cz wz hnz S; simp only [List.set_cons_zero] at S)
      | ((with_reducible refine tot_done ?ht ?_); (case ht => kernel_rfl))
    go_ret
    obtain rfl : nz = xs.length := by have := hnz.out; simp at this; omega
    simp only [List.nil_append] at S
    refine ⟨_, _, rfl, fun h0 => ?_, S.pick [0] rfl⟩
    obtain ⟨F, hF⟩ := S.get (i := 0) rfl
    rcases hF.1.2 with ⟨_, e⟩ | ⟨g, cap, cur, e, _⟩
    · omega
    · simp only [Value.slice.injEq] at e; exact ⟨g, e.1⟩
set_option maxRecDepth 100000 in
set_option maxHeartbeats 4000000 in
theorem insert0_calls (ad : Option Addr) (c : Nat) (cv : Value) (w : World) : Calls Tryd.prog 77 #[.slice ad 0 c, .int .i64 0, .int .i64 0, cv] w fun e w' => e = .returned (.tuple #[]) ∧ Below w.heap.size w w' := by
  have S := St.init (fun _ => False) w
  go_enter Tryd.func77, Tryd.ntmps77
  go_wp2_with first
    | go_skip
    | ((with_reducible refine wpList_skip ?hw ?_); (case hw => with_unfolding_all rfl); simp only [Act.put, List.setIfInBounds_toArray, List.set_cons_succ, List.set_cons_zero])
    | ((with_reducible refine tot_done ?ht ?_); (case ht => kernel_rfl))
    | ((with_reducible apply wps_text S); (case hm => kernel_rfl); (case hB => decide +kernel); clear S; intro wz S)
    | ((with_reducible apply wps_loada (T := 54) (k := 7) S 0); (case hx => rfl); (case hi => rfl); (case hT => decide +kernel); (case hk => exact Nat.le_of_ble_eq_true rfl))
    | ((with_reducible apply wps_loada (T := 54) (k := 7) S 1); (case hx => rfl); (case hi => rfl); (case hT => decide +kernel); (case hk => exact Nat.le_of_ble_eq_true rfl))
    | ((with_reducible apply wps_loada (T := 54) (k := 7) S 2); (case hx => rfl); (case hi => rfl); (case hT => decide +kernel); (case hk => exact Nat.le_of_ble_eq_true rfl))
    | ((with_reducible apply wps_loada (T := 54) (k := 7) S 3); (case hx => rfl); (case hi => rfl); (case hT => decide +kernel); (case hk => exact Nat.le_of_ble_eq_true rfl))
  go_loopw [8, 9] (fun i _ wr => i = .int .i64 1 ∧ St (fun _ => False) w wr []) (fun _ _ _ => 0)
  case atStart => exact ⟨rfl, S⟩
  case round =>
    clear S
    obtain ⟨rfl, S⟩ := hrel
    go_wp2_with first
      | go_skip
      | ((with_reducible refine wpList_skip ?hw ?_); (case hw => with_unfolding_all rfl); simp only [Act.put, List.setIfInBounds_toArray, List.set_cons_succ, List.set_cons_zero])
      | ((with_reducible refine tot_done ?ht ?_); (case ht => kernel_rfl))
      | ((with_reducible apply wps_text S); (case hm => kernel_rfl); (case hB => decide +kernel); clear S; intro wz S)
      | ((with_reducible apply wps_loada (T := 54) (k := 7) S 0); (case hx => rfl); (case hi => rfl); (case hT => decide +kernel); (case hk => exact Nat.le_of_ble_eq_true rfl))
      | ((with_reducible apply wps_loada (T := 54) (k := 7) S 1); (case hx => rfl); (case hi => rfl); (case hT => decide +kernel); (case hk => exact Nat.le_of_ble_eq_true rfl))
      | ((with_reducible apply wps_loada (T := 54) (k := 7) S 2); (case hx => rfl); (case hi => rfl); (case hT => decide +kernel); (case hk => exact Nat.le_of_ble_eq_true rfl))
      | ((with_reducible apply wps_loada (T := 54) (k := 7) S 3); (case hx => rfl); (case hi => rfl); (case hT => decide +kernel); (case hk => exact Nat.le_of_ble_eq_true rfl))
    go_end0
    exact ⟨rfl, S.below⟩
set_option maxRecDepth 100000 in
set_option maxHeartbeats 4000000 in
theorem stable0_calls (ad : Option Addr) (c : Nat) (cv : Value) (w : World) : Calls Tryd.prog 66 #[.slice ad 0 c, .int .i64 0, cv] w fun e w' => e = .returned (.tuple #[]) ∧ Below w.heap.size w w' := by
  have S := St.init (fun _ => False) w
  go_enter Tryd.func66, Tryd.ntmps66
  go_wp2_with first
    | ((with_reducible refine tot_done ?ht ?_); (case ht => kernel_rfl))
  go_loopw [7, 8] (fun a b wr => a = .int .i64 0 ∧ b = .int .i64 20 ∧ St (fun _ => False) w wr []) (fun _ _ _ => 0)
  case atStart => exact ⟨rfl, rfl, S⟩
  case round =>
    clear S
    obtain ⟨rfl, rfl, S⟩ := hrel
    go_wp2_with first
      | (go_at_call 77; refine Calls.mono (insert0_calls _ _ _ _) ?_; rintro e wz ⟨rfl, hE⟩; replace S := S.ext (Keep.of_below hE); clear hE)
      | ((with_reducible refine tot_done ?ht ?_); (case ht => kernel_rfl))
    go_loopw [6] (fun k wr => k = .int .i64 20 ∧ St (fun _ => False) w wr []) (fun _ _ => 0)
    case atStart => exact ⟨rfl, S⟩
    case round =>
      clear S
      obtain ⟨rfl, S⟩ := hrel
      go_wp2_with first
        | ((with_reducible refine tot_done ?ht ?_); (case ht => kernel_rfl))
      go_end0
      exact ⟨rfl, S.below⟩
set_option maxRecDepth 100000 in
set_option maxHeartbeats 4000000 in
theorem stableF0_calls (ad : Option Addr) (c : Nat) (cv : Value) (w : World) : Calls Tryd.prog 49 #[.slice ad 0 c, cv] w fun e w' => e = .returned (.tuple #[]) ∧ Below w.heap.size w w' := by
  have S := St.init (fun _ => False) w
  go_enter Tryd.func49, Tryd.ntmps49
  go_wp2_with first
    | (go_at_call 66; refine Calls.mono (stable0_calls _ _ _ _) ?_; rintro e wz ⟨rfl, hE⟩; replace S := S.ext (Keep.of_below hE); clear hE)
    | ((with_reducible refine tot_done ?ht ?_); (case ht => kernel_rfl))
  go_end0
  exact ⟨rfl, S.below⟩
theorem tag_flat (l : List Event) : flatE Event.cells l = flatE tcells (tag l) := by
  have e : tcells = fun x : TE => Event.cells x.1 := rfl
  conv => lhs; rw [← tag_map l]
  simp [flatE, e, List.flatMap_map]
theorem flat_tag (ys : List TE) : flatE tcells ys = flatE Event.cells (ys.map (·.1)) := by
  have e : tcells = fun x : TE => Event.cells x.1 := rfl
  simp [flatE, e, List.flatMap_map]
/-- What sorting leaves: a new list, in order. -/
def SortPost (l : List Event) (w : World) (e : Ending) (w' : World) : Prop :=
  ∃ ad c, e = .returned (.slice ad l.length c) ∧ St (fun _ => False) w w' [Own 54 Event.cells 7 (.slice ad l.length c) (sortE l)]
set_option maxRecDepth 100000 in
set_option maxHeartbeats 4000000 in
theorem sort_calls (v : Value) (l : List Event) (w : World) (F : Nat → Prop) (h : (Sl true Event.cells 7 v l).at_ w F) (hn : l.length ≤ 65536) : Calls Tryd.prog 31 #[v] w (SortPost l w) := by
  have S : St (fun _ => False) w w [Sl true Event.cells 7 v l] := (St.init _ w).share rfl rfl h
  obtain ⟨ad, cp, rfl, _⟩ := (S.sl 0 rfl).elim fun _ h => h.form
  clear h
  go_enter Tryd.func31, Tryd.ntmps31
  go_wp2_with first
    | ((with_reducible refine tot_done ?ht ?_); (case ht => kernel_rfl))
  refine Calls.mono (clone_Ev _ _ (S.get (i := 0) rfl).choose_spec (by omega)) ?_
  rintro e wz ⟨ad2, c2, rfl, hhd, T⟩
  replace S := S.join T rfl
  simp only [List.cons_append, List.nil_append] at S
  clear T
  by_cases h0 : l.length = 0
  · obtain rfl : l = [] := List.eq_nil_of_length_eq_zero h0
    clear hhd
    simp only [List.length_nil] at *
    go_wp2_with first
      | (go_at_call 49; refine Calls.mono (stableF0_calls _ _ _ _) ?_; rintro e wz ⟨rfl, hE⟩; replace S := S.ext (Keep.of_below hE); clear hE)
      | ((with_reducible refine tot_done ?ht ?_); (case ht => kernel_rfl))
    go_ret
    exact ⟨_, _, rfl, S.pick [0] rfl⟩
  · obtain ⟨R, rfl⟩ := hhd (by omega)
    clear hhd
    have S2 := S.conv 0 rfl (tag l) (tag_len l).symm (tag_flat l)
    clear S
    have S := S2
    clear S2
    simp only [List.set_cons_zero] at S
    go_wp2_with first
      | (go_at_call 49; obtain ⟨Fz, hF, hBk⟩ := S.lend1 0 rfl rfl; refine Calls.mono (stableF_calls R c2 l.length l _ _ hF rfl hn) ?_; rintro e wz ⟨rfl, ys, hy1, hy2, T⟩; replace S := hBk _ _ rfl T; clear hBk hF T; simp only [List.set_cons_zero] at S)
      | ((with_reducible refine tot_done ?ht ?_); (case ht => kernel_rfl))
    go_ret
    have e1 : l.length = ys.length := by rw [hy1.length_eq, tag_len]
    have S2 := S.conv 0 rfl (ys.map (·.1)) (by simp) (flat_tag ys)
    rw [sortE_of hy1 hy2] at S2
    simp only [List.set_cons_zero] at S2
    exact ⟨_, _, rfl, S2.pick [0] rfl⟩
end Go.Proofs.YtfiiaechippboaaDoor
/- Opening a case that came in: a process, a state, events. -/
namespace Go.Proofs.YtfiiaechippboaaDoor
open Go Go.ChangeShapes Go.WideShapes Go.ChangeAt Go.RowKit Mem

theorem list3 {α : Type} : ∀ {l : List α}, l.length = 3 → ∃ a b c, l = [a, b, c]
  | [a, b, c], _ => ⟨a, b, c, rfl⟩
section
variable {H : Type} {enc : TypeId × Value → H} {w : World} {base : Nat} {spare : Nat → Bool} {held : Bool}
/-- A number of the kind. -/
def I64 (n : Int) : Prop := -9223372036854775808 ≤ n ∧ n ≤ 9223372036854775807
structure WideS (s : State) : Prop where
  n0 : I64 s.n0
  n1 : I64 s.n1
  n2 : I64 s.n2
  n3 : I64 s.n3
set_option maxRecDepth 100000 in
theorem open_case {v : Value} {d : DataW H} {p : List MemPlace} {r : Reach} {base2 : Nat} (h : DataW.Trod enc Tryd.prog w base spare held 31 v d p) (hv : Value.okWide Tryd.prog w r base2 31 v) :
    ∃ (lp : Int) (s : State) (vL : Value) (l : List Event), v = .agg #[.int .i64 lp, .int .i64 s.n0, .int .i64 s.n1, .int .i64 s.n2, .int .i64 s.n3, vL] ∧ (Sl true Event.cells 7 vL l).at_ w (fun b => b < w.heap.size) ∧ l.length ≤ maxLen := by
  obtain ⟨cs, rfl, _⟩ := okWide_struct Tryd.underlying31 hv
  obtain ⟨fuel, hf⟩ := h
  obtain ⟨xs, n, _, _, hlen, hxl, hfs⟩ := DataW.trod_struct Tryd.underlying31 hf
  have zC : Tryd.prog.cellsOf 31 = 6 := by kernel_rfl
  have zS : Tryd.prog.cellsOf 28 = 4 := by kernel_rfl
  have zL : Tryd.prog.cellsOf 29 = 1 := by kernel_rfl
  have zI : Tryd.prog.cellsOf 3 = 1 := by kernel_rfl
  have e0 : (Value.agg cs).cells.toList = cs.toList := rfl
  rw [e0] at hfs hlen
  rw [zC] at hlen
  obtain ⟨c0, c1, c2, c3, c4, c5, hcs⟩ := list6 hlen
  obtain ⟨y0, y1, y2, rfl⟩ := list3 (show xs.length = 3 from hxl)
  have f0 : DataW.trod enc Tryd.prog w base spare held n 3 [c0] = some y0 := by
    have h : DataW.trod enc Tryd.prog w base spare held n 3 ((cs.toList.drop 0).take (Tryd.prog.cellsOf 3)) = some y0 := hfs 0 _ rfl
    rw [zI, hcs] at h
    exact h
  have f1 : DataW.trod enc Tryd.prog w base spare held n 28 [c1, c2, c3, c4] = some y1 := by
    have h : DataW.trod enc Tryd.prog w base spare held n 28 ((cs.toList.drop 1).take (Tryd.prog.cellsOf 28)) = some y1 := hfs 1 _ rfl
    rw [zS, hcs] at h
    exact h
  have f2 : DataW.trod enc Tryd.prog w base spare held n 29 [c5] = some y2 := by
    have h : DataW.trod enc Tryd.prog w base spare held n 29 ((cs.toList.drop 5).take (Tryd.prog.cellsOf 29)) = some y2 := hfs 2 _ rfl
    rw [zL, hcs] at h
    exact h
  obtain ⟨lp, g0, _⟩ := DataW.trod_int Tryd.underlying3 f0
  obtain ⟨h1, _⟩ := trod_flat 100 28 i4 (by kernel_rfl) (by kernel_rfl) n _ _ f1
  obtain ⟨a, b, c, d, g1⟩ := dec4 h1
  obtain ⟨vL, l, g2, a2, l2⟩ := trod_sl (ks := i7) Event.cells 7 Tryd.underlying29 (by kernel_rfl) (by kernel_rfl) rfl (by decide) ecells event_dec f2
  cases g0; cases g1; cases g2
  refine ⟨lp, ⟨a, b, c, d⟩, c5, l, ?_, ⟨a2, fun _ h => h⟩, l2⟩
  congr 1
  rw [← Array.toList_inj, hcs]
end
end Go.Proofs.YtfiiaechippboaaDoor
/- Opening a configuration that came in, with the bytes that it takes. -/
namespace Go.Proofs.YtfiiaechippboaaDoor
open Go Go.ChangeShapes Go.WideShapes Go.ChangeAt Go.RowKit Mem Go.Deep

section
variable {H : Type} {enc : TypeId × Value → H} {w : World} {base : Nat} {spare : Nat → Bool} {held : Bool}
def Light (P : Program) (t : TypeId) (d : DataW H) : Prop := ∀ n ∈ d.weights P t, n ≤ reachBytes
theorem light_all {P : Program} {e : TypeId} : ∀ {l : List (DataW H)}, (∀ n ∈ DataW.weightsAll P e l, n ≤ reachBytes) → ∀ d ∈ l, Light P e d
  | [], _, d, hd => by cases hd
  | x :: l, h, d, hd => by
    simp only [DataW.weightsAll, List.mem_append] at h
    rcases List.mem_cons.1 hd with rfl | hd
    · exact fun n hn => h n (.inl hn)
    · exact light_all (fun n hn => h n (.inr hn)) d hd
theorem light_slice {P : Program} {t e : TypeId} (ht : P.underlying t = some (.slice e)) {es sp : List (DataW H)} (h : Light P t (.slice es sp)) : (es.length + sp.length) * P.bytesOf e ≤ reachBytes ∧ ∀ d ∈ es, Light P e d := by
  unfold Light at h
  simp only [DataW.weights, ht, List.mem_cons, List.mem_append] at h
  exact ⟨h _ (.inl rfl), light_all fun n hn => h n (.inr (.inl hn))⟩
theorem sl_bytes {P : Program} {t e : TypeId} (ht : P.underlying t = some (.slice e)) {fuel : Nat} {cs : List Value} {x : DataW H × List MemPlace} (hf : DataW.trod enc P w base spare held fuel t cs = some x) {a : Option Addr} {len c : Nat} (hcs : cs = [.slice a len c]) (hw : Light P t x.1) :
    len * P.bytesOf e ≤ reachBytes := by
  rcases open_slice ht hf with ⟨rfl, _⟩ | ⟨a', len', cap, m, n, D, Pl, rfl, _, _, _, _, rfl, _⟩
  · simp only [List.cons.injEq, Value.slice.injEq] at hcs
    obtain ⟨⟨_, rfl, _⟩, _⟩ := hcs
    simp
  · simp only [List.cons.injEq, Value.slice.injEq] at hcs
    obtain ⟨⟨_, rfl, _⟩, _⟩ := hcs
    have := (light_slice ht hw).1
    simp only [List.length_map, List.length_range] at this
    exact Nat.le_trans (Nat.mul_le_mul_right _ (by omega)) this
theorem trod_slB {P : Program} {t e : TypeId} {ks : List TypeDesc} {α : Type} (en : α → List Value) (k : Nat) (ht : P.underlying t = some (.slice e)) (hl : lay P 100 e = some ks) (hk : P.cellsOf e = ks.length) (hkk : ks.length = k) (h0 : 0 < k) (hen : ∀ x, (en x).length = k)
    (dec : ∀ vs, fits ks vs = true → (∀ v ∈ vs, wfv v = true) → ∃ x : α, en x = vs ∧ True) {fuel : Nat} {cs : List Value} {x : DataW H × List MemPlace} (hf : DataW.trod enc P w base spare held fuel t cs = some x) (hw : Light P t x.1) :
    ∃ v, ∃ xs : List α, cs = [v] ∧ SlAt en k w (fun b => b < w.heap.size) v xs ∧ xs.length ≤ maxLen ∧ xs.length * P.bytesOf e ≤ reachBytes := by
  obtain ⟨v, xs, h1, h2, h3⟩ := trod_sl en k ht hl hk hkk h0 hen dec hf
  obtain ⟨a, c, rfl, _⟩ := h2.form
  exact ⟨_, xs, h1, h2, h3, sl_bytes ht hf h1 hw⟩
theorem trod_slsB {P : Program} {t e e2 : TypeId} {ks : List TypeDesc} {α : Type} (en : α → List Value) (k : Nat) (ht : P.underlying t = some (.slice e)) (he : P.underlying e = some (.slice e2)) (hce : P.cellsOf e = 1) (hl : lay P 100 e2 = some ks) (hk : P.cellsOf e2 = ks.length) (hkk : ks.length = k) (h0 : 0 < k) (hen : ∀ x, (en x).length = k)
    (dec : ∀ vs, fits ks vs = true → (∀ v ∈ vs, wfv v = true) → ∃ x : α, en x = vs ∧ True) {fuel : Nat} {cs : List Value} {x : DataW H × List MemPlace} (hf : DataW.trod enc P w base spare held fuel t cs = some x) (hw : Light P t x.1) :
    ∃ v, ∃ hs : List Value, ∃ xss : List (List α), cs = [v] ∧ SlAt vcell 1 w (fun b => b < w.heap.size) v hs ∧ SlsAt en k w (fun b => b < w.heap.size) hs xss ∧ xss.length ≤ maxLen ∧ (∀ xs ∈ xss, xs.length ≤ maxLen) ∧ xss.length * P.bytesOf e ≤ reachBytes ∧ ∀ xs ∈ xss, xs.length * P.bytesOf e2 ≤ reachBytes := by
  obtain ⟨a, c, ys, hcs, h1, hc2, h2, hok, hc⟩ := open_slice_anyW (α := Value × List α) (k := 1) (fun y => [y.1]) (fun y => SlAt en k w (fun b => b < w.heap.size) y.1 y.2 ∧ y.2.length ≤ maxLen ∧ y.2.length * P.bytesOf e2 ≤ reachBytes) (Light P e) ht hce (by omega)
    (fun n vs x hx hwx => by obtain ⟨v, xs, h3, h4, h5, h6⟩ := trod_slB en k he hl hk hkk h0 hen dec hx hwx; exact ⟨(v, xs), h3.symm, h4, h5, h6⟩) hf
    (fun es sp e => (light_slice ht (by rw [← e]; exact hw)).2)
  refine ⟨_, ys.map (·.1), ys.map (·.2), hcs, ⟨a, c, by simp, by simpa using h1, fun e => (h2 e).2, fun i y hi => ?_⟩, ⟨by simp, fun i v xs hv hx => ?_⟩, by simp; omega, fun xs hx => ?_, by simpa using sl_bytes ht hf hcs hw, fun xs hx => ?_⟩
  · rw [List.getElem?_map] at hi
    cases hy : ys[i]? with
    | none => rw [hy] at hi; cases hi
    | some z =>
      rw [hy] at hi; simp at hi; subst hi
      obtain ⟨R, o, e, hcell⟩ := hc i z hy
      refine ⟨R, o, e, ?_, fun j u hj => hcell j u hj⟩
      have := hcell 0 _ rfl
      exact Nat.lt_of_not_le fun hge => by simp [World.cell?, Array.getElem?_eq_none hge] at this
  · rw [List.getElem?_map] at hv hx
    cases hy : ys[i]? with
    | none => rw [hy] at hv; cases hv
    | some z =>
      rw [hy] at hv hx; simp at hv hx; subst hv; subst hx
      exact (hok z (List.mem_of_getElem? hy)).1
  · obtain ⟨z, hz, rfl⟩ := List.mem_map.1 hx
    exact (hok z hz).2.1
  · obtain ⟨z, hz, rfl⟩ := List.mem_map.1 hx
    exact (hok z hz).2.2
/-- How many bytes things that came in take. -/
structure WideB (c : Cfg) : Prop where
  p : c.programs.length * 24 ≤ 140737488351232
  q : ∀ x ∈ c.programs, x.length * 40 ≤ 140737488351232
  l : c.lps.length * 40 ≤ 140737488351232
  s : c.starts.length * 32 ≤ 140737488351232
set_option maxRecDepth 100000 in
theorem open_cfgB {v : Value} {d : DataW H} {p : List MemPlace} {r : Reach} {base2 : Nat} (h : DataW.Trod enc Tryd.prog w base spare held 26 v d p) (hv : Value.okWide Tryd.prog w r base2 26 v) (hw : Light Tryd.prog 26 d) :
    ∃ vs hs c, v = .agg vs.toArray ∧ (CfgA true vs hs c).at_ w (fun b => b < w.heap.size) ∧ Wide c ∧ WideB c := by
  obtain ⟨cs, rfl, _⟩ := okWide_struct Tryd.underlying26 hv
  obtain ⟨fuel, hf⟩ := h
  obtain ⟨xs, n, _, hd, hlen, hxl, hfs⟩ := DataW.trod_struct Tryd.underlying26 hf
  have z26 : Tryd.prog.cellsOf 26 = 6 := by kernel_rfl
  have zP : Tryd.prog.cellsOf 22 = 1 := by kernel_rfl
  have zL : Tryd.prog.cellsOf 23 = 1 := by kernel_rfl
  have zS : Tryd.prog.cellsOf 24 = 1 := by kernel_rfl
  have zI : Tryd.prog.cellsOf 3 = 1 := by kernel_rfl
  have b0 : Tryd.prog.bytesOf 71 = 24 := by kernel_rfl
  have b1 : Tryd.prog.bytesOf 70 = 40 := by kernel_rfl
  have b2 : Tryd.prog.bytesOf 73 = 40 := by kernel_rfl
  have b3 : Tryd.prog.bytesOf 96 = 32 := by kernel_rfl
  have e0 : (Value.agg cs).cells.toList = cs.toList := rfl
  rw [e0] at hfs hlen
  rw [z26] at hlen
  obtain ⟨c0, c1, c2, c3, c4, c5, hcs⟩ := list6 hlen
  obtain ⟨y0, y1, y2, y3, y4, y5, rfl⟩ := list6 (show xs.length = 6 from hxl)
  have hd2 : d = .agg [y0.1, y1.1, y2.1, y3.1, y4.1, y5.1] := (Prod.mk.inj hd).1
  have hw0 : ∀ n ∈ DataW.weightsEach Tryd.prog [22, 23, 24, 3, 3, 3] [y0.1, y1.1, y2.1, y3.1, y4.1, y5.1], n ≤ reachBytes := by
    rw [hd2] at hw
    unfold Light at hw
    simp only [DataW.weights, Tryd.underlying26] at hw
    exact hw
  have w0 : Light Tryd.prog 22 y0.1 := fun n hn => hw0 n (by simp [DataW.weightsEach, hn])
  have w1 : Light Tryd.prog 23 y1.1 := fun n hn => hw0 n (by simp [DataW.weightsEach, hn])
  have w2 : Light Tryd.prog 24 y2.1 := fun n hn => hw0 n (by simp [DataW.weightsEach, hn])
  have f0 : DataW.trod enc Tryd.prog w base spare held n 22 [c0] = some y0 := by
    have h : DataW.trod enc Tryd.prog w base spare held n 22 ((cs.toList.drop 0).take (Tryd.prog.cellsOf 22)) = some y0 := hfs 0 _ rfl
    rw [zP, hcs] at h
    exact h
  have f1 : DataW.trod enc Tryd.prog w base spare held n 23 [c1] = some y1 := by
    have h : DataW.trod enc Tryd.prog w base spare held n 23 ((cs.toList.drop 1).take (Tryd.prog.cellsOf 23)) = some y1 := hfs 1 _ rfl
    rw [zL, hcs] at h
    exact h
  have f2 : DataW.trod enc Tryd.prog w base spare held n 24 [c2] = some y2 := by
    have h : DataW.trod enc Tryd.prog w base spare held n 24 ((cs.toList.drop 2).take (Tryd.prog.cellsOf 24)) = some y2 := hfs 2 _ rfl
    rw [zS, hcs] at h
    exact h
  have f3 : DataW.trod enc Tryd.prog w base spare held n 3 [c3] = some y3 := by
    have h : DataW.trod enc Tryd.prog w base spare held n 3 ((cs.toList.drop 3).take (Tryd.prog.cellsOf 3)) = some y3 := hfs 3 _ rfl
    rw [zI, hcs] at h
    exact h
  have f4 : DataW.trod enc Tryd.prog w base spare held n 3 [c4] = some y4 := by
    have h : DataW.trod enc Tryd.prog w base spare held n 3 ((cs.toList.drop 4).take (Tryd.prog.cellsOf 3)) = some y4 := hfs 4 _ rfl
    rw [zI, hcs] at h
    exact h
  have f5 : DataW.trod enc Tryd.prog w base spare held n 3 [c5] = some y5 := by
    have h : DataW.trod enc Tryd.prog w base spare held n 3 ((cs.toList.drop 5).take (Tryd.prog.cellsOf 3)) = some y5 := hfs 5 _ rfl
    rw [zI, hcs] at h
    exact h
  obtain ⟨vP, hs, pss, g0, a0, b0', l0, m0, r0, q0⟩ := trod_slsB (ks := i5) Instr.cells 5 Tryd.underlying22 Tryd.underlying71 (by kernel_rfl) (by kernel_rfl) (by kernel_rfl) rfl (by decide) incells instr_dec f0 w0
  obtain ⟨vL, ls, g1, a1, l1, r1⟩ := trod_slB (ks := i5) Place.cells 5 Tryd.underlying23 (by kernel_rfl) (by kernel_rfl) rfl (by decide) plcells place_dec f1 w1
  obtain ⟨vS, ss, g2, a2, l2, r2⟩ := trod_slB (ks := i4) Start.cells 4 Tryd.underlying24 (by kernel_rfl) (by kernel_rfl) rfl (by decide) stcells start_dec f2 w2
  rw [b0] at r0
  rw [b1] at q0
  rw [b2] at r1
  rw [b3] at r2
  obtain ⟨n3, g3, _⟩ := DataW.trod_int Tryd.underlying3 f3
  obtain ⟨n4, g4, _⟩ := DataW.trod_int Tryd.underlying3 f4
  obtain ⟨n5, g5, _⟩ := DataW.trod_int Tryd.underlying3 f5
  cases g0; cases g1; cases g2; cases g3; cases g4; cases g5
  refine ⟨_, hs, ⟨pss, ls, ss, n3, n4, n5⟩, ?_, ⟨⟨⟨_, _, _, rfl, a0, a1, a2⟩, b0'⟩, fun _ h => h⟩, ⟨l0, m0, l1, l2⟩, ⟨r0, q0, r1, r2⟩⟩
  rw [← hcs]
theorem light_three {P : Program} {t1 t2 t3 : TypeId} {l : List TypeId} {d1 d2 d3 : DataW H} {gs : List (DataW H)} (h : (DataW.weightsEach P ([t1, t2, t3] ++ l) ([d1, d2, d3] ++ gs)).all (· ≤ reachBytes) = true) : Light P t1 d1 ∧ Light P t2 d2 ∧ Light P t3 d3 := by
  rw [List.all_eq_true] at h
  simp only [List.cons_append, List.nil_append, DataW.weightsEach, List.mem_append, decide_eq_true_eq] at h
  exact ⟨fun n hn => h n (.inl hn), fun n hn => h n (.inr (.inl hn)), fun n hn => h n (.inr (.inr (.inl hn)))⟩
end
end Go.Proofs.YtfiiaechippboaaDoor
/- A region that draws its order, beside things that its hard operations turn. Over any program. -/
namespace Go.Proofs.YtfiiaechippboaaDoor.Mem
open Go Go.RowKit Reg
section
variable {P : Program} {ops : Array Oper} {Q : Exit → Act → World → Prop} {G : Nat → Prop} {w0 : World} {L : List Asn}
theorem wp_region_wt {id : Nat} {soft : List Nat} {a : Act} {w : World} {T : List Asn} (S : St G w0 w (L ++ T)) (hm : P.follows .mixedOrders = true) (hB : softB ops soft = true)
    (h : Softs P ops Q G w0 L (fun A => W P ops Q G w0 L (ops.size - soft.length) T (after soft (Array.replicate ops.size false)) A) soft a) : (Code.region id ops true).wp P Q a w := by
  simp only [softB, Bool.and_eq_true] at hB
  have hc : Closed .any ops (Array.replicate ops.size false) := fun j oj _ hl => by
    rw [Array.getD_eq_getD_getElem?] at hl
    by_cases hj : j < ops.size
    · rw [Array.getElem?_replicate, if_pos hj] at hl; cases hl
    · rw [Array.getElem?_replicate, if_neg hj] at hl; cases hl
  have hle := Nat.le_of_ble_eq_true hB.2
  have := W_softs hB.1.1 soft (ops.size - soft.length) T _ a hc hB.1.2 h
  rw [show ops.size - soft.length + soft.length = ops.size by omega] at this
  exact wp_region_any hm (W_any _ T _ a _ this (S.ext (keep_drew w)))
end
end Go.Proofs.YtfiiaechippboaaDoor.Mem
/- Operations of one value in the midst of a region that draws its order. Over any program. -/
namespace Go.Proofs.YtfiiaechippboaaDoor.Mem
open Go Go.RowKit Reg
section
variable {P : Program} {ops : Array Oper} {Q : Exit → Act → World → Prop} {G : Nat → Prop} {w0 : World} {L : List Asn}
def closedB (ops : Array Oper) (listed : Array Bool) : Bool :=
  (List.range ops.size).all fun j => !listed.getD j false || ((ops[j]?).map (·.after.all fun e => !Region.binds .any e || listed.getD e.on false)).getD true
theorem closed_of {listed : Array Bool} (h : closedB ops listed = true) : Closed .any ops listed := fun j oj hj hl e he hb => by
  have h1 := List.all_eq_true.1 h j (List.mem_range.2 (Array.getElem?_eq_some_iff.1 hj).1)
  rw [hj] at h1
  simp only [hl, Option.map_some, Option.getD_some, Bool.not_true, Bool.false_or, Array.all_eq_true'] at h1
  have := h1 e he
  rw [hb] at this
  simpa using this
theorem W_mid {n f : Nat} {soft : List Nat} {T : List Asn} {listed : Array Bool} {a : Act} (hn : n = f + soft.length) (hB : (ordB ops && closedB ops listed && readyAll ops soft listed) = true)
    (h : Softs P ops Q G w0 L (fun A => W P ops Q G w0 L f T (after soft listed) A) soft a) : W P ops Q G w0 L n T listed a := by
  simp only [Bool.and_eq_true] at hB
  rw [hn]
  exact W_softs hB.1.1 soft f T listed a (closed_of hB.1.2) hB.2 h
end
end Go.Proofs.YtfiiaechippboaaDoor.Mem
/- Regions in a round of a range over a function (or in an iterator), walked as regions anywhere. Over any program. -/
namespace Go.Proofs.YtfiiaechippboaaDoor.Mem
open Go Go.RowKit Reg

/-- A fence that bars nothing, in a round or in none. -/
def Wide (F : Fence) : Prop := F = Fence.wide ∨ ∃ r, F = Fence.wide.inRound r
theorem Wide.fn {F : Fence} (h : Wide F) (f : FuncId) : F.fn f := by rcases h with rfl | ⟨r, rfl⟩ <;> exact trivial
theorem Wide.depth {F : Fence} (h : Wide F) : F.depth = none := by rcases h with rfl | ⟨r, rfl⟩ <;> rfl
theorem Wide.calls {F : Fence} {n : Nat} {P : Program} {f : FuncId} {args : Array Value} {w : World} {R : Ending → World → Prop} (hF : Wide F) (h : Calls P f args w R) : CallsIn F n P f args w R := by
  rcases hF with rfl | ⟨r, rfl⟩
  · exact callsIn_wide.2 h
  · exact CallsIn.inRound r (callsIn_wide.2 h)
theorem Wide.rows {F : Fence} {n : Nat} {P : Program} {row : String} {args : Array Value} {w : World} {R : Value → World → Prop} (hF : Wide F) (h : Rows P row args w R) : RowsIn F n P row args w R := by
  rcases hF with rfl | ⟨r, rfl⟩
  · intro c cs _
    obtain ⟨v, w', hR, hs⟩ := h c cs
    exact ⟨v, w', hR, stepsIn_wide.2 hs⟩
  · intro c cs _
    obtain ⟨v, w', hR, hs⟩ := h c cs
    exact ⟨v, w', hR, stepsIn_wide.2 hs⟩
/-- No other end than the plain one. -/
def Only (K : Act → World → Prop) : Exit → Act → World → Prop
  | .normal, a, w => K a w
  | _, _, _ => False
theorem only_lets {K : Act → World → Prop} : ¬ LetsOut (Only K) := fun ⟨_, _, h⟩ => h
def noDefer (o : Oper) : Bool := match o.op with | .defer _ => false | _ => true
section
variable {F : Fence} {n : Nat} {P : Program} {ops : Array Oper} {Q : Exit → Act → World → Prop} {md : Region.Mode} {K : Act → World → Prop}
theorem oper_in (hF : Wide F) {o : Oper} (hd : noDefer o = true) {a : Act} {w : World} {K' : Act → World → Prop} (h : o.wp P a w K' (Only K)) : o.wpIn F n P a w K' Q := by
  refine ⟨fun f _ => hF.fn f, ?_⟩
  have hs : o.semAt F.round a.eval = execOp a.eval o := Oper.semAt_eq _ _ _ (fun c e => by simp [noDefer, e] at hd)
  rw [hs]
  have hdp : ¬ (F.depth.isSome = true) := by rw [hF.depth]; simp
  unfold Oper.wp at h
  generalize (execOp a.eval o).run P w = r at *
  cases r with
  | ok x w' =>
    cases x <;> simp only [Oper.upon, Oper.uponIn] at h ⊢ <;>
      first
        | exact h
        | exact h.elim
        | exact ⟨fun e => (hdp e).elim, hF.calls (h.mono fun e w'' he => by cases e <;> first | exact he | exact he.elim | exact absurd he only_lets)⟩
        | exact ⟨fun e => (hdp e).elim, hF.rows h⟩
  | halt x w' => cases x <;> simp only [Oper.upon, Oper.uponIn] at h ⊢ <;> exact h.elim
theorem list_in (hF : Wide F) (hQ : ∀ a w, K a w → Q .normal a w) : ∀ (l : List Oper), l.all noDefer = true → ∀ (a : Act) (w : World), wpList P ops (Only K) l a w → wpListIn F n P ops Q l a w
  | [], _, a, w, h => hQ a w h
  | o :: rest, hd, a, w, h => by
    simp only [List.all_cons, Bool.and_eq_true] at hd
    unfold wpListIn
    unfold wpList at h
    split
    · rename_i hw
      rw [if_pos hw] at h
      rcases h with h | ⟨_, h⟩
      · exact Oper.wpIn_mono (fun a w => list_in hF hQ rest hd.2 a w) (oper_in hF hd.1 h)
      · exact absurd h only_lets
    · rename_i hw
      rw [if_neg hw] at h
      exact ⟨fun f _ => hF.fn f, list_in hF hQ rest hd.2 _ _ h⟩
/-- A region that keeps the text's order. -/
theorem wpi_list {id : Nat} {l : List Oper} {a : Act} {w : World} (hF : Wide F) (hd : l.all noDefer = true) (h : wpList P l.toArray (Only (Q .normal)) l a w) : (Code.region id l.toArray false).wpIn F n P Q a w :=
  wpIn_region_lit (list_in hF (fun _ _ h => h) l hd a w h)
end
end Go.Proofs.YtfiiaechippboaaDoor.Mem
/- A range over a function, in states: the iterator's contract, and the law for the statement. Over any program. -/
namespace Go.Proofs.YtfiiaechippboaaDoor.Mem
open Go Go.RowKit Reg

/-- A loop's record, and the block for the calls that its rounds put off. -/
def LoopA (l D : Nat) (r : Loop) : Asn where
  sh := false
  at_ := fun w F => w.heap[l]? = some (.loop r) ∧ w.heap[D]? = some (.deferred (some [])) ∧ l ≠ D ∧ ∀ b, F b ↔ b = l ∨ b = D
  loc := fun h hb => ⟨(hb _ ((h.2.2.2 _).2 (.inl rfl))).trans h.1, (hb _ ((h.2.2.2 _).2 (.inr rfl))).trans h.2.1, h.2.2⟩
  lt := fun h b hb => by
    rcases (h.2.2.2 b).1 hb with rfl | rfl
    · exact (Array.getElem?_eq_some_iff.1 h.1).1
    · exact (Array.getElem?_eq_some_iff.1 h.2.1).1
/-- The block alone. -/
def DefA (D : Nat) : Asn where
  sh := false
  at_ := fun w F => w.heap[D]? = some (.deferred (some [])) ∧ ∀ b, F b ↔ b = D
  loc := fun h hb => ⟨(hb _ ((h.2 _).2 rfl)).trans h.1, h.2⟩
  lt := fun h b hb => by obtain rfl := (h.2 b).1 hb; exact (Array.getElem?_eq_some_iff.1 h.1).1
section
variable {G : Nat → Prop} {w0 w w' : World} {L L' : List Asn} {A A' : Asn} {i : Nat}
/-- Some of the things, in another order. -/
theorem St.sub (S : St G w0 w L) (f : Nat → Nat) (hi : ∀ i j, i < L'.length → j < L'.length → f i = f j → i = j) (h : ∀ i A, L'[i]? = some A → L[f i]? = some A) : St G w0 w L' := by
  obtain ⟨Fs, hf, hd⟩ := S.ex
  refine ⟨S.keep, fun i => Fs (f i), fun i A hA => hf _ A (h i A hA), fun i j A B hij hA hB => ?_⟩
  have h1 := (List.getElem?_eq_some_iff.1 hA).1
  have h2 := (List.getElem?_eq_some_iff.1 hB).1
  rcases Nat.lt_or_gt_of_ne (fun e : f i = f j => by have := hi i j h1 h2 e; omega) with hlt | hlt
  · exact hd _ _ A B hlt (h i A hA) (h j B hB)
  · rcases hd _ _ B A hlt (h j B hB) (h i A hA) with ⟨e1, e2⟩ | e
    · exact .inl ⟨e2, e1⟩
    · exact .inr fun x hx hx' => e x hx' hx
theorem St.rot (S : St G w0 w (A :: L)) : St G w0 w (L ++ [A]) := by
  refine S.sub (fun i => if i < L.length then i + 1 else 0) (fun i j h1 h2 e => ?_) (fun i B h => ?_)
  · simp only [List.length_append, List.length_cons, List.length_nil] at h1 h2
    split at e <;> split at e <;> omega
  · have hl := (List.getElem?_eq_some_iff.1 h).1
    simp only [List.length_append, List.length_cons, List.length_nil] at hl
    split
    · rename_i hlt; rw [List.getElem?_append_left hlt] at h; simpa using h
    · obtain rfl : i = L.length := by omega
      rw [List.getElem?_append_right (Nat.le_refl _)] at h; simpa using h
theorem St.unrot (S : St G w0 w (L ++ [A])) : St G w0 w (A :: L) := by
  refine S.sub (fun i => if i = 0 then L.length else i - 1) (fun i j h1 h2 e => ?_) (fun i B h => ?_)
  · simp only [List.length_cons] at h1 h2
    split at e <;> split at e <;> omega
  · have hl := (List.getElem?_eq_some_iff.1 h).1
    simp only [List.length_cons] at hl
    split
    · subst i; simpa using h
    · obtain ⟨k, rfl⟩ : ∃ k, i = k + 1 := ⟨i - 1, by omega⟩
      simp only [Nat.add_sub_cancel, List.getElem?_cons_succ] at h ⊢
      rw [List.getElem?_append_left (by omega)]; exact h
theorem keep_putObj (w : World) (l : Nat) (o : Obj) : Keep (fun b => b = l) w (w.putObj l o) :=
  ⟨rfl, rfl, rfl, by simp, fun b _ hb => World.putObj_heap_other hb, Nat.le_refl _⟩
theorem St.loopSet {l D : Nat} {r : Loop} (S : St G w0 w (L ++ [LoopA l D r])) (r' : Loop) : St G w0 (w.putObj l (.loop r')) (L ++ [LoopA l D r']) := by
  have S1 := S.unrot
  have S2 : St G w0 (w.putObj l (.loop r')) ((LoopA l D r :: L).set 0 (LoopA l D r')) := S1.step (i := 0) rfl rfl fun F h => by
    have hl := (Array.getElem?_eq_some_iff.1 h.1).1
    exact ⟨F, (keep_putObj w l _).mono (fun x _ hn e => hn ((h.2.2.2 x).2 (.inl e))), ⟨World.putObj_heap_same hl, (World.putObj_heap_other (Ne.symm h.2.2.1)).trans h.2.1, h.2.2⟩, fun _ h => .inl h⟩
  exact St.rot S2
theorem St.loopGet {l D : Nat} {r : Loop} (S : St G w0 w (L ++ [LoopA l D r])) : w.heap[l]? = some (.loop r) := by
  obtain ⟨F, h⟩ := S.unrot.get (i := 0) rfl; exact h.1
theorem St.loopNew (S : St G w0 w L) (r : Loop) : St G w0 ((w.alloc (.deferred (some []))).alloc (.loop r)) (L ++ [LoopA (w.heap.size + 1) w.heap.size r]) := by
  refine St.rot (S.grow (F := fun b => b = w.heap.size + 1 ∨ b = w.heap.size) ((keep_alloc w _).trans (keep_alloc _ _) (fun _ _ h => ⟨h, h⟩)) ⟨?_, ?_, by omega, fun _ => Iff.rfl⟩ (fun b hb => by omega))
  · have := World.alloc_heap_new (w.alloc (.deferred (some []))) (.loop r); rwa [World.size_alloc] at this
  · exact (Below.heap_alloc _ _ _ (by simp)).trans (World.alloc_heap_new w _)
theorem St.loopEnd {l D : Nat} {r : Loop} (S : St G w0 w (L ++ [LoopA l D r])) : St G w0 w (DefA D :: L) :=
  S.unrot.weak (i := 0) rfl (fun _ => rfl) fun _ h => ⟨fun b => b = D, fun b hb => (h.2.2.2 b).2 (.inr hb), h.2.1, fun _ => Iff.rfl⟩
/-- The mark is come to. -/
theorem St.taken {D : Nat} (S : St G w0 w (DefA D :: L)) : w.heap[D]? = some (.deferred (some [])) ∧ St G w0 (w.putObj D (.deferred none)) L := by
  obtain ⟨F, h⟩ := S.get (i := 0) rfl
  refine ⟨h.1, ?_⟩
  have S2 : St G w0 (w.putObj D (.deferred none)) ((DefA D :: L).set 0 (pur True)) := S.step (i := 0) rfl rfl fun _ h =>
    ⟨fun _ => False, (keep_putObj w D _).mono (fun x _ hn e => hn ((h.2 x).2 e)), ⟨trivial, fun _ h => h⟩, fun _ h => h.elim⟩
  exact St.tail S2
end
/-- An iterator's contract: it goes through xs, and hands each one over as arguments, with new things of its own; T: what it reads, which is there in each round, and left as it was. -/
def IterC (P : Program) (gf : FuncId) (lb : Array Value) (T : List Asn) {α : Type} (xs : List α) (Made : α → Array Value → List Asn → Prop) : Prop :=
  ∀ (l : Nat) (G : Nat → Prop) (w0 W : World) (Φ Ψ : Nat → List Asn → Prop) (L : List Asn),
    (∀ (j : Nat) (x : α) (args : Array Value) (N L : List Asn) (W : World), xs[j]? = some x → Made x args N → Φ j L → St G w0 W (N ++ (T ++ L)) →
      YieldAt Fence.wide 0 P l args W fun e W' => ∃ L', St G w0 W' (T ++ L') ∧ ((e = .returned (.bool true) ∧ Φ (j + 1) L') ∨ (e = .returned (.bool false) ∧ Ψ (j + 1) L'))) →
    Φ 0 L → St G w0 W (T ++ L) →
    Calls P gf (#[.func (.yield l) #[] #[]] ++ lb) W fun e W' => (∃ v, e = .returned v) ∧ ∃ L', St G w0 W' (T ++ L') ∧ (Φ xs.length L' ∨ ∃ j, j ≤ xs.length ∧ Ψ j L')
/-- What is asked at the end of a round's body. -/
def roundQ (G : Nat → Prop) (w0 : World) (T : List Asn) (X : Asn) (Φ : List Asn → Prop) (Ψ : Code → List Asn → Prop) : Exit → Act → World → Prop
  | .normal, _, W => ∃ L, Φ L ∧ St G w0 W (T ++ (L ++ [X]))
  | .ret, _, W => ∃ L, Ψ .ret L ∧ St G w0 W (T ++ (L ++ [X]))
  | .exit id, _, W => ∃ L, Ψ (.exit id) L ∧ St G w0 W (T ++ (L ++ [X]))
  | .goto t, _, W => ∃ L, Ψ (.goto t) L ∧ St G w0 W (T ++ (L ++ [X]))
  | .panic _, _, _ => False
  | .outgrown, _, _ => False
section
variable {P : Program} {G : Nat → Prop} {w0 w : World} {L T : List Asn} {gf : FuncId} {lb : Array Value} {α : Type} {xs : List α} {Made : α → Array Value → List Asn → Prop}
  {g : Operand} {ps : Array Tmp} {assign body : Code} {Q : Exit → Act → World → Prop} {a : Act}
theorem wps_range (hI : IterC P gf lb T xs Made) (S : St G w0 w (T ++ L)) (hg : a.eval g = .func (.func gf) #[] lb) (eg : ∀ args w, (callFunc gf args).run P w = .ok (.enter gf args) w)
    (Φ : Nat → List Asn → Prop) (Ψ : Code → Nat → List Asn → Prop) (h0 : Φ 0 L) (hps : ∀ x args N, Made x args N → args.size = ps.size)
    (hround : ∀ (l D : Nat) (r : Loop) (j : Nat) (x : α) (args : Array Value) (N L : List Asn) (W : World), xs[j]? = some x → Made x args N → Φ j L → St G w0 W (N ++ (T ++ (L ++ [LoopA l D r]))) →
      assign.wpIn (Fence.wide.inRound l) 0 P (Exit.then (fun a₁ W₁ => ∃ M, St G w0 W₁ (M ++ [LoopA l D r]) ∧
        ∀ (r' : Loop) (W₂ : World), St G w0 W₂ (M ++ [LoopA l D r']) → body.wpIn (Fence.wide.inRound l) 0 P (roundQ G w0 T (LoopA l D r') (Φ (j + 1)) (fun c => Ψ c (j + 1))) a₁ W₂) (fun _ _ _ => False))
        { tmps := (ps.zip args).foldl (fun t (p, v) => t.setIfInBounds p v) a.tmps, defers := [] } W)
    (hdone : ∀ (D : Nat) (W : World) (L : List Asn), Φ xs.length L → St G w0 W (DefA D :: (T ++ L)) → Q .normal { a with defers := { target := .collected D, args := #[] } :: a.defers } W)
    (hstop : ∀ (D : Nat) (c : Code) (j : Nat) (W : World) (L : List Asn), j ≤ xs.length → Ψ c j L → St G w0 W (DefA D :: (T ++ L)) → c.wp P Q { a with defers := { target := .collected D, args := #[] } :: a.defers } W) :
    (Code.rangeFunc g ps assign body).wp P Q a w := by
  refine (wpIn_wide (n := 0)).1 (wpIn_rangeFunc fun fn _ => ?_)
  obtain ⟨rec, hrec⟩ : ∃ rec : LoopState → Option Code → Loop, rec = fun st pe => { state := st, pending := pe, fn, tmps := a.tmps, params := ps, assign, body, defers := w.heap.size } := ⟨_, rfl⟩
  have S1 := S.loopNew (rec .ready none)
  obtain ⟨l, D, hl, hD⟩ : ∃ l D, l = w.heap.size + 1 ∧ D = w.heap.size := ⟨_, _, rfl, rfl⟩
  obtain ⟨W1, hW1⟩ : ∃ W1, (w.alloc (.deferred (some []))).alloc (.loop (rec .ready none)) = W1 := ⟨_, rfl⟩
  rw [hW1, ← hl, ← hD] at S1
  refine ⟨l, [{ target := .collected D, args := #[] }], W1, { target := .fn (.func gf) lb, args := #[.func (.yield l) #[] #[]] }, W1, gf, #[.func (.yield l) #[] #[]] ++ lb, W1, ?_, ?_, fun _ _ => trivial, ?_, fun e => by simp [Fence.wide] at e, ?_⟩
  · rw [← hW1, hrec, hl, hD]; exact run_enterLoop_outer _ _ _ _ _
  · simp only [resolve, hg]; simp [go_sem]
  · simp [invoke, go_sem, eg]
  refine callsIn_wide.2 ((hI l G w0 W1 (fun j M => ∃ L, M = L ++ [LoopA l D (rec .ready none)] ∧ Φ j L) (fun j M => ∃ c L, M = L ++ [LoopA l D (rec .done (some c))] ∧ Ψ c j L) (L ++ [LoopA l D (rec .ready none)]) ?_ ⟨L, rfl, h0⟩ (by rw [← List.append_assoc]; exact S1)).mono ?_)
  · rintro j x args N _ W hx hm ⟨L, rfl, hp⟩ S
    have e1 : ∀ r, N ++ (T ++ (L ++ [LoopA l D r])) = (N ++ (T ++ L)) ++ [LoopA l D r] := fun r => by simp
    have hy := run_yield (P := P) (args := args) (St.loopGet (by rw [← e1]; exact S)) (by rw [hrec]; exact hps x args N hm)
    refine ⟨_, _, _, _, hy, roundIn_of_wpIn trivial ?_⟩
    rw [hrec]
    refine wpIn_mono (hround l D _ j x args N L W hx hm hp S) ?_
    rintro e a1 W2 hq
    cases e with
    | normal =>
      obtain ⟨M, S2, hb⟩ := hq
      refine ⟨_, run_beginRound S2.loopGet (by rw [hrec]), ?_⟩
      have S3 := S2.loopSet { rec .ready none with state := .busy }
      refine wpIn_mono (hb _ _ S3) ?_
      have e2 : ∀ (L : List Asn) r, T ++ (L ++ [LoopA l D r]) = (T ++ L) ++ [LoopA l D r] := fun L r => by simp
      have fin : ∀ (jump : Option Code) (L : List Asn) (W3 : World), St G w0 W3 (T ++ (L ++ [LoopA l D { rec .ready none with state := .busy }])) →
          (Instr.endRound l jump).run P W3 = .ok (.bool jump.isNone) (W3.putObj l (.loop (rec (if jump.isNone then .ready else .done) jump))) ∧ St G w0 (W3.putObj l (.loop (rec (if jump.isNone then .ready else .done) jump))) (T ++ (L ++ [LoopA l D (rec (if jump.isNone then .ready else .done) jump)])) := by
        intro jump L W3 S4
        rw [e2] at S4
        refine ⟨?_, by rw [e2]; exact S4.loopSet _⟩
        have := run_endRound (P := P) jump S4.loopGet
        rw [hrec] at this ⊢
        exact this
      rintro e a3 W3 hp3
      cases e with
      | normal =>
        obtain ⟨L3, hp3, S4⟩ := hp3
        obtain ⟨hr, S5⟩ := fin none L3 W3 S4
        exact ⟨_, _, hr, _, S5, .inl ⟨rfl, L3, by rw [hrec]; rfl, hp3⟩⟩
      | ret =>
        obtain ⟨L3, hp3, S4⟩ := hp3
        obtain ⟨hr, S5⟩ := fin (some .ret) L3 W3 S4
        exact ⟨_, _, hr, _, S5, .inr ⟨rfl, .ret, L3, by rw [hrec]; rfl, hp3⟩⟩
      | exit id =>
        obtain ⟨L3, hp3, S4⟩ := hp3
        obtain ⟨hr, S5⟩ := fin (some (.exit id)) L3 W3 S4
        exact ⟨_, _, hr, _, S5, .inr ⟨rfl, .exit id, L3, by rw [hrec]; rfl, hp3⟩⟩
      | goto t =>
        obtain ⟨L3, hp3, S4⟩ := hp3
        obtain ⟨hr, S5⟩ := fin (some (.goto t)) L3 W3 S4
        exact ⟨_, _, hr, _, S5, .inr ⟨rfl, .goto t, L3, by rw [hrec]; rfl, hp3⟩⟩
      | panic ch => exact hp3.elim
      | outgrown => exact hp3.elim
    | exit id => exact hq.elim
    | goto t => exact hq.elim
    | ret => exact hq.elim
    | panic ch => exact hq.elim
    | outgrown => exact hq.elim
  · rintro e W2 ⟨⟨v, rfl⟩, M, S2, ⟨L2, rfl, hp⟩ | ⟨j, hj, c, L2, rfl, hp⟩⟩
    · rw [← List.append_assoc] at S2
      exact ⟨none, _, by have := run_endLoop (P := P) S2.loopGet (by rw [hrec]; simp); rw [hrec] at this; exact this, hdone D _ L2 hp (S2.loopSet _).loopEnd⟩
    · rw [← List.append_assoc] at S2
      exact ⟨some c, _, by have := run_endLoop (P := P) S2.loopGet (by rw [hrec]; simp); rw [hrec] at this; exact this, (wpIn_wide (n := 0)).2 (hstop D c j _ L2 hj hp (S2.loopSet _).loopEnd)⟩
/-- A function whose body holds a range over a function. -/
theorem calls_marks {f : FuncId} {fn : Func} {c : Code} {args : Array Value} {w : World} {R : Ending → World → Prop} (hf : P.funcs[f]? = some fn) (hb : fn.body = some c)
    (h : c.wp P (bodyPostM Fence.wide 0 P fn R) { tmps := args ++ Array.replicate (fn.ntmps - args.size) undef, defers := [] } w) : Calls P f args w R :=
  callsIn_wide.1 (callsIn_of_wp_marks (n := 0) hf hb trivial ((wpIn_wide (n := 0)).2 h))
end
end Go.Proofs.YtfiiaechippboaaDoor.Mem
