import Derived.Test.YtfiiaechippboaaDoorP09
import Derived.Test.YtfiiaechippboaaDoorP07
import Derived.Test.YtfiiaechippboaaDoorP06
import Derived.Test.YtfiiaechippboaaDoorP11
/- The walk of slices.SortStableFunc. -/
namespace Go.Proofs.YtfiiaechippboaaDoor
open Go Go.RowKit Reg Mem

def St1Rel (F : Nat → Prop) (R c N : Nat) (xs : List TE) (w : World) (av bv : Value) (wr : World) : Prop :=
  ∃ (a : Nat) (d : List TE), av = .int .i64 a ∧ bv = .int .i64 ((a + 20 : Nat) : Int) ∧ a ≤ N ∧ Done 20 a d ∧ d.Perm (xs.take a) ∧ St F w wr [Own 54 tcells 7 (.slice (some ⟨R, 0, none⟩) N c) (d ++ xs.drop a)]
def St2Rel (F : Nat → Prop) (R c N : Nat) (xs : List TE) (w : World) (kv : Value) (wr : World) : Prop :=
  ∃ (k : Nat) (ys : List TE), kv = .int .i64 k ∧ 0 < k ∧ k ≤ 131072 ∧ Runs k 0 ys ∧ ys.Perm xs ∧ St F w wr [Own 54 tcells 7 (.slice (some ⟨R, 0, none⟩) N c) ys]
def St3Rel (F : Nat → Prop) (R c N k : Nat) (xs : List TE) (w : World) (av bv : Value) (wr : World) : Prop :=
  ∃ (a : Nat) (d r : List TE), av = .int .i64 a ∧ bv = .int .i64 ((a + 2 * k : Nat) : Int) ∧ a ≤ N ∧ Done (2 * k) a d ∧ Runs k a r ∧ (d ++ r).Perm xs ∧ St F w wr [Own 54 tcells 7 (.slice (some ⟨R, 0, none⟩) N c) (d ++ r)]
def StabPost (F : Nat → Prop) (R c N : Nat) (xs : List TE) (w : World) (e : Ending) (w' : World) : Prop :=
  e = .returned (.tuple #[]) ∧ ∃ ys : List TE, ys.Perm xs ∧ Srt ys ∧ St F w w' [Own 54 tcells 7 (.slice (some ⟨R, 0, none⟩) N c) ys]
set_option maxRecDepth 100000 in
set_option maxHeartbeats 8000000 in
theorem stable_calls (R c N : Nat) (l : List Event) (w : World) (F : Nat → Prop) (h : (Own 54 tcells 7 (.slice (some ⟨R, 0, none⟩) N c) (tag l)).at_ w F) (hN : N = l.length) (hn : N ≤ 65536) :
    Calls Tryd.prog 66 #[.slice (some ⟨R, 0, none⟩) N c, .int .i64 N, .func (.func 50) #[] #[]] w (StabPost F R c N (tag l) w) := by
  have S := St.one w h
  clear h
  have HI : Hid (∀ a n, a + n ≤ N → InT a (((tag l).drop a).take n)) := fun a n h => tag_in l a n (by omega)
  have HR := Lib.hid (tag_rise l)
  have HL : Hid ((tag l).length = N) := by rw [tag_len]; exact hN.symm
  clear hN
  generalize tag l = xs at *
  go_enter Tryd.func66, Tryd.ntmps66
  go_wp2_with first
    | ((with_reducible refine tot_done ?ht ?_); (case ht => kernel_rfl))
  go_loopw [7, 8] (fun a b wr => St1Rel F R c N xs w a b wr) (fun a _ _ => (N - intOf a).toNat)
  case atStart => exact ⟨0, [], rfl, rfl, Nat.zero_le _, Done.start _, by simp, S⟩
  case round =>
    clear S
    obtain ⟨a, d, rfl, rfl, haN, hd, hp, S⟩ := hrel
    have hdl := hd.len
    by_cases hlt : a + 20 ≤ N
    · have hlt2 : (a : Int) + 20 ≤ N := by omega
      have e1 : d ++ xs.drop a = d ++ (xs.drop a).take 20 ++ xs.drop (a + 20) := by
        rw [List.append_assoc, ← List.drop_drop, List.take_append_drop]
      have l1 : ((xs.drop a).take 20).length = 20 := by simp; have := HL.out; omega
      have hpw : ((xs.drop a).take 20).Pairwise (fun x y => x.2 < y.2) := (HR.out.sublist (List.drop_sublist _ _)).sublist (List.take_sublist _ _)
      have HE := Lib.hid e1
      rw [HE.out] at S
      have HI2 := Lib.hid (HI.out a 20 hlt)
      have hlen : N = (d ++ (xs.drop a).take 20 ++ xs.drop (a + 20)).length := by rw [← e1]; simp; have := HL.out; omega
      have Hdl := Lib.hid hdl
      have L1 := Lib.hid l1
      have Hpw := Lib.hid hpw
      have Hd := Lib.hid hd
      have Hp := Lib.hid hp
      have Hlen := Lib.hid hlen
      clear hdl l1 hpw hd hp hlen
      clear e1
      go_wp2_with first
        | (go_at_call 77; obtain ⟨Fz, hF, hBk⟩ := S.lend1 0 rfl rfl; refine Calls.mono (insert_calls R c N a (a + 20) d ((xs.drop a).take 20) (xs.drop (a + 20)) _ _ hF Hlen.out Hdl.out.symm (by have := L1.out; omega) hn Hpw.out) ?_; rintro e wz ⟨rfl, s, hs1, hs2, T⟩; replace S := hBk _ _ rfl T; clear hBk hF T; simp only [List.set_cons_zero] at S)
        | ((with_reducible refine tot_done ?ht ?_); (case ht => kernel_rfl))
      have hsl := hs1.length_eq
      go_roundw
      case rel => exact ⟨a + 20, d ++ s, by go_num, by go_num, by omega, Hd.out.step (by rw [hsl]; exact L1.out) hs2 (HI2.out.perm hs1), by rw [List.take_add]; exact Hp.out.append hs1, S⟩
      case measure => first | (simp [intOf]; done) | (simp [intOf]; omega)
    · have hlt2 : ¬ (a : Int) + 20 ≤ N := by omega
      have HE : Hid (d ++ xs.drop a = d ++ xs.drop a ++ []) := by simp [Hid]
      rw [HE.out] at S
      have hpw : (xs.drop a).Pairwise (fun x y => x.2 < y.2) := HR.out.sublist (List.drop_sublist _ _)
      have HI2 := Lib.hid (HI.out a (N - a) (by omega))
      have hlen : N = (d ++ xs.drop a ++ []).length := by simp; have := HL.out; omega
      have l1 : (xs.drop a).length = N - a := by simp; have := HL.out; omega
      have Hdl := Lib.hid hdl
      have L1 := Lib.hid l1
      have Hpw := Lib.hid hpw
      have Hd := Lib.hid hd
      have Hp := Lib.hid hp
      have Hlen := Lib.hid hlen
      clear hdl l1 hpw hd hp hlen
      go_wp2_with first
        | (go_at_call 77; obtain ⟨Fz, hF, hBk⟩ := S.lend1 0 rfl rfl; refine Calls.mono (insert_calls R c N a N d (xs.drop a) [] _ _ hF Hlen.out Hdl.out.symm (by have := L1.out; omega) hn Hpw.out) ?_; rintro e wz ⟨rfl, s, hs1, hs2, T⟩; replace S := hBk _ _ rfl T; clear hBk hF T; simp only [List.set_cons_zero] at S)
        | ((with_reducible refine tot_done ?ht ?_); (case ht => kernel_rfl))
      have hsl := hs1.length_eq
      have HP : Hid ((d ++ s ++ []).Perm xs) := by
        have := Hp.out.append hs1
        rw [List.take_append_drop] at this
        simpa [Hid] using this
      have HRun : Hid (Runs 20 0 (d ++ s ++ [])) := by
        have e : (xs.drop a).take (N - a) = xs.drop a := List.take_of_length_le (by have := L1.out; omega)
        have h1 := HI2.out
        rw [e] at h1
        rw [List.append_nil]
        exact Hd.out.go _ (.last (by rw [hsl]; have := L1.out; omega) hs2 (h1.perm hs1))
      clear hs1 hs2 hsl
      generalize d ++ s ++ [] = ys at *
      go_loopw [6] (fun kv wr => St2Rel F R c N xs w kv wr) (fun kv _ => (N - intOf kv).toNat)
      case atStart => exact ⟨20, ys, rfl, by omega, by omega, HRun.out, HP.out, S⟩
      case round =>
        clear S HP HRun
        obtain ⟨k, ys, rfl, hk0, hkM, hrun, hp2, S⟩ := hrel
        have hyl : ys.length = N := by rw [hp2.length_eq]; exact HL.out
        by_cases hkN : k < N
        · have hkN2 : (k : Int) < N := by omega
          have Hrun := Lib.hid hrun
          have Hp2 := Lib.hid hp2
          have Hyl := Lib.hid hyl
          clear hp2 hyl
          clear hrun
          go_wp2_with first
            | ((with_reducible refine tot_done ?ht ?_); (case ht => kernel_rfl))
          go_loopw [7, 8] (fun a b wr => St3Rel F R c N k xs w a b wr) (fun a _ _ => (N - intOf a).toNat)
          case atStart => exact ⟨0, [], ys, rfl, by go_num, Nat.zero_le _, Done.start _, Hrun.out, by simpa using Hp2.out, by simpa using S⟩
          case round =>
            clear S Hrun Hp2 Hyl
            obtain ⟨a, d, r, rfl, rfl, haN, hd, hrun, hp3, S⟩ := hrel
            have hdl := hd.len
            have hlen : d.length + r.length = N := by have := hp3.length_eq; rw [List.length_append] at this; rw [this]; exact HL.out
            by_cases hab : a + 2 * k ≤ N
            · have hab2 : (a : Int) + 2 * k ≤ N := by omega
              obtain ⟨l1, l2, r2, rfl, g1, g2, g3, g4, g5, g6, g7⟩ := runs_two hrun hk0 (by omega)
              obtain ⟨i1, i2⟩ := g5.two g6 g1
              have HE : Hid (d ++ (l1 ++ l2 ++ r2) = d ++ l1 ++ l2 ++ r2) := by simp [Hid]
              rw [HE.out] at S
              have hlen2 : N = (d ++ l1 ++ l2 ++ r2).length := by simp at hlen ⊢; omega
              have Hdl := Lib.hid hdl
              have Hlen := Lib.hid hlen
              have Hd := Lib.hid hd
              have Hrun := Lib.hid hrun
              have Hp3 := Lib.hid hp3
              have G1 := Lib.hid g1
              have G2 := Lib.hid g2
              have G3 := Lib.hid g3
              have G4 := Lib.hid g4
              have G5 := Lib.hid g5
              have G6 := Lib.hid g6
              have G7 := Lib.hid g7
              have I1 := Lib.hid i1
              have I2 := Lib.hid i2
              have Hlen2 := Lib.hid hlen2
              clear hdl hlen hd hrun hp3 g1 g2 g3 g4 g5 g6 g7 i1 i2 hlen2
              go_wp2_with first
                | (go_at_call 78; obtain ⟨Fz, hF, hBk⟩ := S.lend1 0 rfl rfl; refine Calls.mono (sym_calls R c N a (a + k) (a + 2 * k) d l1 l2 r2 _ _ hF Hlen2.out Hdl.out.symm (by have := G1.out; omega) (by have := G2.out; omega) (by have := G1.out; omega) (by have := G2.out; omega) G3.out G4.out I2.out hn) ?_; rintro e wz ⟨rfl, ys, ⟨s, hs1, hs2, rfl⟩, T⟩; replace S := hBk _ _ rfl T; clear hBk hF T; simp only [List.set_cons_zero] at S)
                | ((with_reducible refine tot_done ?ht ?_); (case ht => kernel_rfl))
              have hsl := hs1.length_eq
              go_roundw
              case rel => exact ⟨a + 2 * k, d ++ s, r2, by go_num, by go_num, by omega, Hd.out.step (by rw [hsl, List.length_append, G1.out, G2.out]; omega) hs2 (I1.out.perm hs1), G7.out, ((hs1.append_left d).append_right r2).trans (by have := Hp3.out; rwa [HE.out, List.append_assoc d] at this), S⟩
              case measure => first | (simp [intOf]; done) | (simp [intOf]; omega)
            · have hab2 : ¬ (a : Int) + 2 * k ≤ N := by omega
              by_cases hm : a + k < N
              · have hm2 : (a : Int) + k < N := by omega
                obtain ⟨l1, l2, rfl, g1, g3, g4, g5, g6⟩ := runs_one hrun (by omega) (by omega)
                obtain ⟨i1, i2⟩ := g5.two g6 g1
                have g2 : l2.length = N - (a + k) := by simp at hlen; omega
                have HE : Hid (d ++ (l1 ++ l2) = d ++ l1 ++ l2 ++ []) := by simp [Hid]
                rw [HE.out] at S
                have hlen2 : N = (d ++ l1 ++ l2 ++ []).length := by simp at hlen ⊢; omega
                have Hdl := Lib.hid hdl
                have Hlen := Lib.hid hlen
                have Hd := Lib.hid hd
                have Hrun := Lib.hid hrun
                have Hp3 := Lib.hid hp3
                have G1 := Lib.hid g1
                have G2 := Lib.hid g2
                have G3 := Lib.hid g3
                have G4 := Lib.hid g4
                have G5 := Lib.hid g5
                have G6 := Lib.hid g6
                have I1 := Lib.hid i1
                have I2 := Lib.hid i2
                have Hlen2 := Lib.hid hlen2
                clear hdl hlen hd hrun hp3 g1 g2 g3 g4 g5 g6 i1 i2 hlen2
                go_wp2_with first
                  | (go_at_call 78; obtain ⟨Fz, hF, hBk⟩ := S.lend1 0 rfl rfl; refine Calls.mono (sym_calls R c N a (a + k) N d l1 l2 [] _ _ hF Hlen2.out Hdl.out.symm (by have := G1.out; omega) (by have := G2.out; omega) (by have := G1.out; omega) (by have := G2.out; omega) G3.out G4.out I2.out hn) ?_; rintro e wz ⟨rfl, ys, ⟨s, hs1, hs2, rfl⟩, T⟩; replace S := hBk _ _ rfl T; clear hBk hF T; simp only [List.set_cons_zero] at S)
                  | ((with_reducible refine tot_done ?ht ?_); (case ht => kernel_rfl))
                have hsl := hs1.length_eq
                go_roundw
                case rel => exact ⟨2 * k, d ++ s ++ [], by go_num, by omega, by omega, by rw [List.append_nil]; exact Hd.out.go _ (.last (by rw [hsl, List.length_append, G1.out, G2.out]; omega) hs2 (I1.out.perm hs1)), by rw [List.append_nil]; exact (hs1.append_left d).trans Hp3.out, S⟩
                case measure => first | (simp [intOf]; done) | (simp [intOf]; omega)
              · have hm2 : ¬ (a : Int) + k < N := by omega
                obtain ⟨g1, g2⟩ := runs_srt hrun (by omega)
                have HRun : Hid (Runs (2 * k) 0 (d ++ r)) := hd.go _ (.last (by omega) g1 g2)
                have Hdl := Lib.hid hdl
                have Hlen := Lib.hid hlen
                have Hd := Lib.hid hd
                have Hrun := Lib.hid hrun
                have Hp3 := Lib.hid hp3
                have G1 := Lib.hid g1
                have G2 := Lib.hid g2
                clear hdl hlen hd hrun hp3 g1 g2
                go_wp2_with first
                  | ((with_reducible refine tot_done ?ht ?_); (case ht => kernel_rfl))
                go_roundw
                case rel => exact ⟨2 * k, d ++ r, by go_num, by omega, by omega, HRun.out, Hp3.out, S⟩
                case measure => first | (simp [intOf]; done) | (simp [intOf]; omega)
        · have hkN2 : ¬ (k : Int) < N := by omega
          have HS := Lib.hid (runs_srt hrun (by omega)).1
          have Hrun := Lib.hid hrun
          have Hp2 := Lib.hid hp2
          have Hyl := Lib.hid hyl
          clear hp2 hyl
          clear hrun
          go_wp2_with first
            | ((with_reducible refine tot_done ?ht ?_); (case ht => kernel_rfl))
          go_end0
          exact ⟨rfl, ys, Hp2.out, HS.out, S⟩
set_option maxRecDepth 100000 in
set_option maxHeartbeats 4000000 in
theorem stableF_calls (R c N : Nat) (l : List Event) (w : World) (F : Nat → Prop) (h : (Own 54 tcells 7 (.slice (some ⟨R, 0, none⟩) N c) (tag l)).at_ w F) (hN : N = l.length) (hn : N ≤ 65536) :
    Calls Tryd.prog 49 #[.slice (some ⟨R, 0, none⟩) N c, .func (.func 50) #[] #[]] w (StabPost F R c N (tag l) w) := by
  have S := St.one w h
  clear h
  have HN := Lib.hid hN
  clear hN
  go_enter Tryd.func49, Tryd.ntmps49
  go_wp2_with first
    | (go_at_call 66; obtain ⟨Fz, hF, hBk⟩ := S.lend1 0 rfl rfl; refine Calls.mono (stable_calls R c N l _ _ hF HN.out hn) ?_; rintro e wz ⟨rfl, ys, hy1, hy2, T⟩; replace S := hBk _ _ rfl T; clear hBk hF T; simp only [List.set_cons_zero] at S)
    | ((with_reducible refine tot_done ?ht ?_); (case ht => kernel_rfl))
  go_end0
  exact ⟨rfl, ys, hy1, hy2, S⟩
end Go.Proofs.YtfiiaechippboaaDoor
/- The walk of keys.Sort. -/
namespace Go.Proofs.YtfiiaechippboaaDoor
open Go Go.RowKit Reg Mem

theorem ecells : ∀ e : Event, e.cells.length = 7 := fun _ => rfl
theorem eone : ∀ e : Event, ∀ u ∈ e.cells, u.oneCell' = true := fun _ => by simp [Event.cells, Value.oneCell']
set_option maxRecDepth 100000 in
theorem elem_Ev : Elem Tryd.prog 29 54 7 56 := ⟨_, .agg #[.int .i64 0, .int .i64 0, .int .i64 0, .int .i64 0, .int .i64 0, .int .i64 0, .int .i64 0], Tryd.underlying29, rfl, by kernel_rfl, by kernel_rfl, by kernel_rfl, by kernel_rfl, by omega⟩
set_option maxRecDepth 100000 in
/-- slices.Clone. -/
theorem clone_Ev {ad : Option Addr} {n c : Nat} {xs : List _} (w : World) (F : Nat → Prop) (h : (Sl true Event.cells 7 (.slice ad n c) xs).at_ w F) (hn : xs.length ≤ 4294967296) :
    Calls Tryd.prog 48 #[.slice ad n c] w fun e w' => ∃ ad' c', e = .returned (.slice ad' xs.length c') ∧ (0 < xs.length → ∃ R, ad' = some ⟨R, 0, none⟩) ∧ St (fun _ => False) w w' [Own 54 Event.cells 7 (.slice ad' xs.length c') xs] := by
  have S : St (fun _ => False) w w [Sl true Event.cells 7 (.slice ad n c) xs] := (St.init _ w).share rfl rfl h
  have hq : ∀ (w : World) (a : Option Addr) (n c n' c' : Nat), (binOp .eql 29 (.slice a n c) (.slice none n' c')).run Tryd.prog w = .ok (.bool a.isNone) w := fun w a n c n' c' => Lib.run_eql_slice_nil w _ _ a n c n' c' Tryd.underlying29
  cases ad with
  | none =>
    have hx : xs = [] := by
      obtain ⟨a, c', e, h1, h2, _⟩ := h.1
      simp only [Value.slice.injEq] at e
      obtain ⟨rfl, rfl, rfl⟩ := e
      exact List.eq_nil_of_length_eq_zero (by have := h2 rfl; omega)
    subst hx
    go_enter Tryd.func48, Tryd.ntmps48
    go_wp2_with first
      | ((with_reducible refine tot_done ?ht ?_); (case ht => kernel_rfl))
    go_ret
    exact ⟨_, _, rfl, fun h => absurd h (by simp), ((S.nil 54 Event.cells 7).pick [0] rfl)⟩
  | some a0 =>
    go_enter Tryd.func48, Tryd.ntmps48
    go_wp2_with first
      | ((with_reducible apply wps_build0 (T := 29) (E := 54) Event.cells 7 S); (case hr => intro w; kernel_rfl); clear S; intro bz wz S)
      | ((with_reducible apply wps_appends elem_Ev ecells eone (by decide) S 0 (j := 1)); (case hx => rfl); (case hy => rfl); (case hi => rfl); (case hj => rfl); (case hl => first | omega | (simp; omega)); clear S; intro az nz cz wz hnz S; simp only [List.set_cons_zero] at S)
      | ((with_reducible refine tot_done ?ht ?_); (case ht => kernel_rfl))
    go_ret
    obtain rfl : nz = xs.length := by have := hnz.out; simp at this; omega
    simp only [List.nil_append] at S
    refine ⟨_, _, rfl, fun h0 => ?_, S.pick [0] rfl⟩
    obtain ⟨F, hF⟩ := S.get (i := 0) rfl
    rcases hF.1.2 with ⟨_, e⟩ | ⟨g, cap, cur, e, _⟩
    · omega
    · simp only [Value.slice.injEq] at e; exact ⟨g, e.1⟩
set_option maxRecDepth 100000 in
set_option maxHeartbeats 4000000 in
theorem insert0_calls (ad : Option Addr) (c : Nat) (cv : Value) (w : World) : Calls Tryd.prog 77 #[.slice ad 0 c, .int .i64 0, .int .i64 0, cv] w fun e w' => e = .returned (.tuple #[]) ∧ Below w.heap.size w w' := by
  have S := St.init (fun _ => False) w
  go_enter Tryd.func77, Tryd.ntmps77
  go_wp2_with first
    | go_skip
    | ((with_reducible refine wpList_skip ?hw ?_); (case hw => with_unfolding_all rfl); simp only [Act.put, List.setIfInBounds_toArray, List.set_cons_succ, List.set_cons_zero])
    | ((with_reducible refine tot_done ?ht ?_); (case ht => kernel_rfl))
    | ((with_reducible apply wps_text S); (case hm => kernel_rfl); (case hB => decide +kernel); clear S; intro wz S)
    | ((with_reducible apply wps_loada (T := 54) (k := 7) S 0); (case hx => rfl); (case hi => rfl); (case hT => decide +kernel); (case hk => exact Nat.le_of_ble_eq_true rfl))
    | ((with_reducible apply wps_loada (T := 54) (k := 7) S 1); (case hx => rfl); (case hi => rfl); (case hT => decide +kernel); (case hk => exact Nat.le_of_ble_eq_true rfl))
    | ((with_reducible apply wps_loada (T := 54) (k := 7) S 2); (case hx => rfl); (case hi => rfl); (case hT => decide +kernel); (case hk => exact Nat.le_of_ble_eq_true rfl))
    | ((with_reducible apply wps_loada (T := 54) (k := 7) S 3); (case hx => rfl); (case hi => rfl); (case hT => decide +kernel); (case hk => exact Nat.le_of_ble_eq_true rfl))
  go_loopw [8, 9] (fun i _ wr => i = .int .i64 1 ∧ St (fun _ => False) w wr []) (fun _ _ _ => 0)
  case atStart => exact ⟨rfl, S⟩
  case round =>
    clear S
    obtain ⟨rfl, S⟩ := hrel
    go_wp2_with first
      | go_skip
      | ((with_reducible refine wpList_skip ?hw ?_); (case hw => with_unfolding_all rfl); simp only [Act.put, List.setIfInBounds_toArray, List.set_cons_succ, List.set_cons_zero])
      | ((with_reducible refine tot_done ?ht ?_); (case ht => kernel_rfl))
      | ((with_reducible apply wps_text S); (case hm => kernel_rfl); (case hB => decide +kernel); clear S; intro wz S)
      | ((with_reducible apply wps_loada (T := 54) (k := 7) S 0); (case hx => rfl); (case hi => rfl); (case hT => decide +kernel); (case hk => exact Nat.le_of_ble_eq_true rfl))
      | ((with_reducible apply wps_loada (T := 54) (k := 7) S 1); (case hx => rfl); (case hi => rfl); (case hT => decide +kernel); (case hk => exact Nat.le_of_ble_eq_true rfl))
      | ((with_reducible apply wps_loada (T := 54) (k := 7) S 2); (case hx => rfl); (case hi => rfl); (case hT => decide +kernel); (case hk => exact Nat.le_of_ble_eq_true rfl))
      | ((with_reducible apply wps_loada (T := 54) (k := 7) S 3); (case hx => rfl); (case hi => rfl); (case hT => decide +kernel); (case hk => exact Nat.le_of_ble_eq_true rfl))
    go_end0
    exact ⟨rfl, S.below⟩
set_option maxRecDepth 100000 in
set_option maxHeartbeats 4000000 in
theorem stable0_calls (ad : Option Addr) (c : Nat) (cv : Value) (w : World) : Calls Tryd.prog 66 #[.slice ad 0 c, .int .i64 0, cv] w fun e w' => e = .returned (.tuple #[]) ∧ Below w.heap.size w w' := by
  have S := St.init (fun _ => False) w
  go_enter Tryd.func66, Tryd.ntmps66
  go_wp2_with first
    | ((with_reducible refine tot_done ?ht ?_); (case ht => kernel_rfl))
  go_loopw [7, 8] (fun a b wr => a = .int .i64 0 ∧ b = .int .i64 20 ∧ St (fun _ => False) w wr []) (fun _ _ _ => 0)
  case atStart => exact ⟨rfl, rfl, S⟩
  case round =>
    clear S
    obtain ⟨rfl, rfl, S⟩ := hrel
    go_wp2_with first
      | (go_at_call 77; refine Calls.mono (insert0_calls _ _ _ _) ?_; rintro e wz ⟨rfl, hE⟩; replace S := S.ext (Keep.of_below hE); clear hE)
      | ((with_reducible refine tot_done ?ht ?_); (case ht => kernel_rfl))
    go_loopw [6] (fun k wr => k = .int .i64 20 ∧ St (fun _ => False) w wr []) (fun _ _ => 0)
    case atStart => exact ⟨rfl, S⟩
    case round =>
      clear S
      obtain ⟨rfl, S⟩ := hrel
      go_wp2_with first
        | ((with_reducible refine tot_done ?ht ?_); (case ht => kernel_rfl))
      go_end0
      exact ⟨rfl, S.below⟩
set_option maxRecDepth 100000 in
set_option maxHeartbeats 4000000 in
theorem stableF0_calls (ad : Option Addr) (c : Nat) (cv : Value) (w : World) : Calls Tryd.prog 49 #[.slice ad 0 c, cv] w fun e w' => e = .returned (.tuple #[]) ∧ Below w.heap.size w w' := by
  have S := St.init (fun _ => False) w
  go_enter Tryd.func49, Tryd.ntmps49
  go_wp2_with first
    | (go_at_call 66; refine Calls.mono (stable0_calls _ _ _ _) ?_; rintro e wz ⟨rfl, hE⟩; replace S := S.ext (Keep.of_below hE); clear hE)
    | ((with_reducible refine tot_done ?ht ?_); (case ht => kernel_rfl))
  go_end0
  exact ⟨rfl, S.below⟩
theorem tag_flat (l : List Event) : flatE Event.cells l = flatE tcells (tag l) := by
  have e : tcells = fun x : TE => Event.cells x.1 := rfl
  conv => lhs; rw [← tag_map l]
  simp [flatE, e, List.flatMap_map]
theorem flat_tag (ys : List TE) : flatE tcells ys = flatE Event.cells (ys.map (·.1)) := by
  have e : tcells = fun x : TE => Event.cells x.1 := rfl
  simp [flatE, e, List.flatMap_map]
/-- What sorting leaves: a new list, in order. -/
def SortPost (l : List Event) (w : World) (e : Ending) (w' : World) : Prop :=
  ∃ ad c, e = .returned (.slice ad l.length c) ∧ St (fun _ => False) w w' [Own 54 Event.cells 7 (.slice ad l.length c) (sortE l)]
set_option maxRecDepth 100000 in
set_option maxHeartbeats 4000000 in
theorem sort_calls (v : Value) (l : List Event) (w : World) (F : Nat → Prop) (h : (Sl true Event.cells 7 v l).at_ w F) (hn : l.length ≤ 65536) : Calls Tryd.prog 31 #[v] w (SortPost l w) := by
  have S : St (fun _ => False) w w [Sl true Event.cells 7 v l] := (St.init _ w).share rfl rfl h
  obtain ⟨ad, cp, rfl, _⟩ := (S.sl 0 rfl).elim fun _ h => h.form
  clear h
  go_enter Tryd.func31, Tryd.ntmps31
  go_wp2_with first
    | ((with_reducible refine tot_done ?ht ?_); (case ht => kernel_rfl))
  refine Calls.mono (clone_Ev _ _ (S.get (i := 0) rfl).choose_spec (by omega)) ?_
  rintro e wz ⟨ad2, c2, rfl, hhd, T⟩
  replace S := S.join T rfl
  simp only [List.cons_append, List.nil_append] at S
  clear T
  by_cases h0 : l.length = 0
  · obtain rfl : l = [] := List.eq_nil_of_length_eq_zero h0
    clear hhd
    simp only [List.length_nil] at *
    go_wp2_with first
      | (go_at_call 49; refine Calls.mono (stableF0_calls _ _ _ _) ?_; rintro e wz ⟨rfl, hE⟩; replace S := S.ext (Keep.of_below hE); clear hE)
      | ((with_reducible refine tot_done ?ht ?_); (case ht => kernel_rfl))
    go_ret
    exact ⟨_, _, rfl, S.pick [0] rfl⟩
  · obtain ⟨R, rfl⟩ := hhd (by omega)
    clear hhd
    have S2 := S.conv 0 rfl (tag l) (tag_len l).symm (tag_flat l)
    clear S
    have S := S2
    clear S2
    simp only [List.set_cons_zero] at S
    go_wp2_with first
      | (go_at_call 49; obtain ⟨Fz, hF, hBk⟩ := S.lend1 0 rfl rfl; refine Calls.mono (stableF_calls R c2 l.length l _ _ hF rfl hn) ?_; rintro e wz ⟨rfl, ys, hy1, hy2, T⟩; replace S := hBk _ _ rfl T; clear hBk hF T; simp only [List.set_cons_zero] at S)
      | ((with_reducible refine tot_done ?ht ?_); (case ht => kernel_rfl))
    go_ret
    have e1 : l.length = ys.length := by rw [hy1.length_eq, tag_len]
    have S2 := S.conv 0 rfl (ys.map (·.1)) (by simp) (flat_tag ys)
    rw [sortE_of hy1 hy2] at S2
    simp only [List.set_cons_zero] at S2
    exact ⟨_, _, rfl, S2.pick [0] rfl⟩
end Go.Proofs.YtfiiaechippboaaDoor
/- Opening a case that came in: a process, a state, events. -/
namespace Go.Proofs.YtfiiaechippboaaDoor
open Go Go.ChangeShapes Go.WideShapes Go.ChangeAt Go.RowKit Mem

theorem list3 {α : Type} : ∀ {l : List α}, l.length = 3 → ∃ a b c, l = [a, b, c]
  | [a, b, c], _ => ⟨a, b, c, rfl⟩
section
variable {H : Type} {enc : TypeId × Value → H} {w : World} {base : Nat} {spare : Nat → Bool} {held : Bool}
/-- A number of the kind. -/
def I64 (n : Int) : Prop := -9223372036854775808 ≤ n ∧ n ≤ 9223372036854775807
structure WideS (s : State) : Prop where
  n0 : I64 s.n0
  n1 : I64 s.n1
  n2 : I64 s.n2
  n3 : I64 s.n3
set_option maxRecDepth 100000 in
theorem open_case {v : Value} {d : DataW H} {p : List MemPlace} {r : Reach} {base2 : Nat} (h : DataW.Trod enc Tryd.prog w base spare held 31 v d p) (hv : Value.okWide Tryd.prog w r base2 31 v) :
    ∃ (lp : Int) (s : State) (vL : Value) (l : List Event), v = .agg #[.int .i64 lp, .int .i64 s.n0, .int .i64 s.n1, .int .i64 s.n2, .int .i64 s.n3, vL] ∧ (Sl true Event.cells 7 vL l).at_ w (fun b => b < w.heap.size) ∧ l.length ≤ maxLen := by
  obtain ⟨cs, rfl, _⟩ := okWide_struct Tryd.underlying31 hv
  obtain ⟨fuel, hf⟩ := h
  obtain ⟨xs, n, _, _, hlen, hxl, hfs⟩ := DataW.trod_struct Tryd.underlying31 hf
  have zC : Tryd.prog.cellsOf 31 = 6 := by kernel_rfl
  have zS : Tryd.prog.cellsOf 28 = 4 := by kernel_rfl
  have zL : Tryd.prog.cellsOf 29 = 1 := by kernel_rfl
  have zI : Tryd.prog.cellsOf 3 = 1 := by kernel_rfl
  have e0 : (Value.agg cs).cells.toList = cs.toList := rfl
  rw [e0] at hfs hlen
  rw [zC] at hlen
  obtain ⟨c0, c1, c2, c3, c4, c5, hcs⟩ := list6 hlen
  obtain ⟨y0, y1, y2, rfl⟩ := list3 (show xs.length = 3 from hxl)
  have f0 : DataW.trod enc Tryd.prog w base spare held n 3 [c0] = some y0 := by
    have h : DataW.trod enc Tryd.prog w base spare held n 3 ((cs.toList.drop 0).take (Tryd.prog.cellsOf 3)) = some y0 := hfs 0 _ rfl
    rw [zI, hcs] at h
    exact h
  have f1 : DataW.trod enc Tryd.prog w base spare held n 28 [c1, c2, c3, c4] = some y1 := by
    have h : DataW.trod enc Tryd.prog w base spare held n 28 ((cs.toList.drop 1).take (Tryd.prog.cellsOf 28)) = some y1 := hfs 1 _ rfl
    rw [zS, hcs] at h
    exact h
  have f2 : DataW.trod enc Tryd.prog w base spare held n 29 [c5] = some y2 := by
    have h : DataW.trod enc Tryd.prog w base spare held n 29 ((cs.toList.drop 5).take (Tryd.prog.cellsOf 29)) = some y2 := hfs 2 _ rfl
    rw [zL, hcs] at h
    exact h
  obtain ⟨lp, g0, _⟩ := DataW.trod_int Tryd.underlying3 f0
  obtain ⟨h1, _⟩ := trod_flat 100 28 i4 (by kernel_rfl) (by kernel_rfl) n _ _ f1
  obtain ⟨a, b, c, d, g1⟩ := dec4 h1
  obtain ⟨vL, l, g2, a2, l2⟩ := trod_sl (ks := i7) Event.cells 7 Tryd.underlying29 (by kernel_rfl) (by kernel_rfl) rfl (by decide) ecells event_dec f2
  cases g0; cases g1; cases g2
  refine ⟨lp, ⟨a, b, c, d⟩, c5, l, ?_, ⟨a2, fun _ h => h⟩, l2⟩
  congr 1
  rw [← Array.toList_inj, hcs]
end
end Go.Proofs.YtfiiaechippboaaDoor
/- Opening a configuration that came in, with the bytes that it takes. -/
namespace Go.Proofs.YtfiiaechippboaaDoor
open Go Go.ChangeShapes Go.WideShapes Go.ChangeAt Go.RowKit Mem Go.Deep

section
variable {H : Type} {enc : TypeId × Value → H} {w : World} {base : Nat} {spare : Nat → Bool} {held : Bool}
def Light (P : Program) (t : TypeId) (d : DataW H) : Prop := ∀ n ∈ d.weights P t, n ≤ reachBytes
theorem light_all {P : Program} {e : TypeId} : ∀ {l : List (DataW H)}, (∀ n ∈ DataW.weightsAll P e l, n ≤ reachBytes) → ∀ d ∈ l, Light P e d
  | [], _, d, hd => by cases hd
  | x :: l, h, d, hd => by
    simp only [DataW.weightsAll, List.mem_append] at h
    rcases List.mem_cons.1 hd with rfl | hd
    · exact fun n hn => h n (.inl hn)
    · exact light_all (fun n hn => h n (.inr hn)) d hd
theorem light_slice {P : Program} {t e : TypeId} (ht : P.underlying t = some (.slice e)) {es sp : List (DataW H)} (h : Light P t (.slice es sp)) : (es.length + sp.length) * P.bytesOf e ≤ reachBytes ∧ ∀ d ∈ es, Light P e d := by
  unfold Light at h
  simp only [DataW.weights, ht, List.mem_cons, List.mem_append] at h
  exact ⟨h _ (.inl rfl), light_all fun n hn => h n (.inr (.inl hn))⟩
theorem sl_bytes {P : Program} {t e : TypeId} (ht : P.underlying t = some (.slice e)) {fuel : Nat} {cs : List Value} {x : DataW H × List MemPlace} (hf : DataW.trod enc P w base spare held fuel t cs = some x) {a : Option Addr} {len c : Nat} (hcs : cs = [.slice a len c]) (hw : Light P t x.1) :
    len * P.bytesOf e ≤ reachBytes := by
  rcases open_slice ht hf with ⟨rfl, _⟩ | ⟨a', len', cap, m, n, D, Pl, rfl, _, _, _, _, rfl, _⟩
  · simp only [List.cons.injEq, Value.slice.injEq] at hcs
    obtain ⟨⟨_, rfl, _⟩, _⟩ := hcs
    simp
  · simp only [List.cons.injEq, Value.slice.injEq] at hcs
    obtain ⟨⟨_, rfl, _⟩, _⟩ := hcs
    have := (light_slice ht hw).1
    simp only [List.length_map, List.length_range] at this
    exact Nat.le_trans (Nat.mul_le_mul_right _ (by omega)) this
theorem trod_slB {P : Program} {t e : TypeId} {ks : List TypeDesc} {α : Type} (en : α → List Value) (k : Nat) (ht : P.underlying t = some (.slice e)) (hl : lay P 100 e = some ks) (hk : P.cellsOf e = ks.length) (hkk : ks.length = k) (h0 : 0 < k) (hen : ∀ x, (en x).length = k)
    (dec : ∀ vs, fits ks vs = true → (∀ v ∈ vs, wfv v = true) → ∃ x : α, en x = vs ∧ True) {fuel : Nat} {cs : List Value} {x : DataW H × List MemPlace} (hf : DataW.trod enc P w base spare held fuel t cs = some x) (hw : Light P t x.1) :
    ∃ v, ∃ xs : List α, cs = [v] ∧ SlAt en k w (fun b => b < w.heap.size) v xs ∧ xs.length ≤ maxLen ∧ xs.length * P.bytesOf e ≤ reachBytes := by
  obtain ⟨v, xs, h1, h2, h3⟩ := trod_sl en k ht hl hk hkk h0 hen dec hf
  obtain ⟨a, c, rfl, _⟩ := h2.form
  exact ⟨_, xs, h1, h2, h3, sl_bytes ht hf h1 hw⟩
theorem trod_slsB {P : Program} {t e e2 : TypeId} {ks : List TypeDesc} {α : Type} (en : α → List Value) (k : Nat) (ht : P.underlying t = some (.slice e)) (he : P.underlying e = some (.slice e2)) (hce : P.cellsOf e = 1) (hl : lay P 100 e2 = some ks) (hk : P.cellsOf e2 = ks.length) (hkk : ks.length = k) (h0 : 0 < k) (hen : ∀ x, (en x).length = k)
    (dec : ∀ vs, fits ks vs = true → (∀ v ∈ vs, wfv v = true) → ∃ x : α, en x = vs ∧ True) {fuel : Nat} {cs : List Value} {x : DataW H × List MemPlace} (hf : DataW.trod enc P w base spare held fuel t cs = some x) (hw : Light P t x.1) :
    ∃ v, ∃ hs : List Value, ∃ xss : List (List α), cs = [v] ∧ SlAt vcell 1 w (fun b => b < w.heap.size) v hs ∧ SlsAt en k w (fun b => b < w.heap.size) hs xss ∧ xss.length ≤ maxLen ∧ (∀ xs ∈ xss, xs.length ≤ maxLen) ∧ xss.length * P.bytesOf e ≤ reachBytes ∧ ∀ xs ∈ xss, xs.length * P.bytesOf e2 ≤ reachBytes := by
  obtain ⟨a, c, ys, hcs, h1, hc2, h2, hok, hc⟩ := open_slice_anyW (α := Value × List α) (k := 1) (fun y => [y.1]) (fun y => SlAt en k w (fun b => b < w.heap.size) y.1 y.2 ∧ y.2.length ≤ maxLen ∧ y.2.length * P.bytesOf e2 ≤ reachBytes) (Light P e) ht hce (by omega)
    (fun n vs x hx hwx => by obtain ⟨v, xs, h3, h4, h5, h6⟩ := trod_slB en k he hl hk hkk h0 hen dec hx hwx; exact ⟨(v, xs), h3.symm, h4, h5, h6⟩) hf
    (fun es sp e => (light_slice ht (by rw [← e]; exact hw)).2)
  refine ⟨_, ys.map (·.1), ys.map (·.2), hcs, ⟨a, c, by simp, by simpa using h1, fun e => (h2 e).2, fun i y hi => ?_⟩, ⟨by simp, fun i v xs hv hx => ?_⟩, by simp; omega, fun xs hx => ?_, by simpa using sl_bytes ht hf hcs hw, fun xs hx => ?_⟩
  · rw [List.getElem?_map] at hi
    cases hy : ys[i]? with
    | none => rw [hy] at hi; cases hi
    | some z =>
      rw [hy] at hi; simp at hi; subst hi
      obtain ⟨R, o, e, hcell⟩ := hc i z hy
      refine ⟨R, o, e, ?_, fun j u hj => hcell j u hj⟩
      have := hcell 0 _ rfl
      exact Nat.lt_of_not_le fun hge => by simp [World.cell?, Array.getElem?_eq_none hge] at this
  · rw [List.getElem?_map] at hv hx
    cases hy : ys[i]? with
    | none => rw [hy] at hv; cases hv
    | some z =>
      rw [hy] at hv hx; simp at hv hx; subst hv; subst hx
      exact (hok z (List.mem_of_getElem? hy)).1
  · obtain ⟨z, hz, rfl⟩ := List.mem_map.1 hx
    exact (hok z hz).2.1
  · obtain ⟨z, hz, rfl⟩ := List.mem_map.1 hx
    exact (hok z hz).2.2
/-- How many bytes things that came in take. -/
structure WideB (c : Cfg) : Prop where
  p : c.programs.length * 24 ≤ 140737488351232
  q : ∀ x ∈ c.programs, x.length * 40 ≤ 140737488351232
  l : c.lps.length * 40 ≤ 140737488351232
  s : c.starts.length * 32 ≤ 140737488351232
set_option maxRecDepth 100000 in
theorem open_cfgB {v : Value} {d : DataW H} {p : List MemPlace} {r : Reach} {base2 : Nat} (h : DataW.Trod enc Tryd.prog w base spare held 26 v d p) (hv : Value.okWide Tryd.prog w r base2 26 v) (hw : Light Tryd.prog 26 d) :
    ∃ vs hs c, v = .agg vs.toArray ∧ (CfgA true vs hs c).at_ w (fun b => b < w.heap.size) ∧ Wide c ∧ WideB c := by
  obtain ⟨cs, rfl, _⟩ := okWide_struct Tryd.underlying26 hv
  obtain ⟨fuel, hf⟩ := h
  obtain ⟨xs, n, _, hd, hlen, hxl, hfs⟩ := DataW.trod_struct Tryd.underlying26 hf
  have z26 : Tryd.prog.cellsOf 26 = 6 := by kernel_rfl
  have zP : Tryd.prog.cellsOf 22 = 1 := by kernel_rfl
  have zL : Tryd.prog.cellsOf 23 = 1 := by kernel_rfl
  have zS : Tryd.prog.cellsOf 24 = 1 := by kernel_rfl
  have zI : Tryd.prog.cellsOf 3 = 1 := by kernel_rfl
  have b0 : Tryd.prog.bytesOf 71 = 24 := by kernel_rfl
  have b1 : Tryd.prog.bytesOf 70 = 40 := by kernel_rfl
  have b2 : Tryd.prog.bytesOf 73 = 40 := by kernel_rfl
  have b3 : Tryd.prog.bytesOf 96 = 32 := by kernel_rfl
  have e0 : (Value.agg cs).cells.toList = cs.toList := rfl
  rw [e0] at hfs hlen
  rw [z26] at hlen
  obtain ⟨c0, c1, c2, c3, c4, c5, hcs⟩ := list6 hlen
  obtain ⟨y0, y1, y2, y3, y4, y5, rfl⟩ := list6 (show xs.length = 6 from hxl)
  have hd2 : d = .agg [y0.1, y1.1, y2.1, y3.1, y4.1, y5.1] := (Prod.mk.inj hd).1
  have hw0 : ∀ n ∈ DataW.weightsEach Tryd.prog [22, 23, 24, 3, 3, 3] [y0.1, y1.1, y2.1, y3.1, y4.1, y5.1], n ≤ reachBytes := by
    rw [hd2] at hw
    unfold Light at hw
    simp only [DataW.weights, Tryd.underlying26] at hw
    exact hw
  have w0 : Light Tryd.prog 22 y0.1 := fun n hn => hw0 n (by simp [DataW.weightsEach, hn])
  have w1 : Light Tryd.prog 23 y1.1 := fun n hn => hw0 n (by simp [DataW.weightsEach, hn])
  have w2 : Light Tryd.prog 24 y2.1 := fun n hn => hw0 n (by simp [DataW.weightsEach, hn])
  have f0 : DataW.trod enc Tryd.prog w base spare held n 22 [c0] = some y0 := by
    have h : DataW.trod enc Tryd.prog w base spare held n 22 ((cs.toList.drop 0).take (Tryd.prog.cellsOf 22)) = some y0 := hfs 0 _ rfl
    rw [zP, hcs] at h
    exact h
  have f1 : DataW.trod enc Tryd.prog w base spare held n 23 [c1] = some y1 := by
    have h : DataW.trod enc Tryd.prog w base spare held n 23 ((cs.toList.drop 1).take (Tryd.prog.cellsOf 23)) = some y1 := hfs 1 _ rfl
    rw [zL, hcs] at h
    exact h
  have f2 : DataW.trod enc Tryd.prog w base spare held n 24 [c2] = some y2 := by
    have h : DataW.trod enc Tryd.prog w base spare held n 24 ((cs.toList.drop 2).take (Tryd.prog.cellsOf 24)) = some y2 := hfs 2 _ rfl
    rw [zS, hcs] at h
    exact h
  have f3 : DataW.trod enc Tryd.prog w base spare held n 3 [c3] = some y3 := by
    have h : DataW.trod enc Tryd.prog w base spare held n 3 ((cs.toList.drop 3).take (Tryd.prog.cellsOf 3)) = some y3 := hfs 3 _ rfl
    rw [zI, hcs] at h
    exact h
  have f4 : DataW.trod enc Tryd.prog w base spare held n 3 [c4] = some y4 := by
    have h : DataW.trod enc Tryd.prog w base spare held n 3 ((cs.toList.drop 4).take (Tryd.prog.cellsOf 3)) = some y4 := hfs 4 _ rfl
    rw [zI, hcs] at h
    exact h
  have f5 : DataW.trod enc Tryd.prog w base spare held n 3 [c5] = some y5 := by
    have h : DataW.trod enc Tryd.prog w base spare held n 3 ((cs.toList.drop 5).take (Tryd.prog.cellsOf 3)) = some y5 := hfs 5 _ rfl
    rw [zI, hcs] at h
    exact h
  obtain ⟨vP, hs, pss, g0, a0, b0', l0, m0, r0, q0⟩ := trod_slsB (ks := i5) Instr.cells 5 Tryd.underlying22 Tryd.underlying71 (by kernel_rfl) (by kernel_rfl) (by kernel_rfl) rfl (by decide) incells instr_dec f0 w0
  obtain ⟨vL, ls, g1, a1, l1, r1⟩ := trod_slB (ks := i5) Place.cells 5 Tryd.underlying23 (by kernel_rfl) (by kernel_rfl) rfl (by decide) plcells place_dec f1 w1
  obtain ⟨vS, ss, g2, a2, l2, r2⟩ := trod_slB (ks := i4) Start.cells 4 Tryd.underlying24 (by kernel_rfl) (by kernel_rfl) rfl (by decide) stcells start_dec f2 w2
  rw [b0] at r0
  rw [b1] at q0
  rw [b2] at r1
  rw [b3] at r2
  obtain ⟨n3, g3, _⟩ := DataW.trod_int Tryd.underlying3 f3
  obtain ⟨n4, g4, _⟩ := DataW.trod_int Tryd.underlying3 f4
  obtain ⟨n5, g5, _⟩ := DataW.trod_int Tryd.underlying3 f5
  cases g0; cases g1; cases g2; cases g3; cases g4; cases g5
  refine ⟨_, hs, ⟨pss, ls, ss, n3, n4, n5⟩, ?_, ⟨⟨⟨_, _, _, rfl, a0, a1, a2⟩, b0'⟩, fun _ h => h⟩, ⟨l0, m0, l1, l2⟩, ⟨r0, q0, r1, r2⟩⟩
  rw [← hcs]
/-- The arguments' weights, one by one. -/
theorem light_two {P : Program} {t1 t2 : TypeId} {l : List TypeId} {d1 d2 : DataW H} {gs : List (DataW H)} (h : (DataW.weightsEach P ([t1, t2] ++ l) ([d1, d2] ++ gs)).all (· ≤ reachBytes) = true) : Light P t1 d1 ∧ Light P t2 d2 := by
  rw [List.all_eq_true] at h
  simp only [List.cons_append, List.nil_append, DataW.weightsEach, List.mem_append, decide_eq_true_eq] at h
  exact ⟨fun n hn => h n (.inl hn), fun n hn => h n (.inr (.inl hn))⟩
end
end Go.Proofs.YtfiiaechippboaaDoor
/- The walks of model.Check and New. -/
namespace Go.Proofs.YtfiiaechippboaaDoor
open Go Go.RowKit Reg Mem

set_option maxRecDepth 100000 in
theorem elem_In : Elem Tryd.prog 71 70 5 40 := ⟨_, .agg #[.int .i64 0, .int .i64 0, .int .i64 0, .int .i64 0, .int .i64 0], Tryd.underlying71, rfl, by kernel_rfl, by kernel_rfl, by kernel_rfl, by kernel_rfl, by omega⟩
set_option maxRecDepth 100000 in
theorem elem_Pl : Elem Tryd.prog 23 73 5 40 := ⟨_, .agg #[.int .i64 0, .int .i64 0, .int .i64 0, .int .i64 0, .int .i64 0], Tryd.underlying23, rfl, by kernel_rfl, by kernel_rfl, by kernel_rfl, by kernel_rfl, by omega⟩
set_option maxRecDepth 100000 in
theorem elem_Sta : Elem Tryd.prog 24 96 4 32 := ⟨_, .agg #[.int .i64 0, .int .i64 0, .int .i64 0, .int .i64 0], Tryd.underlying24, rfl, by kernel_rfl, by kernel_rfl, by kernel_rfl, by kernel_rfl, by omega⟩
set_option maxRecDepth 100000 in
/-- slices.Clone. -/
theorem clone_In {ad : Option Addr} {n c : Nat} {xs : List _} (w : World) (F : Nat → Prop) (h : (Sl true Instr.cells 5 (.slice ad n c) xs).at_ w F) (hn : xs.length ≤ 4294967296) :
    Calls Tryd.prog 44 #[.slice ad n c] w fun e w' => ∃ ad' c', e = .returned (.slice ad' xs.length c') ∧ (0 < xs.length → ∃ R, ad' = some ⟨R, 0, none⟩) ∧ St (fun _ => False) w w' [Own 70 Instr.cells 5 (.slice ad' xs.length c') xs] := by
  have S : St (fun _ => False) w w [Sl true Instr.cells 5 (.slice ad n c) xs] := (St.init _ w).share rfl rfl h
  have hq : ∀ (w : World) (a : Option Addr) (n c n' c' : Nat), (binOp .eql 71 (.slice a n c) (.slice none n' c')).run Tryd.prog w = .ok (.bool a.isNone) w := fun w a n c n' c' => Lib.run_eql_slice_nil w _ _ a n c n' c' Tryd.underlying71
  cases ad with
  | none =>
    have hx : xs = [] := by
      obtain ⟨a, c', e, h1, h2, _⟩ := h.1
      simp only [Value.slice.injEq] at e
      obtain ⟨rfl, rfl, rfl⟩ := e
      exact List.eq_nil_of_length_eq_zero (by have := h2 rfl; omega)
    subst hx
    go_enter Tryd.func44, Tryd.ntmps44
    go_wp2_with first
      | ((with_reducible refine tot_done ?ht ?_); (case ht => kernel_rfl))
    go_ret
    exact ⟨_, _, rfl, fun h => absurd h (by simp), ((S.nil 70 Instr.cells 5).pick [0] rfl)⟩
  | some a0 =>
    go_enter Tryd.func44, Tryd.ntmps44
    go_wp2_with first
      | ((with_reducible apply wps_build0 (T := 71) (E := 70) Instr.cells 5 S); (case hr => intro w; kernel_rfl); clear S; intro bz wz S)
      | ((with_reducible apply wps_appends elem_In incells inone (by decide) S 0 (j := 1)); (case hx => rfl); (case hy => rfl); (case hi => rfl); (case hj => rfl); (case hl => first | omega | (simp; omega)); clear S; intro az nz cz wz hnz S; simp only [List.set_cons_zero] at S)
      | ((with_reducible refine tot_done ?ht ?_); (case ht => kernel_rfl))
    go_ret
    obtain rfl : nz = xs.length := by have := hnz.out; simp at this; omega
    simp only [List.nil_append] at S
    refine ⟨_, _, rfl, fun h0 => ?_, S.pick [0] rfl⟩
    obtain ⟨F, hF⟩ := S.get (i := 0) rfl
    rcases hF.1.2 with ⟨_, e⟩ | ⟨g, cap, cur, e, _⟩
    · omega
    · simp only [Value.slice.injEq] at e; exact ⟨g, e.1⟩
set_option maxRecDepth 100000 in
/-- slices.Clone. -/
theorem clone_Pl {ad : Option Addr} {n c : Nat} {xs : List _} (w : World) (F : Nat → Prop) (h : (Sl true Place.cells 5 (.slice ad n c) xs).at_ w F) (hn : xs.length ≤ 4294967296) :
    Calls Tryd.prog 45 #[.slice ad n c] w fun e w' => ∃ ad' c', e = .returned (.slice ad' xs.length c') ∧ (0 < xs.length → ∃ R, ad' = some ⟨R, 0, none⟩) ∧ St (fun _ => False) w w' [Own 73 Place.cells 5 (.slice ad' xs.length c') xs] := by
  have S : St (fun _ => False) w w [Sl true Place.cells 5 (.slice ad n c) xs] := (St.init _ w).share rfl rfl h
  have hq : ∀ (w : World) (a : Option Addr) (n c n' c' : Nat), (binOp .eql 23 (.slice a n c) (.slice none n' c')).run Tryd.prog w = .ok (.bool a.isNone) w := fun w a n c n' c' => Lib.run_eql_slice_nil w _ _ a n c n' c' Tryd.underlying23
  cases ad with
  | none =>
    have hx : xs = [] := by
      obtain ⟨a, c', e, h1, h2, _⟩ := h.1
      simp only [Value.slice.injEq] at e
      obtain ⟨rfl, rfl, rfl⟩ := e
      exact List.eq_nil_of_length_eq_zero (by have := h2 rfl; omega)
    subst hx
    go_enter Tryd.func45, Tryd.ntmps45
    go_wp2_with first
      | ((with_reducible refine tot_done ?ht ?_); (case ht => kernel_rfl))
    go_ret
    exact ⟨_, _, rfl, fun h => absurd h (by simp), ((S.nil 73 Place.cells 5).pick [0] rfl)⟩
  | some a0 =>
    go_enter Tryd.func45, Tryd.ntmps45
    go_wp2_with first
      | ((with_reducible apply wps_build0 (T := 23) (E := 73) Place.cells 5 S); (case hr => intro w; kernel_rfl); clear S; intro bz wz S)
      | ((with_reducible apply wps_appends elem_Pl plcells plone (by decide) S 0 (j := 1)); (case hx => rfl); (case hy => rfl); (case hi => rfl); (case hj => rfl); (case hl => first | omega | (simp; omega)); clear S; intro az nz cz wz hnz S; simp only [List.set_cons_zero] at S)
      | ((with_reducible refine tot_done ?ht ?_); (case ht => kernel_rfl))
    go_ret
    obtain rfl : nz = xs.length := by have := hnz.out; simp at this; omega
    simp only [List.nil_append] at S
    refine ⟨_, _, rfl, fun h0 => ?_, S.pick [0] rfl⟩
    obtain ⟨F, hF⟩ := S.get (i := 0) rfl
    rcases hF.1.2 with ⟨_, e⟩ | ⟨g, cap, cur, e, _⟩
    · omega
    · simp only [Value.slice.injEq] at e; exact ⟨g, e.1⟩
set_option maxRecDepth 100000 in
/-- slices.Clone. -/
theorem clone_Sta {ad : Option Addr} {n c : Nat} {xs : List _} (w : World) (F : Nat → Prop) (h : (Sl true Start.cells 4 (.slice ad n c) xs).at_ w F) (hn : xs.length ≤ 4294967296) :
    Calls Tryd.prog 46 #[.slice ad n c] w fun e w' => ∃ ad' c', e = .returned (.slice ad' xs.length c') ∧ (0 < xs.length → ∃ R, ad' = some ⟨R, 0, none⟩) ∧ St (fun _ => False) w w' [Own 96 Start.cells 4 (.slice ad' xs.length c') xs] := by
  have S : St (fun _ => False) w w [Sl true Start.cells 4 (.slice ad n c) xs] := (St.init _ w).share rfl rfl h
  have hq : ∀ (w : World) (a : Option Addr) (n c n' c' : Nat), (binOp .eql 24 (.slice a n c) (.slice none n' c')).run Tryd.prog w = .ok (.bool a.isNone) w := fun w a n c n' c' => Lib.run_eql_slice_nil w _ _ a n c n' c' Tryd.underlying24
  cases ad with
  | none =>
    have hx : xs = [] := by
      obtain ⟨a, c', e, h1, h2, _⟩ := h.1
      simp only [Value.slice.injEq] at e
      obtain ⟨rfl, rfl, rfl⟩ := e
      exact List.eq_nil_of_length_eq_zero (by have := h2 rfl; omega)
    subst hx
    go_enter Tryd.func46, Tryd.ntmps46
    go_wp2_with first
      | ((with_reducible refine tot_done ?ht ?_); (case ht => kernel_rfl))
    go_ret
    exact ⟨_, _, rfl, fun h => absurd h (by simp), ((S.nil 96 Start.cells 4).pick [0] rfl)⟩
  | some a0 =>
    go_enter Tryd.func46, Tryd.ntmps46
    go_wp2_with first
      | ((with_reducible apply wps_build0 (T := 24) (E := 96) Start.cells 4 S); (case hr => intro w; kernel_rfl); clear S; intro bz wz S)
      | ((with_reducible apply wps_appends elem_Sta stcells stone (by decide) S 0 (j := 1)); (case hx => rfl); (case hy => rfl); (case hi => rfl); (case hj => rfl); (case hl => first | omega | (simp; omega)); clear S; intro az nz cz wz hnz S; simp only [List.set_cons_zero] at S)
      | ((with_reducible refine tot_done ?ht ?_); (case ht => kernel_rfl))
    go_ret
    obtain rfl : nz = xs.length := by have := hnz.out; simp at this; omega
    simp only [List.nil_append] at S
    refine ⟨_, _, rfl, fun h0 => ?_, S.pick [0] rfl⟩
    obtain ⟨F, hF⟩ := S.get (i := 0) rfl
    rcases hF.1.2 with ⟨_, e⟩ | ⟨g, cap, cur, e, _⟩
    · omega
    · simp only [Value.slice.injEq] at e; exact ⟨g, e.1⟩
set_option maxRecDepth 100000 in
theorem zero_Hdr : zeroIs Tryd.prog 71 1 (vcell (.slice none 0 0)) := ⟨_, .slice none 0 0, rfl, by kernel_rfl, by kernel_rfl, rfl, by decide⟩
theorem within_or (n a b : Int) : withinE n a b = 0 ∨ withinE n a b = 10 := by unfold withinE; split <;> simp
theorem within_iff {n a b : Int} : withinE n a b = 0 ↔ a ≤ n ∧ n ≤ b := by
  unfold withinE; split <;> simp <;> omega
theorem sizes_eq (c : Cfg) : firstE [withinE c.lps.length 1 32, withinE c.programs.length 1 32, withinE c.fin 1 1073741824, withinE c.fuel 1 1024, withinE c.fan 0 8] = sizesE c := by
  obtain ⟨l, hl⟩ : ∃ l, [withinE c.lps.length 1 32, withinE c.programs.length 1 32, withinE c.fin 1 1073741824, withinE c.fuel 1 1024, withinE c.fan 0 8] = l := ⟨_, rfl⟩
  have hz : firstE l = 0 ↔ sizesOk c := by
    rw [firstE_zero, ← hl]
    simp only [List.mem_cons, List.not_mem_nil, or_false, forall_eq_or_imp, forall_eq, within_iff, sizesOk]
    omega
  rw [hl]
  unfold sizesE
  split
  · exact hz.2 ‹_›
  · rcases firstE_mem l with h | h
    · exact absurd (hz.1 h) ‹_›
    · have hn : firstE l ≠ 0 := fun h => absurd (hz.1 h) ‹_›
      rw [← hl] at h
      simp only [List.mem_cons, List.not_mem_nil, or_false] at h
      rw [hl] at h
      rcases h with h | h | h | h | h <;> rw [h] at hn ⊢
      · exact (within_or _ _ _).resolve_left hn
      · exact (within_or _ _ _).resolve_left hn
      · exact (within_or _ _ _).resolve_left hn
      · exact (within_or _ _ _).resolve_left hn
      · exact (within_or _ _ _).resolve_left hn
structure Mid (c : Cfg) : Prop where
  p : c.programs.length ≤ 65536
  l : c.lps.length ≤ 65536
  s : c.starts.length ≤ 65536
set_option maxRecDepth 100000 in
set_option maxHeartbeats 4000000 in
theorem mcheck_calls (vs hs : List Value) (c : Cfg) (w : World) (F F2 : Nat → Prop) (h : (CfgA true vs hs c).at_ w F) (ht : Tab.at_ w F2) (hm : Mid c) :
    Calls Tryd.prog 43 #[.agg vs.toArray] w fun r w' => r = .returned (.int .i64 (cfgE c)) ∧ Below w.heap.size w w' := by
  have S : St (fun _ => False) w w [CfgA true vs hs c, Tab] := ((St.init _ w).share rfl rfl ht).share rfl rfl h
  obtain ⟨aP, cP, aL, cL, aS, cS, rfl, hlen, S⟩ := S.cfg 0 rfl
  replace S := S.pick [0, 1, 2, 3, 5] rfl
  simp only [pick, nth] at S
  clear h ht
  have hm1 := hm.p
  have hm2 := hm.l
  have hm3 := hm.s
  obtain ⟨ps, ls, ss, fin, fuel, fan⟩ := c
  simp only at *
  obtain ⟨r, hr⟩ : ∃ r, cfgE ⟨ps, ls, ss, fin, fuel, fan⟩ = r := ⟨_, rfl⟩
  have hq := sizes_eq ⟨ps, ls, ss, fin, fuel, fan⟩
  simp only at hq
  have e : firstE [firstE [withinE ls.length 1 32, withinE ps.length 1 32, withinE fin 1 1073741824, withinE fuel 1 1024, withinE fan 0 8], (if 256 < ss.length then 11 else 0), firstE (ps.map codeE),
      (if (∀ p ∈ ls, plOk ps.length p) ∧ (∀ s ∈ ss, stOk ls.length s) then 0 else 14), (if ∀ s ∈ ss, 0 ≤ s.at_ ∧ s.at_ ≤ fin then 0 else 18)] = r := by
    rw [← hr, hq]; rfl
  rw [hr]
  obtain ⟨x1, hx1⟩ : ∃ x, firstE [withinE ls.length 1 32, withinE ps.length 1 32, withinE fin 1 1073741824, withinE fuel 1 1024, withinE fan 0 8] = x := ⟨_, rfl⟩
  obtain ⟨x2, hx2⟩ : ∃ x : Int, (if 256 < ss.length then 11 else 0) = x := ⟨_, rfl⟩
  obtain ⟨x3, hx3⟩ : ∃ x, firstE (ps.map codeE) = x := ⟨_, rfl⟩
  obtain ⟨x4, hx4⟩ : ∃ x : Int, (if (∀ p ∈ ls, plOk ps.length p) ∧ (∀ s ∈ ss, stOk ls.length s) then 0 else 14) = x := ⟨_, rfl⟩
  obtain ⟨x5, hx5⟩ : ∃ x : Int, (if ∀ s ∈ ss, 0 ≤ s.at_ ∧ s.at_ ≤ fin then 0 else 18) = x := ⟨_, rfl⟩
  have c1 := sizes_calls aP aL aS ps.length cP ls.length cL ss.length cS fin fuel fan
  have c2 := starts_calls aP aL aS ps.length cP ls.length cL ss.length cS fin fuel fan
  have c3 := fun w F1 F2 F3 h1 h2 h3 => programs_calls aP aL aS cP ls.length cL ss.length cS fin fuel fan hs ps w F1 F2 F3 h1 h2 h3 hm1
  have c4 := fun w F1 F2 h1 h2 => ends_calls aP aL aS ps.length cP cL cS fin fuel fan ls ss w F1 F2 h1 h2 hm2 hm3
  have c5 := fun w F1 h1 => times_calls aP aL aS ps.length cP ls.length cL cS fin fuel fan ss w F1 h1 hm3
  rw [hx1] at c1 e
  rw [hx2] at c2 e
  rw [hx3] at c3 e
  rw [hx4] at c4 e
  rw [hx5] at c5 e
  clear hx1 hx2 hx3 hx4 hx5 hr hq
  have C1 := Lib.hid c1
  have C2 := Lib.hid c2
  have C3 := Lib.hid c3
  have C4 := Lib.hid c4
  have C5 := Lib.hid c5
  have E := Lib.hid e
  clear c1 c2 c3 c4 c5 e
  go_enter Tryd.func43, Tryd.ntmps43
  go_wp2_with first
    | ((with_reducible apply wps_boxa S); (case hx => rfl); clear S; intro bx wz S)
    | ((with_reducible refine tot_done ?ht ?_); (case ht => kernel_rfl))
    | ((with_reducible apply wps_boxa S); (case hx => rfl); clear S; intro bz wz S)
    | ((with_reducible apply wps_box1 (v := .int _ _) S); (case hx => rfl); (case h1 => rfl); clear S; intro bz wz S)
    | ((with_reducible apply wps_box1 (v := .bool _) S); (case hx => rfl); (case h1 => rfl); clear S; intro bz wz S)
    | ((with_reducible apply wps_box1 (v := .slice _ _ _) S); (case hx => rfl); (case h1 => rfl); clear S; intro bz wz S)
    | ((with_reducible apply wps_box1 (v := .pointer _) S); (case hx => rfl); (case h1 => rfl); clear S; intro bz wz S)
    | ((with_reducible apply wps_box1 (v := .map _) S); (case hx => rfl); (case h1 => rfl); clear S; intro bz wz S)
    | ((with_reducible apply wps_box1 (v := .string _) S); (case hx => rfl); (case h1 => rfl); clear S; intro bz wz S)
    | ((with_reducible apply wps_box1 (v := .func _ _ _) S); (case hx => rfl); (case h1 => rfl); clear S; intro bz wz S)
    | ((with_reducible apply wps_loada (T := 26) (k := 6) S 0); (case hx => rfl); (case hi => rfl); (case hT => decide +kernel); (case hk => exact Nat.le_of_ble_eq_true rfl))
  (refine wp_region_w (soft := [0, 1, 2, 3, 4, 5, 6, 7, 8, 9]) S ?hm ?hB ?_); (case hm => kernel_rfl); (case hB => decide +kernel); clear S
  iterate 10
    (with_reducible apply softs_cons)
    (case hw =>
      (with_reducible apply soft_of); (case hi => rfl)
      intro T wz S
      simp only [List.cons_append, List.nil_append] at S
      go_wp2_with first
        | (go_at_call 61; refine Calls.mono (C1.out _) ?_; rintro e wz ⟨rfl, hE⟩; replace S := S.ext (Keep.of_below hE); clear hE)
        | (go_at_call 62; refine Calls.mono (C2.out _) ?_; rintro e wz ⟨rfl, hE⟩; replace S := S.ext (Keep.of_below hE); clear hE)
        | (go_at_call 63; refine Calls.mono (C3.out _ _ _ _ (S.get (i := 2) rfl).choose_spec (S.get (i := 1) rfl).choose_spec (S.get (i := 5) rfl).choose_spec) ?_; rintro e wz ⟨rfl, hE⟩; replace S := S.ext (Keep.of_below hE); clear hE)
        | (go_at_call 64; refine Calls.mono (C4.out _ _ _ (S.get (i := 3) rfl).choose_spec (S.get (i := 4) rfl).choose_spec) ?_; rintro e wz ⟨rfl, hE⟩; replace S := S.ext (Keep.of_below hE); clear hE)
        | (go_at_call 65; refine Calls.mono (C5.out _ _ (S.get (i := 4) rfl).choose_spec) ?_; rintro e wz ⟨rfl, hE⟩; replace S := S.ext (Keep.of_below hE); clear hE)
        | ((with_reducible refine tot_done ?ht ?_); (case ht => kernel_rfl))
        | ((with_reducible apply wps_loada (T := 26) (k := 6) S 0); (case hx => rfl); (case hi => rfl); (case hT => decide +kernel); (case hk => exact Nat.le_of_ble_eq_true rfl))
      exact ⟨rfl, S⟩)
    (case hs => exact ⟨_, rfl, by kernel_rfl⟩)
  refine softs_nil ?_
  repeat'
    (first
      | ((with_reducible apply W_hard1 (i := 10)); (case hn => rfl); (case hr => decide +kernel))
      | ((with_reducible apply W_hard1 (i := 11)); (case hn => rfl); (case hr => decide +kernel))
      | ((with_reducible apply W_hard1 (i := 12)); (case hn => rfl); (case hr => decide +kernel))
      | ((with_reducible apply W_hard2 (i := 10) (i' := 11)); (case hn => rfl); (case hr => decide +kernel))
      | ((with_reducible apply W_hard2 (i := 10) (i' := 12)); (case hn => rfl); (case hr => decide +kernel))
      | ((with_reducible apply W_hard2 (i := 11) (i' := 12)); (case hn => rfl); (case hr => decide +kernel)))
    all_goals
      intro wz S
      (with_reducible apply hard_of); (case hi => rfl)
      simp only [List.cons_append, List.nil_append] at S
      try simp only [pick, nth] at S
      go_wp2_with first
        | ((with_reducible apply wps_buildSlice (T := 135) (E := 42) (cs := #[.int .i64 x1, .int .i64 x2, .int .i64 x3, .int .i64 x4, .int .i64 x5]) S); (case hr => intro w; kernel_rfl); clear S; intro bz wz S)
        | (go_at_call 60; refine Calls.mono (first_calls _ [x1, x2, x3, x4, x5] _ _ (blk_sl _ intE_len (S.get (i := 6) rfl).choose_spec rfl rfl) (Nat.le_of_ble_eq_true rfl)) ?_; rintro e wz ⟨rfl, hE⟩; replace S := S.ext (Keep.of_below hE); clear hE)
        | ((with_reducible refine tot_done ?ht ?_); (case ht => kernel_rfl))
        | ((with_reducible apply wps_loada (T := 26) (k := 6) S 0); (case hx => rfl); (case hi => rfl); (case hT => decide +kernel); (case hk => exact Nat.le_of_ble_eq_true rfl))
        | ((with_reducible apply wps_loada (T := 26) (k := 6) S 1); (case hx => rfl); (case hi => rfl); (case hT => decide +kernel); (case hk => exact Nat.le_of_ble_eq_true rfl))
        | ((with_reducible apply wps_loada (T := 26) (k := 6) S 2); (case hx => rfl); (case hi => rfl); (case hT => decide +kernel); (case hk => exact Nat.le_of_ble_eq_true rfl))
        | ((with_reducible apply wps_loada (T := 26) (k := 6) S 3); (case hx => rfl); (case hi => rfl); (case hT => decide +kernel); (case hk => exact Nat.le_of_ble_eq_true rfl))
        | ((with_reducible apply wps_loada (T := 26) (k := 6) S 4); (case hx => rfl); (case hi => rfl); (case hT => decide +kernel); (case hk => exact Nat.le_of_ble_eq_true rfl))
        | ((with_reducible apply wps_loada (T := 26) (k := 6) S 5); (case hx => rfl); (case hi => rfl); (case hT => decide +kernel); (case hk => exact Nat.le_of_ble_eq_true rfl))
      first
        | refine ⟨_, S.pick [1, 2, 3, 4, 5, 6, 7, 8, 9, 10, 0] rfl, ?_⟩
        | refine ⟨_, S.pick [1, 2, 3, 4, 5, 6, 7, 8, 9, 0] rfl, ?_⟩
        | refine ⟨_, S.pick [1, 2, 3, 4, 5, 6, 7, 8, 0] rfl, ?_⟩
        | refine ⟨_, S.pick [1, 2, 3, 4, 5, 6, 7, 0] rfl, ?_⟩
        | refine ⟨_, S.pick [1, 2, 3, 4, 5, 6, 0] rfl, ?_⟩
        | refine ⟨_, S, ?_⟩
  (with_reducible apply W_done); (case hn => rfl); (case hr => decide +kernel)
  clear S
  intro wz S
  simp only [List.cons_append, List.nil_append] at S
  try simp only [pick, nth] at S
  go_wp2_with first
    | ((with_reducible refine tot_done ?ht ?_); (case ht => kernel_rfl))
    | ((with_reducible apply wps_text S); (case hm => kernel_rfl); (case hB => decide +kernel); clear S; intro wz S)
    | ((with_reducible apply wps_loada (T := 26) (k := 6) S 0); (case hx => rfl); (case hi => rfl); (case hT => decide +kernel); (case hk => exact Nat.le_of_ble_eq_true rfl))
  go_ret
  exact ⟨ret_int E.out, S.below⟩
end Go.Proofs.YtfiiaechippboaaDoor
