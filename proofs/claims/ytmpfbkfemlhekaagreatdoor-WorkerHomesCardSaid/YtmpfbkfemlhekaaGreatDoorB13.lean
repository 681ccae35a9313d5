import Derived.Test.YtmpfbkfemlhekaaGreatDoorB12
import Derived.Test.YtmpfbkfemlhekaaGreatDoorB10
import Derived.Test.YtmpfbkfemlhekaaGreatDoorB06
import Derived.Test.YtmpfbkfemlhekaaGreatDoorB09
import Derived.Test.YtmpfbkfemlhekaaGreatDoorB08
import Derived.Test.YtmpfbkfemlhekaaGreatDoorB04
import Derived.Test.YtmpfbkfemlhekaaGreatDoorB05
import Derived.Laws.CopyRow
/- The walk of slices.SortStableFunc. -/
namespace Go.Proofs.YtmpfbkfemlhekaaGreatDoor
open Go Go.RowKit Reg Mem

def St1Rel (F : Nat → Prop) (R c N : Nat) (xs : List TE) (w : World) (av bv : Value) (wr : World) : Prop :=
  ∃ (a : Nat) (d : List TE), av = .int .i64 a ∧ bv = .int .i64 ((a + 20 : Nat) : Int) ∧ a ≤ N ∧ Done 20 a d ∧ d.Perm (xs.take a) ∧ St F w wr [Own 48 tcells 7 (.slice (some ⟨R, 0, none⟩) N c) (d ++ xs.drop a)]
def St2Rel (F : Nat → Prop) (R c N : Nat) (xs : List TE) (w : World) (kv : Value) (wr : World) : Prop :=
  ∃ (k : Nat) (ys : List TE), kv = .int .i64 k ∧ 0 < k ∧ k ≤ 131072 ∧ Runs k 0 ys ∧ ys.Perm xs ∧ St F w wr [Own 48 tcells 7 (.slice (some ⟨R, 0, none⟩) N c) ys]
def St3Rel (F : Nat → Prop) (R c N k : Nat) (xs : List TE) (w : World) (av bv : Value) (wr : World) : Prop :=
  ∃ (a : Nat) (d r : List TE), av = .int .i64 a ∧ bv = .int .i64 ((a + 2 * k : Nat) : Int) ∧ a ≤ N ∧ Done (2 * k) a d ∧ Runs k a r ∧ (d ++ r).Perm xs ∧ St F w wr [Own 48 tcells 7 (.slice (some ⟨R, 0, none⟩) N c) (d ++ r)]
def StabPost (F : Nat → Prop) (R c N : Nat) (xs : List TE) (w : World) (e : Ending) (w' : World) : Prop :=
  e = .returned (.tuple #[]) ∧ ∃ ys : List TE, ys.Perm xs ∧ Srt ys ∧ St F w w' [Own 48 tcells 7 (.slice (some ⟨R, 0, none⟩) N c) ys]
set_option maxRecDepth 100000 in
set_option maxHeartbeats 8000000 in
theorem stable_calls (R c N : Nat) (l : List Event) (w : World) (F : Nat → Prop) (h : (Own 48 tcells 7 (.slice (some ⟨R, 0, none⟩) N c) (tag l)).at_ w F) (hN : N = l.length) (hn : N ≤ 65536) :
    Calls Tryz.prog 180 #[.slice (some ⟨R, 0, none⟩) N c, .int .i64 N, .func (.func 123) #[] #[]] w (StabPost F R c N (tag l) w) := by
  have S := St.one w h
  clear h
  have HI : Hid (∀ a n, a + n ≤ N → InT a (((tag l).drop a).take n)) := fun a n h => tag_in l a n (by omega)
  have HR := Lib.hid (tag_rise l)
  have HL : Hid ((tag l).length = N) := by rw [tag_len]; exact hN.symm
  clear hN
  generalize tag l = xs at *
  go_enter Tryz.func180, Tryz.ntmps180
  go_wp2_with first | ((with_reducible refine tot_done ?ht ?_); (case ht => kernel_rfl))
  go_loopw [7, 8] (fun a b wr => St1Rel F R c N xs w a b wr) (fun a _ _ => (N - intOf a).toNat)
  case atStart => exact ⟨0, [], rfl, rfl, Nat.zero_le _, Done.start _, by simp, S⟩
  case round =>
    clear S
    obtain ⟨a, d, rfl, rfl, haN, hd, hp, S⟩ := hrel
    have hdl := hd.len
    by_cases hlt : a + 20 ≤ N
    · have hlt2 : (a : Int) + 20 ≤ N := by omega
      have e1 : d ++ xs.drop a = d ++ (xs.drop a).take 20 ++ xs.drop (a + 20) := by
        rw [List.append_assoc, ← List.drop_drop, List.take_append_drop]
      have l1 : ((xs.drop a).take 20).length = 20 := by simp; have := HL.out; omega
      have hpw : ((xs.drop a).take 20).Pairwise (fun x y => x.2 < y.2) := (HR.out.sublist (List.drop_sublist _ _)).sublist (List.take_sublist _ _)
      have HE := Lib.hid e1
      rw [HE.out] at S
      have HI2 := Lib.hid (HI.out a 20 hlt)
      have hlen : N = (d ++ (xs.drop a).take 20 ++ xs.drop (a + 20)).length := by rw [← e1]; simp; have := HL.out; omega
      have Hdl := Lib.hid hdl
      have L1 := Lib.hid l1
      have Hpw := Lib.hid hpw
      have Hd := Lib.hid hd
      have Hp := Lib.hid hp
      have Hlen := Lib.hid hlen
      clear hdl l1 hpw hd hp hlen
      clear e1
      go_wp2_with first | (go_at_call 214; obtain ⟨Fz, hF, hBk⟩ := S.lend1 0 rfl rfl; refine Calls.mono (insert_calls R c N a (a + 20) d ((xs.drop a).take 20) (xs.drop (a + 20)) _ _ hF Hlen.out Hdl.out.symm (by have := L1.out; omega) hn Hpw.out) ?_; rintro e wz ⟨rfl, s, hs1, hs2, T⟩; replace S := hBk _ _ rfl T; clear hBk hF T; simp only [List.set_cons_zero] at S) | ((with_reducible refine tot_done ?ht ?_); (case ht => kernel_rfl))
      have hsl := hs1.length_eq
      go_roundw
      case rel => exact ⟨a + 20, d ++ s, by go_num, by go_num, by omega, Hd.out.step (by rw [hsl]; exact L1.out) hs2 (HI2.out.perm hs1), by rw [List.take_add]; exact Hp.out.append hs1, S⟩
      case measure => first | (simp [intOf]; done) | (simp [intOf]; omega)
    · have hlt2 : ¬ (a : Int) + 20 ≤ N := by omega
      have HE : Hid (d ++ xs.drop a = d ++ xs.drop a ++ []) := by simp [Hid]
      rw [HE.out] at S
      have hpw : (xs.drop a).Pairwise (fun x y => x.2 < y.2) := HR.out.sublist (List.drop_sublist _ _)
      have HI2 := Lib.hid (HI.out a (N - a) (by omega))
      have hlen : N = (d ++ xs.drop a ++ []).length := by simp; have := HL.out; omega
      have l1 : (xs.drop a).length = N - a := by simp; have := HL.out; omega
      have Hdl := Lib.hid hdl
      have L1 := Lib.hid l1
      have Hpw := Lib.hid hpw
      have Hd := Lib.hid hd
      have Hp := Lib.hid hp
      have Hlen := Lib.hid hlen
      clear hdl l1 hpw hd hp hlen
      go_wp2_with first | (go_at_call 214; obtain ⟨Fz, hF, hBk⟩ := S.lend1 0 rfl rfl; refine Calls.mono (insert_calls R c N a N d (xs.drop a) [] _ _ hF Hlen.out Hdl.out.symm (by have := L1.out; omega) hn Hpw.out) ?_; rintro e wz ⟨rfl, s, hs1, hs2, T⟩; replace S := hBk _ _ rfl T; clear hBk hF T; simp only [List.set_cons_zero] at S) | ((with_reducible refine tot_done ?ht ?_); (case ht => kernel_rfl))
      have hsl := hs1.length_eq
      have HP : Hid ((d ++ s ++ []).Perm xs) := by
        have := Hp.out.append hs1
        rw [List.take_append_drop] at this
        simpa [Hid] using this
      have HRun : Hid (Runs 20 0 (d ++ s ++ [])) := by
        have e : (xs.drop a).take (N - a) = xs.drop a := List.take_of_length_le (by have := L1.out; omega)
        have h1 := HI2.out
        rw [e] at h1
        rw [List.append_nil]
        exact Hd.out.go _ (.last (by rw [hsl]; have := L1.out; omega) hs2 (h1.perm hs1))
      clear hs1 hs2 hsl
      generalize d ++ s ++ [] = ys at *
      go_loopw [6] (fun kv wr => St2Rel F R c N xs w kv wr) (fun kv _ => (N - intOf kv).toNat)
      case atStart => exact ⟨20, ys, rfl, by omega, by omega, HRun.out, HP.out, S⟩
      case round =>
        clear S HP HRun
        obtain ⟨k, ys, rfl, hk0, hkM, hrun, hp2, S⟩ := hrel
        have hyl : ys.length = N := by rw [hp2.length_eq]; exact HL.out
        by_cases hkN : k < N
        · have hkN2 : (k : Int) < N := by omega
          have Hrun := Lib.hid hrun
          have Hp2 := Lib.hid hp2
          have Hyl := Lib.hid hyl
          clear hp2 hyl
          clear hrun
          go_wp2_with first | ((with_reducible refine tot_done ?ht ?_); (case ht => kernel_rfl))
          go_loopw [7, 8] (fun a b wr => St3Rel F R c N k xs w a b wr) (fun a _ _ => (N - intOf a).toNat)
          case atStart => exact ⟨0, [], ys, rfl, by go_num, Nat.zero_le _, Done.start _, Hrun.out, by simpa using Hp2.out, by simpa using S⟩
          case round =>
            clear S Hrun Hp2 Hyl
            obtain ⟨a, d, r, rfl, rfl, haN, hd, hrun, hp3, S⟩ := hrel
            have hdl := hd.len
            have hlen : d.length + r.length = N := by have := hp3.length_eq; rw [List.length_append] at this; rw [this]; exact HL.out
            by_cases hab : a + 2 * k ≤ N
            · have hab2 : (a : Int) + 2 * k ≤ N := by omega
              obtain ⟨l1, l2, r2, rfl, g1, g2, g3, g4, g5, g6, g7⟩ := runs_two hrun hk0 (by omega)
              obtain ⟨i1, i2⟩ := g5.two g6 g1
              have HE : Hid (d ++ (l1 ++ l2 ++ r2) = d ++ l1 ++ l2 ++ r2) := by simp [Hid]
              rw [HE.out] at S
              have hlen2 : N = (d ++ l1 ++ l2 ++ r2).length := by simp at hlen ⊢; omega
              have Hdl := Lib.hid hdl
              have Hlen := Lib.hid hlen
              have Hd := Lib.hid hd
              have Hrun := Lib.hid hrun
              have Hp3 := Lib.hid hp3
              have G1 := Lib.hid g1
              have G2 := Lib.hid g2
              have G3 := Lib.hid g3
              have G4 := Lib.hid g4
              have G5 := Lib.hid g5
              have G6 := Lib.hid g6
              have G7 := Lib.hid g7
              have I1 := Lib.hid i1
              have I2 := Lib.hid i2
              have Hlen2 := Lib.hid hlen2
              clear hdl hlen hd hrun hp3 g1 g2 g3 g4 g5 g6 g7 i1 i2 hlen2
              go_wp2_with first | (go_at_call 215; obtain ⟨Fz, hF, hBk⟩ := S.lend1 0 rfl rfl; refine Calls.mono (sym_calls R c N a (a + k) (a + 2 * k) d l1 l2 r2 _ _ hF Hlen2.out Hdl.out.symm (by have := G1.out; omega) (by have := G2.out; omega) (by have := G1.out; omega) (by have := G2.out; omega) G3.out G4.out I2.out hn) ?_; rintro e wz ⟨rfl, ys, ⟨s, hs1, hs2, rfl⟩, T⟩; replace S := hBk _ _ rfl T; clear hBk hF T; simp only [List.set_cons_zero] at S) | ((with_reducible refine tot_done ?ht ?_); (case ht => kernel_rfl))
              have hsl := hs1.length_eq
              go_roundw
              case rel => exact ⟨a + 2 * k, d ++ s, r2, by go_num, by go_num, by omega, Hd.out.step (by rw [hsl, List.length_append, G1.out, G2.out]; omega) hs2 (I1.out.perm hs1), G7.out, ((hs1.append_left d).append_right r2).trans (by have := Hp3.out; rwa [HE.out, List.append_assoc d] at this), S⟩
              case measure => first | (simp [intOf]; done) | (simp [intOf]; omega)
            · have hab2 : ¬ (a : Int) + 2 * k ≤ N := by omega
              by_cases hm : a + k < N
              · have hm2 : (a : Int) + k < N := by omega
                obtain ⟨l1, l2, rfl, g1, g3, g4, g5, g6⟩ := runs_one hrun (by omega) (by omega)
                obtain ⟨i1, i2⟩ := g5.two g6 g1
                have g2 : l2.length = N - (a + k) := by simp at hlen; omega
                have HE : Hid (d ++ (l1 ++ l2) = d ++ l1 ++ l2 ++ []) := by simp [Hid]
                rw [HE.out] at S
                have hlen2 : N = (d ++ l1 ++ l2 ++ []).length := by simp at hlen ⊢; omega
                have Hdl := Lib.hid hdl
                have Hlen := Lib.hid hlen
                have Hd := Lib.hid hd
                have Hrun := Lib.hid hrun
                have Hp3 := Lib.hid hp3
                have G1 := Lib.hid g1
                have G2 := Lib.hid g2
                have G3 := Lib.hid g3
                have G4 := Lib.hid g4
                have G5 := Lib.hid g5
                have G6 := Lib.hid g6
                have I1 := Lib.hid i1
                have I2 := Lib.hid i2
                have Hlen2 := Lib.hid hlen2
                clear hdl hlen hd hrun hp3 g1 g2 g3 g4 g5 g6 i1 i2 hlen2
                go_wp2_with first | (go_at_call 215; obtain ⟨Fz, hF, hBk⟩ := S.lend1 0 rfl rfl; refine Calls.mono (sym_calls R c N a (a + k) N d l1 l2 [] _ _ hF Hlen2.out Hdl.out.symm (by have := G1.out; omega) (by have := G2.out; omega) (by have := G1.out; omega) (by have := G2.out; omega) G3.out G4.out I2.out hn) ?_; rintro e wz ⟨rfl, ys, ⟨s, hs1, hs2, rfl⟩, T⟩; replace S := hBk _ _ rfl T; clear hBk hF T; simp only [List.set_cons_zero] at S) | ((with_reducible refine tot_done ?ht ?_); (case ht => kernel_rfl))
                have hsl := hs1.length_eq
                go_roundw
                case rel => exact ⟨2 * k, d ++ s ++ [], by go_num, by omega, by omega, by rw [List.append_nil]; exact Hd.out.go _ (.last (by rw [hsl, List.length_append, G1.out, G2.out]; omega) hs2 (I1.out.perm hs1)), by rw [List.append_nil]; exact (hs1.append_left d).trans Hp3.out, S⟩
                case measure => first | (simp [intOf]; done) | (simp [intOf]; omega)
              · have hm2 : ¬ (a : Int) + k < N := by omega
                obtain ⟨g1, g2⟩ := runs_srt hrun (by omega)
                have HRun : Hid (Runs (2 * k) 0 (d ++ r)) := hd.go _ (.last (by omega) g1 g2)
                have Hdl := Lib.hid hdl
                have Hlen := Lib.hid hlen
                have Hd := Lib.hid hd
                have Hrun := Lib.hid hrun
                have Hp3 := Lib.hid hp3
                have G1 := Lib.hid g1
                have G2 := Lib.hid g2
                clear hdl hlen hd hrun hp3 g1 g2
                go_wp2_with first | ((with_reducible refine tot_done ?ht ?_); (case ht => kernel_rfl))
                go_roundw
                case rel => exact ⟨2 * k, d ++ r, by go_num, by omega, by omega, HRun.out, Hp3.out, S⟩
                case measure => first | (simp [intOf]; done) | (simp [intOf]; omega)
        · have hkN2 : ¬ (k : Int) < N := by omega
          have HS := Lib.hid (runs_srt hrun (by omega)).1
          have Hrun := Lib.hid hrun
          have Hp2 := Lib.hid hp2
          have Hyl := Lib.hid hyl
          clear hp2 hyl
          clear hrun
          go_wp2_with first | ((with_reducible refine tot_done ?ht ?_); (case ht => kernel_rfl))
          go_end0
          exact ⟨rfl, ys, Hp2.out, HS.out, S⟩
set_option maxRecDepth 100000 in
set_option maxHeartbeats 4000000 in
theorem stableF_calls (R c N : Nat) (l : List Event) (w : World) (F : Nat → Prop) (h : (Own 48 tcells 7 (.slice (some ⟨R, 0, none⟩) N c) (tag l)).at_ w F) (hN : N = l.length) (hn : N ≤ 65536) :
    Calls Tryz.prog 122 #[.slice (some ⟨R, 0, none⟩) N c, .func (.func 123) #[] #[]] w (StabPost F R c N (tag l) w) := by
  have S := St.one w h
  clear h
  have HN := Lib.hid hN
  clear hN
  go_enter Tryz.func122, Tryz.ntmps122
  go_wp2_with first | (go_at_call 180; obtain ⟨Fz, hF, hBk⟩ := S.lend1 0 rfl rfl; refine Calls.mono (stable_calls R c N l _ _ hF HN.out hn) ?_; rintro e wz ⟨rfl, ys, hy1, hy2, T⟩; replace S := hBk _ _ rfl T; clear hBk hF T; simp only [List.set_cons_zero] at S) | ((with_reducible refine tot_done ?ht ?_); (case ht => kernel_rfl))
  go_end0
  exact ⟨rfl, ys, hy1, hy2, S⟩
end Go.Proofs.YtmpfbkfemlhekaaGreatDoor
/- The walk of keys.Sort. -/
namespace Go.Proofs.YtmpfbkfemlhekaaGreatDoor
open Go Go.RowKit Reg Mem

theorem ecells : ∀ e : Event, e.cells.length = 7 := fun _ => rfl
theorem eone : ∀ e : Event, ∀ u ∈ e.cells, u.oneCell' = true := fun _ => by simp [Event.cells, Value.oneCell']
set_option maxRecDepth 100000 in
theorem elem_Ev : Elem Tryz.prog 66 48 7 56 := ⟨_, .agg #[.int .i64 0, .int .i64 0, .int .i64 0, .int .i64 0, .int .i64 0, .int .i64 0, .int .i64 0], Tryz.underlying66, rfl, by kernel_rfl, by kernel_rfl, by kernel_rfl, by kernel_rfl, by omega⟩
set_option maxRecDepth 100000 in
theorem clone_Ev {ad : Option Addr} {n c : Nat} {xs : List _} (w : World) (F : Nat → Prop) (h : (Sl true Event.cells 7 (.slice ad n c) xs).at_ w F) (hn : xs.length ≤ 4294967296) :
    Calls Tryz.prog 121 #[.slice ad n c] w fun e w' => ∃ ad' c', e = .returned (.slice ad' xs.length c') ∧ (0 < xs.length → ∃ R, ad' = some ⟨R, 0, none⟩) ∧ St (fun _ => False) w w' [Own 48 Event.cells 7 (.slice ad' xs.length c') xs] := by
  have S : St (fun _ => False) w w [Sl true Event.cells 7 (.slice ad n c) xs] := (St.init _ w).share rfl rfl h
  have hq : ∀ (w : World) (a : Option Addr) (n c n' c' : Nat), (binOp .eql 66 (.slice a n c) (.slice none n' c')).run Tryz.prog w = .ok (.bool a.isNone) w := fun w a n c n' c' => Lib.run_eql_slice_nil w _ _ a n c n' c' Tryz.underlying66
  cases ad with
  | none =>
    have hx : xs = [] := by
      obtain ⟨a, c', e, h1, h2, _⟩ := h.1
      simp only [Value.slice.injEq] at e
      obtain ⟨rfl, rfl, rfl⟩ := e
      exact List.eq_nil_of_length_eq_zero (by have := h2 rfl; omega)
    subst hx
    go_enter Tryz.func121, Tryz.ntmps121
    go_wp2_with first | ((with_reducible refine tot_done ?ht ?_); (case ht => kernel_rfl))
    go_ret
    exact ⟨_, _, rfl, fun h => absurd h (by simp), ((S.nil 48 Event.cells 7).pick [0] rfl)⟩
  | some a0 =>
    go_enter Tryz.func121, Tryz.ntmps121
    go_wp2_with first | ((with_reducible apply wps_build0 (T := 66) (E := 48) Event.cells 7 S); (case hr => intro w; kernel_rfl); clear S; intro bz wz S) | ((with_reducible apply wps_appends elem_Ev ecells eone (by decide) S 0 (j := 1)); (case hx | hy | hi | hj => rfl); (case hl => first | omega | (simp; omega)); clear S; intro az nz cz wz hnz S; simp only [List.set_cons_zero] at S) | ((with_reducible refine tot_done ?ht ?_); (case ht => kernel_rfl))
    go_ret
    obtain rfl : nz = xs.length := by have := hnz.out; simp at this; omega
    simp only [List.nil_append] at S
    refine ⟨_, _, rfl, fun h0 => ?_, S.pick [0] rfl⟩
    obtain ⟨F, hF⟩ := S.get (i := 0) rfl
    rcases hF.1.2 with ⟨_, e⟩ | ⟨g, cap, cur, e, _⟩
    · omega
    · simp only [Value.slice.injEq] at e; exact ⟨g, e.1⟩
set_option maxRecDepth 100000 in
set_option maxHeartbeats 4000000 in
theorem insert0_calls (ad : Option Addr) (c : Nat) (cv : Value) (w : World) : Calls Tryz.prog 214 #[.slice ad 0 c, .int .i64 0, .int .i64 0, cv] w fun e w' => e = .returned (.tuple #[]) ∧ Below w.heap.size w w' := by
  have S := St.init (fun _ => False) w
  go_enter Tryz.func214, Tryz.ntmps214
  go_wp2_with first | go_skip | ((with_reducible refine wpList_skip ?hw ?_); (case hw => with_unfolding_all rfl); simp only [Act.put, List.setIfInBounds_toArray, List.set_cons_succ, List.set_cons_zero]) | ((with_reducible refine tot_done ?ht ?_); (case ht => kernel_rfl)) | ((with_reducible apply wps_text S); (case hm => kernel_rfl); (case hB => decide +kernel); clear S; intro wz S) | ((with_reducible apply wps_loada (T := 48) (k := 7) S 0); (case hx | hi => rfl); (case hk => exact Nat.le_of_ble_eq_true rfl); (case hT => decide +kernel)) | ((with_reducible apply wps_loada (T := 48) (k := 7) S 1); (case hx | hi => rfl); (case hk => exact Nat.le_of_ble_eq_true rfl); (case hT => decide +kernel)) | ((with_reducible apply wps_loada (T := 48) (k := 7) S 2); (case hx | hi => rfl); (case hk => exact Nat.le_of_ble_eq_true rfl); (case hT => decide +kernel)) | ((with_reducible apply wps_loada (T := 48) (k := 7) S 3); (case hx | hi => rfl); (case hk => exact Nat.le_of_ble_eq_true rfl); (case hT => decide +kernel))
  go_loopw [8, 9] (fun i _ wr => i = .int .i64 1 ∧ St (fun _ => False) w wr []) (fun _ _ _ => 0)
  case atStart => exact ⟨rfl, S⟩
  case round =>
    clear S
    obtain ⟨rfl, S⟩ := hrel
    go_wp2_with first | go_skip | ((with_reducible refine wpList_skip ?hw ?_); (case hw => with_unfolding_all rfl); simp only [Act.put, List.setIfInBounds_toArray, List.set_cons_succ, List.set_cons_zero]) | ((with_reducible refine tot_done ?ht ?_); (case ht => kernel_rfl)) | ((with_reducible apply wps_text S); (case hm => kernel_rfl); (case hB => decide +kernel); clear S; intro wz S) | ((with_reducible apply wps_loada (T := 48) (k := 7) S 0); (case hx | hi => rfl); (case hk => exact Nat.le_of_ble_eq_true rfl); (case hT => decide +kernel)) | ((with_reducible apply wps_loada (T := 48) (k := 7) S 1); (case hx | hi => rfl); (case hk => exact Nat.le_of_ble_eq_true rfl); (case hT => decide +kernel)) | ((with_reducible apply wps_loada (T := 48) (k := 7) S 2); (case hx | hi => rfl); (case hk => exact Nat.le_of_ble_eq_true rfl); (case hT => decide +kernel)) | ((with_reducible apply wps_loada (T := 48) (k := 7) S 3); (case hx | hi => rfl); (case hk => exact Nat.le_of_ble_eq_true rfl); (case hT => decide +kernel))
    go_end0
    exact ⟨rfl, S.below⟩
set_option maxRecDepth 100000 in
set_option maxHeartbeats 4000000 in
theorem stable0_calls (ad : Option Addr) (c : Nat) (cv : Value) (w : World) : Calls Tryz.prog 180 #[.slice ad 0 c, .int .i64 0, cv] w fun e w' => e = .returned (.tuple #[]) ∧ Below w.heap.size w w' := by
  have S := St.init (fun _ => False) w
  go_enter Tryz.func180, Tryz.ntmps180
  go_wp2_with first | ((with_reducible refine tot_done ?ht ?_); (case ht => kernel_rfl))
  go_loopw [7, 8] (fun a b wr => a = .int .i64 0 ∧ b = .int .i64 20 ∧ St (fun _ => False) w wr []) (fun _ _ _ => 0)
  case atStart => exact ⟨rfl, rfl, S⟩
  case round =>
    clear S
    obtain ⟨rfl, rfl, S⟩ := hrel
    go_wp2_with first | (go_at_call 214; refine Calls.mono (insert0_calls _ _ _ _) ?_; rintro e wz ⟨rfl, hE⟩; replace S := S.ext (Keep.of_below hE); clear hE) | ((with_reducible refine tot_done ?ht ?_); (case ht => kernel_rfl))
    go_loopw [6] (fun k wr => k = .int .i64 20 ∧ St (fun _ => False) w wr []) (fun _ _ => 0)
    case atStart => exact ⟨rfl, S⟩
    case round =>
      clear S
      obtain ⟨rfl, S⟩ := hrel
      go_wp2_with first | ((with_reducible refine tot_done ?ht ?_); (case ht => kernel_rfl))
      go_end0
      exact ⟨rfl, S.below⟩
set_option maxRecDepth 100000 in
set_option maxHeartbeats 4000000 in
theorem stableF0_calls (ad : Option Addr) (c : Nat) (cv : Value) (w : World) : Calls Tryz.prog 122 #[.slice ad 0 c, cv] w fun e w' => e = .returned (.tuple #[]) ∧ Below w.heap.size w w' := by
  have S := St.init (fun _ => False) w
  go_enter Tryz.func122, Tryz.ntmps122
  go_wp2_with first | (go_at_call 180; refine Calls.mono (stable0_calls _ _ _ _) ?_; rintro e wz ⟨rfl, hE⟩; replace S := S.ext (Keep.of_below hE); clear hE) | ((with_reducible refine tot_done ?ht ?_); (case ht => kernel_rfl))
  go_end0
  exact ⟨rfl, S.below⟩
theorem tag_flat (l : List Event) : flatE Event.cells l = flatE tcells (tag l) := by
  have e : tcells = fun x : TE => Event.cells x.1 := rfl
  conv => lhs; rw [← tag_map l]
  simp [flatE, e, List.flatMap_map]
theorem flat_tag (ys : List TE) : flatE tcells ys = flatE Event.cells (ys.map (·.1)) := by
  have e : tcells = fun x : TE => Event.cells x.1 := rfl
  simp [flatE, e, List.flatMap_map]
def SortPost (l : List Event) (w : World) (e : Ending) (w' : World) : Prop :=
  ∃ ad c, e = .returned (.slice ad l.length c) ∧ St (fun _ => False) w w' [Own 48 Event.cells 7 (.slice ad l.length c) (sortE l)]
set_option maxRecDepth 100000 in
set_option maxHeartbeats 4000000 in
theorem sort_calls (v : Value) (l : List Event) (w : World) (F : Nat → Prop) (h : (Sl true Event.cells 7 v l).at_ w F) (hn : l.length ≤ 65536) : Calls Tryz.prog 70 #[v] w (SortPost l w) := by
  have S : St (fun _ => False) w w [Sl true Event.cells 7 v l] := (St.init _ w).share rfl rfl h
  obtain ⟨ad, cp, rfl, _⟩ := (S.sl 0 rfl).elim fun _ h => h.form
  clear h
  go_enter Tryz.func70, Tryz.ntmps70
  go_wp2_with first | ((with_reducible refine tot_done ?ht ?_); (case ht => kernel_rfl))
  refine Calls.mono (clone_Ev _ _ (S.get (i := 0) rfl).choose_spec (by omega)) ?_
  rintro e wz ⟨ad2, c2, rfl, hhd, T⟩
  replace S := S.join T rfl
  simp only [List.cons_append, List.nil_append] at S
  clear T
  by_cases h0 : l.length = 0
  · obtain rfl : l = [] := List.eq_nil_of_length_eq_zero h0
    clear hhd
    simp only [List.length_nil] at *
    go_wp2_with first | (go_at_call 122; refine Calls.mono (stableF0_calls _ _ _ _) ?_; rintro e wz ⟨rfl, hE⟩; replace S := S.ext (Keep.of_below hE); clear hE) | ((with_reducible refine tot_done ?ht ?_); (case ht => kernel_rfl))
    go_ret
    exact ⟨_, _, rfl, S.pick [0] rfl⟩
  · obtain ⟨R, rfl⟩ := hhd (by omega)
    clear hhd
    have S2 := S.conv 0 rfl (tag l) (tag_len l).symm (tag_flat l)
    clear S
    have S := S2
    clear S2
    simp only [List.set_cons_zero] at S
    go_wp2_with first | (go_at_call 122; obtain ⟨Fz, hF, hBk⟩ := S.lend1 0 rfl rfl; refine Calls.mono (stableF_calls R c2 l.length l _ _ hF rfl hn) ?_; rintro e wz ⟨rfl, ys, hy1, hy2, T⟩; replace S := hBk _ _ rfl T; clear hBk hF T; simp only [List.set_cons_zero] at S) | ((with_reducible refine tot_done ?ht ?_); (case ht => kernel_rfl))
    go_ret
    have e1 : l.length = ys.length := by rw [hy1.length_eq, tag_len]
    have S2 := S.conv 0 rfl (ys.map (·.1)) (by simp) (flat_tag ys)
    rw [sortE_of hy1 hy2] at S2
    simp only [List.set_cons_zero] at S2
    exact ⟨_, _, rfl, S2.pick [0] rfl⟩
end Go.Proofs.YtmpfbkfemlhekaaGreatDoor
/- The walk of slices.Insert of one event. -/
namespace Go.Proofs.YtmpfbkfemlhekaaGreatDoor
open Go Go.RowKit Reg Mem

set_option maxRecDepth 100000 in
set_option maxRecDepth 100000 in
theorem zero_Ev : zeroIs Tryz.prog 48 7 (Event.cells ⟨⟨0, 0, 0, 0⟩, 0, 0, 0⟩) := ⟨_, .agg #[.int .i64 0, .int .i64 0, .int .i64 0, .int .i64 0, .int .i64 0, .int .i64 0, .int .i64 0], rfl, by kernel_rfl, by kernel_rfl, rfl, by decide⟩
theorem sizeEv (w : World) : (sizeOf 48).run Tryz.prog w = .ok 7 w := by kernel_rfl
theorem over_ev {b b2 o lb cb : Nat} {cs cs2 : Array Value} {t t2 : TypeId} {w : World} (h1 : w.heap[b]? = some (.cells cs t (0, 0))) (h2 : w.heap[b2]? = some (.cells cs2 t2 (0, 0))) (hne : b2 ≠ b) (h0 : cs.size ≠ 0) (n c : Nat) :
    (callFunc 249 #[.slice (some ⟨b2, 0, none⟩) n c, .slice (some ⟨b, o, none⟩) lb cb]).run Tryz.prog w = .ok (.value (.bool false)) w :=
  run_over (tR := 4) Tryz.func249 (by kernel_rfl) (by kernel_rfl) (by kernel_rfl) (by kernel_rfl) Tryz.underlying66 sizeEv h1 h2 hne h0 n c
theorem ival_eq {a b : Int} (h : a = b) : (Value.int .i64 a) = .int .i64 b := by rw [h]
def InsEPost (l : List Event) (F : Nat → Prop) (w : World) (r : Ending) (w' : World) : Prop :=
  ∃ ad c, r = .returned (.slice ad l.length c) ∧ St F w w' [Mem.Own 48 Event.cells 7 (.slice ad l.length c) l]
theorem nthlen {l : List Event} {e : Event} {i : Nat} : (l.take i ++ e :: l.drop i).length = l.length + 1 := by
  rw [List.length_append, List.length_cons, List.length_take, List.length_drop]; omega
set_option maxRecDepth 100000 in
set_option maxHeartbeats 8000000 in
theorem inse_calls (v : Value) (l : List Event) (e : Event) (i bv : Nat) (w : World) (F : Nat → Prop) (S0 : St F w w [Mem.Own 48 Event.cells 7 v l, Blk true bv #[.int .i64 e.key.at_, .int .i64 e.key.src, .int .i64 e.key.sent, .int .i64 e.key.no, .int .i64 e.dst, .int .i64 e.kind, .int .i64 e.data] 48]) (hi : i ≤ l.length) (hn : l.length ≤ 65536) :
    Calls Tryz.prog 216 #[v, .int .i64 i, .slice (some ⟨bv, 0, none⟩) 1 1] w (InsEPost (l.take i ++ e :: l.drop i) F w) := by
  have S := S0
  clear S0
  obtain ⟨ad, c, rfl, hlc, hnc⟩ : ∃ ad c, v = .slice ad l.length c ∧ l.length ≤ c ∧ (ad = none → c = 0) := by
    obtain ⟨F1, h1⟩ := S.get (i := 0) rfl
    obtain ⟨a, c, e1⟩ := h1.1.form
    refine ⟨a, c, e1, ?_⟩
    rcases h1.1.2 with ⟨h2, h3⟩ | ⟨g, cap, cur, h2, _, _, h4, _⟩
    · rw [e1] at h2; simp only [Value.slice.injEq] at h2; exact ⟨by omega, fun _ => h2.2.2⟩
    · rw [e1] at h2; simp only [Value.slice.injEq] at h2; exact ⟨by omega, fun h => by rw [h2.1] at h; cases h⟩
  have hn2 : (l.length : Int) ≤ 65536 := by omega
  have hi2 : (i : Int) ≤ l.length := by omega
  rcases Nat.lt_or_eq_of_le hi with hlt | rfl
  · obtain ⟨R, o, rfl⟩ : ∃ R o, ad = some ⟨R, o, none⟩ := by
      obtain ⟨R, c2, e1⟩ := own_hdE 0 S rfl (by omega)
      simp only [Value.slice.injEq] at e1
      exact ⟨R, 0, e1.1⟩
    have ho : o = 0 := by
      obtain ⟨R2, c2, e1⟩ := own_hdE 0 S rfl (by omega)
      simp only [Value.slice.injEq, Option.some.injEq, Addr.mk.injEq] at e1
      exact e1.1.2.1
    subst ho
    clear hnc
    have hlt2 : (i : Int) < l.length := by omega
    have hne : ((i : Int) == l.length) = false := by simp; omega
    by_cases hroom : l.length + 1 ≤ c
    · have hr1 : ((l.length : Int) + 1 > c) = False := by simp; omega
      obtain ⟨cur, hcs, -, -, hcm, hct, S2⟩ := S.raw 0 rfl
      clear S
      have S := S2
      clear S2
      simp only [List.set_cons_zero] at S
      have hne2 : bv ≠ R := (S.blk_ne 0 1 rfl rfl (by decide)).symm
      have hc0 : cur.size ≠ 0 := by omega
      obtain ⟨us, hus⟩ : ∃ us, flatE Event.cells (l.drop i) = us := ⟨_, rfl⟩
      have HUL : Hid (us.length = (l.length - i) * 7) := Lib.hid (by rw [← hus, flatE_length ecells, List.length_drop])
      have HUS : Hid (∀ (q : Nat) v, us[q]? = some v → cur[i * 7 + q]? = some v) := Lib.hid fun q v h => flat_src ecells hct q v (by rw [hus]; exact h)
      have HU1 : Hid (∀ v ∈ us, v.oneCell' = true) := Lib.hid (by rw [← hus]; exact flat_ones eone)
      have HEND := Lib.hid (splice_ins (n := l.length) (i := i) ecells e rfl hi (by omega) hct)
      rw [hus] at HEND
      have HFIT : Hid ((i + 1) * 7 + us.length ≤ cur.size) := Lib.hid (by rw [HUL.out]; omega)
      have HFIT2 : Hid (i * 7 + 7 ≤ (splice cur ((i + 1) * 7) us).size) := Lib.hid (by rw [splice_size HFIT.out]; omega)
      have Hcs := Lib.hid hcs
      have Hct := Lib.hid hct
      have Hus := Lib.hid hus
      clear hcs hct hus
      go_enter Tryz.func216, Tryz.ntmps216
      go_wp2_with first | ((with_reducible apply wps_slany Tryz.underlying66 sizeEv (n := l.length) (c := c) (l := i) (u := l.length)); (case hx => rfl); (case hlo => exact .inr rfl); (case hhi => exact .inl ⟨rfl, rfl⟩); (case h1 => omega); (case h2 => exact hlc); intro adz) | (simp only [over_ev (S.blk 0 rfl) (S.blk 1 rfl) hne2 hc0]) | ((with_reducible apply wps_copyk S 0 rfl 0 rfl us (l.length - i)); (case hx | hy => rfl); (case hu => exact Tryz.underlying66); (case hE => exact sizeEv); (case hnn => simp only [Nat.min_def]; split <;> omega); (case hn => exact HUL.out); (case hsrc => exact HUS.out); (case hfit => exact HFIT.out); (case h1 => exact HU1.out); clear S; intro wz S; simp only [List.set_cons_zero] at S) | ((with_reducible apply wps_copyk S 0 rfl 1 rfl (Event.cells e) 1); (case hx | hy => rfl); (case hu => exact Tryz.underlying66); (case hE => exact sizeEv); (case hnn => simp only [Nat.min_def]; split <;> omega); (case hn => rfl); (case hsrc => intro q v h; rw [Nat.zero_add, List.getElem?_toArray]; exact h); (case hfit => exact HFIT2.out); (case h1 => exact eone e); clear S; intro wz S; simp only [List.set_cons_zero] at S) | ((with_reducible refine tot_done ?ht ?_); (case ht => kernel_rfl)) | ((with_reducible apply wps_text S); (case hm => kernel_rfl); (case hB => decide +kernel); clear S; intro wz S)
      go_ret
      refine ⟨some ⟨R, 0, none⟩, c, by rw [nthlen]; rfl, ?_⟩
      rw [nthlen]
      have S2 := (S.unraw (n := l.length + 1) (c := c) (xs := l.take i ++ e :: l.drop i) ecells 0 rfl (by rw [HEND.out.2]; exact Hcs.out) nthlen.symm hroom hcm HEND.out.1).pick [0] rfl
      exact S2
    · have hcc : c = l.length := by omega
      subst hcc
      clear hroom hlc
      have hr1 : ((l.length : Int) + 1 > l.length) = True := by simp; omega
      have HSD : Hid ((l.take i ++ List.replicate (l.length + 1 - i) (⟨⟨0, 0, 0, 0⟩, 0, 0, 0⟩ : Event)).take i = l.take i) := Lib.hid (by rw [List.take_left' (by rw [List.length_take]; omega)])
      obtain ⟨us, hus⟩ : ∃ us, flatE Event.cells (l.drop i) = us := ⟨_, rfl⟩
      have HUL : Hid (us.length = (l.length - i) * 7) := Lib.hid (by rw [← hus, flatE_length ecells, List.length_drop])
      have HU1 : Hid (∀ v ∈ us, v.oneCell' = true) := Lib.hid (by rw [← hus]; exact flat_ones eone)
      have HSRC : Hid (∀ cur : Array Value, cur.toList.take (l.length * 7) = flatE Event.cells l → ∀ (q : Nat) v, us[q]? = some v → cur[i * 7 + q]? = some v) := Lib.hid fun cur ht q v h => flat_src ecells ht q v (by rw [hus]; exact h)
      have HEND : Hid (∀ cur : Array Value, (l.length + 1) * 7 ≤ cur.size → cur.toList.take ((l.length + 1) * 7) = flatE Event.cells (l.take i ++ List.replicate (l.length + 1 - i) (⟨⟨0, 0, 0, 0⟩, 0, 0, 0⟩ : Event)) → (splice (splice cur (i * 7) (Event.cells e)) ((i + 1) * 7) us).toList.take ((l.length + 1) * 7) = flatE Event.cells (l.take i ++ e :: l.drop i) ∧ (splice (splice cur (i * 7) (Event.cells e)) ((i + 1) * 7) us).size = cur.size) := Lib.hid fun cur hs ht => by
        have := splice_ins2 (cur := cur) (xs := l) (n := l.length) (i := i) ecells e rfl hi hs (by
          have h2 := congrArg (List.take (i * 7)) ht
          rw [List.take_take, Nat.min_eq_left (by omega), ← flatE_take ecells, List.take_left' (by rw [List.length_take]; omega)] at h2
          exact h2)
        rw [hus] at this; exact this
      have hcl : ¬ (l.length = i) := by omega
      have Hus := Lib.hid hus
      clear hus
      go_enter Tryz.func216, Tryz.ntmps216
      go_wp2_with first | ((with_reducible apply wps_appendz elem_Ev ecells Tryz.underlying3 ⟨⟨0, 0, 0, 0⟩, 0, 0, 0⟩ zero_Ev S 0 rfl (u := i) (m := l.length + 1 - i) (nn := l.length + 1)); (case hx => rfl); (case hy => exact ival_eq (by omega)); (case hu | h0 | hg | hl => omega); (case hby => decide); (case hnn => omega); clear S; intro b2 c2 wz S; obtain ⟨cur2, hcs2, -, hle2, hcm2, hct2, S2⟩ := S.raw 0 rfl; clear S; simp only [List.set_cons_zero] at S2; obtain ⟨cur, -, -, -, -, hct, S⟩ := S2.raw 1 rfl; clear S2; simp only [List.set_cons_zero, List.set_cons_succ] at S; have HE2 := Lib.hid (HEND.out cur2 (by omega) hct2); have HS2 := Lib.hid (HSRC.out cur hct); have Hcs2 := Lib.hid hcs2; have hf1 : i * 7 + 7 ≤ cur2.size := (by omega); have HF2 := Lib.hid (show (i + 1) * 7 + us.length ≤ (splice cur2 (i * 7) (Event.cells e)).size from (by rw [splice_size (by exact hf1), HUL.out]; omega)); have HF1 := Lib.hid hf1; have Hcm2 := Lib.hid hcm2; have hci : ¬ (c2 = i) := (by omega); have hci2 : ¬ (c2 = i + 1) := (by omega); have Hle2 := Lib.hid hle2; clear hcs2 hct2 hct HEND HSRC hf1 hcm2 hle2) | ((with_reducible apply wps_copyk S 0 rfl 2 rfl (Event.cells e) 1); (case hx | hy => rfl); (case hu => exact Tryz.underlying66); (case hE => exact sizeEv); (case hnn => simp only [Nat.min_def]; split <;> omega); (case hn => rfl); (case hsrc => intro q v h; rw [Nat.zero_add, List.getElem?_toArray]; exact h); (case hfit => exact HF1.out); (case h1 => exact eone e); clear S; intro wz S; simp only [List.set_cons_zero] at S) | ((with_reducible apply wps_copyk S 0 rfl 1 rfl us (l.length - i)); (case hx | hy => rfl); (case hu => exact Tryz.underlying66); (case hE => exact sizeEv); (case hnn => simp only [Nat.min_def]; split <;> omega); (case hn => exact HUL.out); (case hsrc => exact HS2.out); (case hfit => exact HF2.out); (case h1 => exact HU1.out); clear S; intro wz S; simp only [List.set_cons_zero] at S) | ((with_reducible refine tot_done ?ht ?_); (case ht => kernel_rfl)) | ((with_reducible apply wps_text S); (case hm => kernel_rfl); (case hB => decide +kernel); clear S; intro wz S)
      go_ret
      refine ⟨some ⟨b2, 0, none⟩, c2, by rw [nthlen]; rfl, ?_⟩
      rw [nthlen]
      have S2 := (S.unraw (n := l.length + 1) (c := c2) (xs := l.take i ++ e :: l.drop i) ecells 0 rfl (by rw [HE2.out.2]; exact Hcs2.out) nthlen.symm Hle2.out Hcm2.out HE2.out.1).pick [0] rfl
      exact S2
  · clear hi hi2 hnc
    rw [List.take_length, List.drop_length]
    replace S := S.weak (i := 1) (A' := Sl true Event.cells 7 (.slice (some ⟨bv, 0, none⟩) 1 1) [e]) rfl (fun e => by cases e) (fun F h => ⟨F, fun _ hb => hb, blk_sl (n := 1) [e] ecells h rfl rfl⟩)
    simp only [List.set_cons_zero, List.set_cons_succ] at S
    have HLE : Hid ((l ++ [e]).length = l.length + 1) := Lib.hid (by simp)
    go_enter Tryz.func216, Tryz.ntmps216
    go_wp2_with first | ((with_reducible apply wps_slany Tryz.underlying66 sizeEv (n := l.length) (c := c) (l := l.length) (u := l.length)); (case hx => rfl); (case hlo => exact .inr rfl); (case hhi => exact .inl ⟨rfl, rfl⟩); (case h1 => exact Nat.le_refl _); (case h2 => exact hlc); intro adz) | ((with_reducible apply wps_appends elem_Ev ecells eone (by decide) S 0 rfl 1 rfl); (case hx | hy => rfl); (case hl => simp only [List.length_cons, List.length_nil]; omega); clear S; intro az nz cz wz hnz S; simp only [List.set_cons_zero] at S; obtain rfl : nz = l.length + 1 := hnz.out) | ((with_reducible refine tot_done ?ht ?_); (case ht => kernel_rfl)) | ((with_reducible apply wps_text S); (case hm => kernel_rfl); (case hB => decide +kernel); clear S; intro wz S)
    go_ret
    refine ⟨az, cz, by rw [HLE.out]; rfl, ?_⟩
    rw [HLE.out]
    exact S.pick [0] rfl
end Go.Proofs.YtmpfbkfemlhekaaGreatDoor
/- Many things that lie apart, as one: of which one may be lent. Over any program. -/
namespace Go.Proofs.YtmpfbkfemlhekaaGreatDoor.Mem
open Go Go.RowKit Reg

def stars : List Asn → Asn
  | [] => pur True
  | A :: As => sep false A (stars As)
theorem stars_sh : ∀ As : List Asn, (stars As).sh = false
  | [] => rfl
  | _ :: _ => rfl
theorem stars_part : ∀ (As : List Asn) (k : Nat) (A : Asn) (w : World) (F : Nat → Prop), (stars As).at_ w F → As[k]? = some A → ∃ Fk, A.at_ w Fk ∧ (∀ b, Fk b → F b) ∧
    ∀ w' A' (Fk' : Nat → Prop), Keep Fk w w' → A'.at_ w' Fk' → (∀ b, Fk' b → Fk b ∨ w.heap.size ≤ b) → ∃ F', (stars (As.set k A')).at_ w' F' ∧ ∀ b, F' b → F b ∨ w.heap.size ≤ b
  | [], k, A, w, F, _, hk => by simp at hk
  | A0 :: As, 0, A, w, F, h, hk => by
    simp at hk; subst hk
    obtain ⟨F1, F2, h1, h2, hd, hF⟩ := h
    refine ⟨F1, h1, fun b hb => (hF b).2 (.inl hb), fun w' A' Fk' hK hA' hn => ?_⟩
    have h2' : (stars As).at_ w' F2 := (stars As).loc h2 fun b hb => hK.block b ((stars As).lt h2 b hb) (fun h => hd b h hb)
    refine ⟨fun b => Fk' b ∨ F2 b, ⟨Fk', F2, hA', h2', fun b hb hb2 => ?_, fun _ => Iff.rfl⟩, fun b hb => ?_⟩
    · rcases hn b hb with h | h
      · exact hd b h hb2
      · have := (stars As).lt h2 b hb2; omega
    · rcases hb with hb | hb
      · rcases hn b hb with h | h
        · exact .inl ((hF b).2 (.inl h))
        · exact .inr h
      · exact .inl ((hF b).2 (.inr hb))
  | A0 :: As, k + 1, A, w, F, h, hk => by
    obtain ⟨F1, F2, h1, h2, hd, hF⟩ := h
    obtain ⟨Fk, g1, g2, g3⟩ := stars_part As k A w F2 h2 (by simpa using hk)
    refine ⟨Fk, g1, fun b hb => (hF b).2 (.inr (g2 b hb)), fun w' A' Fk' hK hA' hn => ?_⟩
    obtain ⟨F2', k1, k2⟩ := g3 w' A' Fk' hK hA' hn
    have h1' : A0.at_ w' F1 := A0.loc h1 fun b hb => hK.block b (A0.lt h1 b hb) (fun h => hd b hb (g2 b h))
    refine ⟨fun b => F1 b ∨ F2' b, ⟨F1, F2', h1', k1, fun b hb hb2 => ?_, fun _ => Iff.rfl⟩, fun b hb => ?_⟩
    · rcases k2 b hb2 with h | h
      · exact hd b hb h
      · have := A0.lt h1 b hb; omega
    · rcases hb with hb | hb
      · exact .inl ((hF b).2 (.inl hb))
      · rcases k2 b hb with h | h
        · exact .inl ((hF b).2 (.inr h))
        · exact .inr h
theorem stars_snoc : ∀ (As : List Asn) (A : Asn) (w : World) (F F' : Nat → Prop), A.at_ w F → (stars As).at_ w F' → (∀ b, F b → ¬ F' b) → (stars (As ++ [A])).at_ w (fun b => F b ∨ F' b)
  | [], A, w, F, F', h, h', hd => ⟨F, F', h, h', hd, fun _ => Iff.rfl⟩
  | A0 :: As, A, w, F, F', h, ⟨F1, F2, h1, h2, hd2, hF⟩, hd => by
    have ih := stars_snoc As A w F F2 h h2 (fun b hb hb2 => hd b hb ((hF b).2 (.inr hb2)))
    refine ⟨F1, fun b => F b ∨ F2 b, h1, ih, fun b hb hb2 => ?_, fun b => ?_⟩
    · rcases hb2 with h | h
      · exact hd b h ((hF b).2 (.inl hb))
      · exact hd2 b hb h
    · show (F b ∨ F' b) ↔ (F1 b ∨ (F b ∨ F2 b)); rw [hF b]; exact ⟨fun h => h.elim (fun h => .inr (.inl h)) (fun h => h.elim .inl (fun h => .inr (.inr h))), fun h => h.elim (fun h => .inr (.inl h)) (fun h => h.elim .inl (fun h => .inr (.inr h)))⟩
section
variable {G : Nat → Prop} {w0 w : World} {L As : List Asn} {A : Asn}
theorem St.starGet (S : St G w0 w L) (i : Nat) (hi : L[i]? = some (stars As)) (k : Nat) (hk : As[k]? = some A) : ∃ F, A.at_ w F := by
  obtain ⟨F, h⟩ := S.get hi
  obtain ⟨Fk, g1, _⟩ := stars_part As k A w F h hk
  exact ⟨Fk, g1⟩
theorem St.starNil (S : St G w0 w L) : St G w0 w (stars [] :: L) := S.close_pur trivial
theorem St.starSnoc (S : St G w0 w (A :: stars As :: L)) (ho : A.sh = false) : St G w0 w (stars (As ++ [A]) :: L) := by
  have S1 := S.close_sep ho (stars_sh As)
  have S2 := S1.weak (i := 0) (A' := stars (As ++ [A])) rfl (fun _ => rfl) fun F h => by
    obtain ⟨F1, F2, h1, h2, hd, hF⟩ := h
    refine ⟨fun b => F1 b ∨ F2 b, fun b hb => (hF b).2 hb, stars_snoc As A w F1 F2 h1 h2 hd⟩
  simpa using S2
end
section
variable {G : Nat → Prop} {w0 w w' : World} {L : List Asn} {A A' B B' : Asn} {i j : Nat}
def rd (A : Asn) : Asn := ⟨true, A.at_, A.loc, A.lt⟩
theorem star_get {As : List Asn} {k : Nat} (h : ∃ F, (rd (stars As)).at_ w F) (hk : As[k]? = some A) : ∃ F, A.at_ w F := by
  obtain ⟨F, h⟩ := h
  obtain ⟨Fk, g1, _⟩ := stars_part As k A w F h hk
  exact ⟨Fk, g1⟩
end
end Go.Proofs.YtmpfbkfemlhekaaGreatDoor.Mem
/- Plain: the machine that runs a handler's program. No program in sight. -/
namespace Go.Proofs.YtmpfbkfemlhekaaGreatDoor
open Go Go.RowKit Mem

structure Emit where
  dst : Int
  delay : Int
  kind : Int
  data : Int
  deriving DecidableEq
instance : Inhabited Emit := ⟨⟨0, 0, 0, 0⟩⟩
def Emit.cells (x : Emit) : List Value := [.int .i64 x.dst, .int .i64 x.delay, .int .i64 x.kind, .int .i64 x.data]
structure Mach where
  cs : List Int
  at_ : Int
  sent : List Emit
def Mach.get (m : Mach) (a : Int) : Int := m.cs[a.toNat]?.getD 0
def Mach.put (m : Mach) (a v : Int) : Mach := { m with cs := m.cs.set a.toNat v }
def reckonE (op b c : Int) : Int :=
  if op = 4 then wrap64 (b + wrap64 (-c)) else if op = 3 then wrap64 (b + c) else if op = 5 then wrap64 (b * c) else if op = 6 then (if c ≠ 0 then b.tmod c else 0) else if op = 7 then (if b < c then 1 else 0) else 0
def doE (e : Event) (fan : Int) (m : Mach) (x : Instr) : Mach :=
  if x.op = 1 then m.put x.a x.b
  else if x.op = 2 then m.put x.a (m.get x.b)
  else if 3 ≤ x.op ∧ x.op ≤ 7 then m.put x.a (reckonE x.op (m.get x.b) (m.get x.c))
  else if x.op = 8 then { m with at_ := x.a }
  else if x.op = 9 then (if m.get x.a = 0 then { m with at_ := x.b } else m)
  else if x.op = 10 then m.put x.a e.key.at_
  else if x.op = 11 then m.put x.a e.kind
  else if x.op = 12 then m.put x.a e.data
  else if x.op = 13 then m.put x.a e.dst
  else if x.op = 14 then (if (m.sent.length : Int) < fan then { m with sent := m.sent ++ [⟨m.get x.a, m.get x.b, x.d, m.get x.c⟩] } else m)
  else m
def stepE (p : List Instr) (e : Event) (fan : Int) (m : Mach) : Option Mach :=
  if m.at_ < 0 ∨ (p.length : Int) ≤ m.at_ then none
  else match p[m.at_.toNat]? with
    | none => none
    | some x => if x.op = 15 ∨ mayE x p.length ≠ 0 then none else some (doE e fan { m with at_ := m.at_ + 1 } x)
def stepsE (p : List Instr) (e : Event) (fan : Int) : Nat → Mach → Mach
  | 0, m => m
  | f + 1, m => match stepE p e fan m with
    | none => m
    | some n => stepsE p e fan f n
def startE (s : State) : Mach := ⟨[s.n0, s.n1, s.n2, s.n3, 0, 0, 0, 0], 0, []⟩
def machCells (e : Event) (vp : Value) (m : Mach) (fan : Int) (vs : Value) : Array Value :=
  (e.cells ++ vp :: (m.cs.map (Value.int .i64) ++ [.int .i64 m.at_, .int .i64 fan, vs])).toArray
section
variable {e : Event} {vp vs u : Value} {m : Mach} {fan : Int}
end
end Go.Proofs.YtmpfbkfemlhekaaGreatDoor
/- The walk of vm.reckon. -/
namespace Go.Proofs.YtmpfbkfemlhekaaGreatDoor
open Go Go.RowKit Reg Mem

end Go.Proofs.YtmpfbkfemlhekaaGreatDoor
/- The walk of a machine's do. -/
namespace Go.Proofs.YtmpfbkfemlhekaaGreatDoor
open Go Go.RowKit Reg Mem

def cellN (v : Int) : Prop := ∃ n : Nat, n < 8 ∧ v = n
def MayOp (x : Instr) (many : Nat) : Prop :=
  (x.op = 1 ∧ cellN x.a) ∨ (x.op = 2 ∧ cellN x.a ∧ cellN x.b) ∨ ((3 ≤ x.op ∧ x.op ≤ 7) ∧ cellN x.a ∧ cellN x.b ∧ cellN x.c) ∨ (x.op = 8 ∧ 0 ≤ x.a ∧ x.a ≤ many) ∨
  (x.op = 9 ∧ cellN x.a ∧ 0 ≤ x.b ∧ x.b ≤ many) ∨ (x.op = 10 ∧ cellN x.a) ∨ (x.op = 11 ∧ cellN x.a) ∨ (x.op = 12 ∧ cellN x.a) ∨ (x.op = 13 ∧ cellN x.a) ∨ (x.op = 14 ∧ cellN x.a ∧ cellN x.b ∧ cellN x.c) ∨ x.op = 15
def DoPost (F : Nat → Prop) (R : Nat) (e : Event) (vp : Value) (fan : Int) (n : Mach) (w : World) (r : Ending) (w' : World) : Prop :=
  ∃ vs', r = .returned (.tuple #[]) ∧ St F w w' [Blk false R (machCells e vp n fan vs') 329, Own 282 Emit.cells 4 vs' n.sent]
end Go.Proofs.YtmpfbkfemlhekaaGreatDoor
/- 'copy' between blocks that are known whole. Over any program. -/
namespace Go.Proofs.YtmpfbkfemlhekaaGreatDoor.Mem
open Go Go.RowKit Reg
section
variable {P : Program} {ops : Array Oper} {rest : List Oper} {a : Act} {Q : Exit → Act → World → Prop} {d : Option Tmp} {tt : TypeId} {p : String} {af : Array Edge} {gd : Option (Nat × Bool)} {x y : Operand}
variable {G : Nat → Prop} {w0 w w' : World} {L : List Asn}
end
end Go.Proofs.YtmpfbkfemlhekaaGreatDoor.Mem
/- The walks of vm.New and of a machine's Step. -/
namespace Go.Proofs.YtmpfbkfemlhekaaGreatDoor
open Go Go.RowKit Reg Mem

def StepPost (F : Nat → Prop) (R : Nat) (e : Event) (vp : Value) (fan : Int) (o : Option Mach) (m : Mach) (w : World) (r : Ending) (w' : World) : Prop :=
  ∃ vs', r = .returned (.bool o.isSome) ∧ St F w w' [Blk false R (machCells e vp (o.getD m) fan vs') 329, Own 282 Emit.cells 4 vs' (o.getD m).sent]
end Go.Proofs.YtmpfbkfemlhekaaGreatDoor
