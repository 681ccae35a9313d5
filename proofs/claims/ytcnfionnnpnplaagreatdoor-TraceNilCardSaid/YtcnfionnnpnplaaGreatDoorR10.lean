import Derived.Test.YtcnfionnnpnplaaGreatDoorR09
import Derived.Test.YtcnfionnnpnplaaGreatDoorR07
import Derived.Test.YtcnfionnnpnplaaGreatDoorR01
import Derived.Test.YtcnfionnnpnplaaGreatDoorR04
import Derived.Test.YtcnfionnnpnplaaGreatDoorR05
import Derived.Test.YtcnfionnnpnplaaGreatDoorR12
import Derived.Test.YtcnfionnnpnplaaGreatDoorR06
import Derived.Laws.CopyRow
/- The walk of slices.SortStableFunc. -/
namespace Go.Proofs.YtcnfionnnpnplaaGreatDoor
open Go Go.RowKit Reg Mem

def St1Rel (F : Nat → Prop) (R c N : Nat) (xs : List TE) (w : World) (av bv : Value) (wr : World) : Prop :=
  ∃ (a : Nat) (d : List TE), av = .int .i64 a ∧ bv = .int .i64 ((a + 20 : Nat) : Int) ∧ a ≤ N ∧ Done 20 a d ∧ d.Perm (xs.take a) ∧ St F w wr [Own 56 tcells 7 (.slice (some ⟨R, 0, none⟩) N c) (d ++ xs.drop a)]
def St2Rel (F : Nat → Prop) (R c N : Nat) (xs : List TE) (w : World) (kv : Value) (wr : World) : Prop :=
  ∃ (k : Nat) (ys : List TE), kv = .int .i64 k ∧ 0 < k ∧ k ≤ 131072 ∧ Runs k 0 ys ∧ ys.Perm xs ∧ St F w wr [Own 56 tcells 7 (.slice (some ⟨R, 0, none⟩) N c) ys]
def St3Rel (F : Nat → Prop) (R c N k : Nat) (xs : List TE) (w : World) (av bv : Value) (wr : World) : Prop :=
  ∃ (a : Nat) (d r : List TE), av = .int .i64 a ∧ bv = .int .i64 ((a + 2 * k : Nat) : Int) ∧ a ≤ N ∧ Done (2 * k) a d ∧ Runs k a r ∧ (d ++ r).Perm xs ∧ St F w wr [Own 56 tcells 7 (.slice (some ⟨R, 0, none⟩) N c) (d ++ r)]
def StabPost (F : Nat → Prop) (R c N : Nat) (xs : List TE) (w : World) (e : Ending) (w' : World) : Prop :=
  e = .returned (.tuple #[]) ∧ ∃ ys : List TE, ys.Perm xs ∧ Srt ys ∧ St F w w' [Own 56 tcells 7 (.slice (some ⟨R, 0, none⟩) N c) ys]
set_option maxRecDepth 100000 in
set_option maxHeartbeats 8000000 in
theorem stable_calls (R c N : Nat) (l : List Event) (w : World) (F : Nat → Prop) (h : (Own 56 tcells 7 (.slice (some ⟨R, 0, none⟩) N c) (tag l)).at_ w F) (hN : N = l.length) (hn : N ≤ 65536) :
    Calls Tryz.prog 101 #[.slice (some ⟨R, 0, none⟩) N c, .int .i64 N, .func (.func 68) #[] #[]] w (StabPost F R c N (tag l) w) := by
  have S := St.one w h
  clear h
  have HI : Hid (∀ a n, a + n ≤ N → InT a (((tag l).drop a).take n)) := fun a n h => tag_in l a n (by omega)
  have HR := Lib.hid (tag_rise l)
  have HL : Hid ((tag l).length = N) := by rw [tag_len]; exact hN.symm
  clear hN
  generalize tag l = xs at *
  go_enter Tryz.func101, Tryz.ntmps101
  go_wp2_with first | ((with_reducible refine tot_done ?ht ?_); (case ht => kernel_rfl))
  go_loopw [7, 8] (fun a b wr => St1Rel F R c N xs w a b wr) (fun a _ _ => (N - intOf a).toNat)
  case atStart => exact ⟨0, [], rfl, rfl, Nat.zero_le _, Done.start _, by simp, S⟩
  case round =>
    clear S
    obtain ⟨a, d, rfl, rfl, haN, hd, hp, S⟩ := hrel
    have hdl := hd.len
    by_cases hlt : a + 20 ≤ N
    · have hlt2 : (a : Int) + 20 ≤ N := by omega
      have e1 : d ++ xs.drop a = d ++ (xs.drop a).take 20 ++ xs.drop (a + 20) := by
        rw [List.append_assoc, ← List.drop_drop, List.take_append_drop]
      have l1 : ((xs.drop a).take 20).length = 20 := by simp; have := HL.out; omega
      have hpw : ((xs.drop a).take 20).Pairwise (fun x y => x.2 < y.2) := (HR.out.sublist (List.drop_sublist _ _)).sublist (List.take_sublist _ _)
      have HE := Lib.hid e1
      rw [HE.out] at S
      have HI2 := Lib.hid (HI.out a 20 hlt)
      have hlen : N = (d ++ (xs.drop a).take 20 ++ xs.drop (a + 20)).length := by rw [← e1]; simp; have := HL.out; omega
      have Hdl := Lib.hid hdl
      have L1 := Lib.hid l1
      have Hpw := Lib.hid hpw
      have Hd := Lib.hid hd
      have Hp := Lib.hid hp
      have Hlen := Lib.hid hlen
      clear hdl l1 hpw hd hp hlen
      clear e1
      go_wp2_with first | (go_at_call 120; obtain ⟨Fz, hF, hBk⟩ := S.lend1 0 rfl rfl; refine Calls.mono (insert_calls R c N a (a + 20) d ((xs.drop a).take 20) (xs.drop (a + 20)) _ _ hF Hlen.out Hdl.out.symm (by have := L1.out; omega) hn Hpw.out) ?_; rintro e wz ⟨rfl, s, hs1, hs2, T⟩; replace S := hBk _ _ rfl T; clear hBk hF T; simp only [List.set_cons_zero] at S) | ((with_reducible refine tot_done ?ht ?_); (case ht => kernel_rfl))
      have hsl := hs1.length_eq
      go_roundw
      case rel => exact ⟨a + 20, d ++ s, by go_num, by go_num, by omega, Hd.out.step (by rw [hsl]; exact L1.out) hs2 (HI2.out.perm hs1), by rw [List.take_add]; exact Hp.out.append hs1, S⟩
      case measure => first | (simp [intOf]; done) | (simp [intOf]; omega)
    · have hlt2 : ¬ (a : Int) + 20 ≤ N := by omega
      have HE : Hid (d ++ xs.drop a = d ++ xs.drop a ++ []) := by simp [Hid]
      rw [HE.out] at S
      have hpw : (xs.drop a).Pairwise (fun x y => x.2 < y.2) := HR.out.sublist (List.drop_sublist _ _)
      have HI2 := Lib.hid (HI.out a (N - a) (by omega))
      have hlen : N = (d ++ xs.drop a ++ []).length := by simp; have := HL.out; omega
      have l1 : (xs.drop a).length = N - a := by simp; have := HL.out; omega
      have Hdl := Lib.hid hdl
      have L1 := Lib.hid l1
      have Hpw := Lib.hid hpw
      have Hd := Lib.hid hd
      have Hp := Lib.hid hp
      have Hlen := Lib.hid hlen
      clear hdl l1 hpw hd hp hlen
      go_wp2_with first | (go_at_call 120; obtain ⟨Fz, hF, hBk⟩ := S.lend1 0 rfl rfl; refine Calls.mono (insert_calls R c N a N d (xs.drop a) [] _ _ hF Hlen.out Hdl.out.symm (by have := L1.out; omega) hn Hpw.out) ?_; rintro e wz ⟨rfl, s, hs1, hs2, T⟩; replace S := hBk _ _ rfl T; clear hBk hF T; simp only [List.set_cons_zero] at S) | ((with_reducible refine tot_done ?ht ?_); (case ht => kernel_rfl))
      have hsl := hs1.length_eq
      have HP : Hid ((d ++ s ++ []).Perm xs) := by
        have := Hp.out.append hs1
        rw [List.take_append_drop] at this
        simpa [Hid] using this
      have HRun : Hid (Runs 20 0 (d ++ s ++ [])) := by
        have e : (xs.drop a).take (N - a) = xs.drop a := List.take_of_length_le (by have := L1.out; omega)
        have h1 := HI2.out
        rw [e] at h1
        rw [List.append_nil]
        exact Hd.out.go _ (.last (by rw [hsl]; have := L1.out; omega) hs2 (h1.perm hs1))
      clear hs1 hs2 hsl
      generalize d ++ s ++ [] = ys at *
      go_loopw [6] (fun kv wr => St2Rel F R c N xs w kv wr) (fun kv _ => (N - intOf kv).toNat)
      case atStart => exact ⟨20, ys, rfl, by omega, by omega, HRun.out, HP.out, S⟩
      case round =>
        clear S HP HRun
        obtain ⟨k, ys, rfl, hk0, hkM, hrun, hp2, S⟩ := hrel
        have hyl : ys.length = N := by rw [hp2.length_eq]; exact HL.out
        by_cases hkN : k < N
        · have hkN2 : (k : Int) < N := by omega
          have Hrun := Lib.hid hrun
          have Hp2 := Lib.hid hp2
          have Hyl := Lib.hid hyl
          clear hp2 hyl
          clear hrun
          go_wp2_with first | ((with_reducible refine tot_done ?ht ?_); (case ht => kernel_rfl))
          go_loopw [7, 8] (fun a b wr => St3Rel F R c N k xs w a b wr) (fun a _ _ => (N - intOf a).toNat)
          case atStart => exact ⟨0, [], ys, rfl, by go_num, Nat.zero_le _, Done.start _, Hrun.out, by simpa using Hp2.out, by simpa using S⟩
          case round =>
            clear S Hrun Hp2 Hyl
            obtain ⟨a, d, r, rfl, rfl, haN, hd, hrun, hp3, S⟩ := hrel
            have hdl := hd.len
            have hlen : d.length + r.length = N := by have := hp3.length_eq; rw [List.length_append] at this; rw [this]; exact HL.out
            by_cases hab : a + 2 * k ≤ N
            · have hab2 : (a : Int) + 2 * k ≤ N := by omega
              obtain ⟨l1, l2, r2, rfl, g1, g2, g3, g4, g5, g6, g7⟩ := runs_two hrun hk0 (by omega)
              obtain ⟨i1, i2⟩ := g5.two g6 g1
              have HE : Hid (d ++ (l1 ++ l2 ++ r2) = d ++ l1 ++ l2 ++ r2) := by simp [Hid]
              rw [HE.out] at S
              have hlen2 : N = (d ++ l1 ++ l2 ++ r2).length := by simp at hlen ⊢; omega
              have Hdl := Lib.hid hdl
              have Hlen := Lib.hid hlen
              have Hd := Lib.hid hd
              have Hrun := Lib.hid hrun
              have Hp3 := Lib.hid hp3
              have G1 := Lib.hid g1
              have G2 := Lib.hid g2
              have G3 := Lib.hid g3
              have G4 := Lib.hid g4
              have G5 := Lib.hid g5
              have G6 := Lib.hid g6
              have G7 := Lib.hid g7
              have I1 := Lib.hid i1
              have I2 := Lib.hid i2
              have Hlen2 := Lib.hid hlen2
              clear hdl hlen hd hrun hp3 g1 g2 g3 g4 g5 g6 g7 i1 i2 hlen2
              go_wp2_with first | (go_at_call 121; obtain ⟨Fz, hF, hBk⟩ := S.lend1 0 rfl rfl; refine Calls.mono (sym_calls R c N a (a + k) (a + 2 * k) d l1 l2 r2 _ _ hF Hlen2.out Hdl.out.symm (by have := G1.out; omega) (by have := G2.out; omega) (by have := G1.out; omega) (by have := G2.out; omega) G3.out G4.out I2.out hn) ?_; rintro e wz ⟨rfl, ys, ⟨s, hs1, hs2, rfl⟩, T⟩; replace S := hBk _ _ rfl T; clear hBk hF T; simp only [List.set_cons_zero] at S) | ((with_reducible refine tot_done ?ht ?_); (case ht => kernel_rfl))
              have hsl := hs1.length_eq
              go_roundw
              case rel => exact ⟨a + 2 * k, d ++ s, r2, by go_num, by go_num, by omega, Hd.out.step (by rw [hsl, List.length_append, G1.out, G2.out]; omega) hs2 (I1.out.perm hs1), G7.out, ((hs1.append_left d).append_right r2).trans (by have := Hp3.out; rwa [HE.out, List.append_assoc d] at this), S⟩
              case measure => first | (simp [intOf]; done) | (simp [intOf]; omega)
            · have hab2 : ¬ (a : Int) + 2 * k ≤ N := by omega
              by_cases hm : a + k < N
              · have hm2 : (a : Int) + k < N := by omega
                obtain ⟨l1, l2, rfl, g1, g3, g4, g5, g6⟩ := runs_one hrun (by omega) (by omega)
                obtain ⟨i1, i2⟩ := g5.two g6 g1
                have g2 : l2.length = N - (a + k) := by simp at hlen; omega
                have HE : Hid (d ++ (l1 ++ l2) = d ++ l1 ++ l2 ++ []) := by simp [Hid]
                rw [HE.out] at S
                have hlen2 : N = (d ++ l1 ++ l2 ++ []).length := by simp at hlen ⊢; omega
                have Hdl := Lib.hid hdl
                have Hlen := Lib.hid hlen
                have Hd := Lib.hid hd
                have Hrun := Lib.hid hrun
                have Hp3 := Lib.hid hp3
                have G1 := Lib.hid g1
                have G2 := Lib.hid g2
                have G3 := Lib.hid g3
                have G4 := Lib.hid g4
                have G5 := Lib.hid g5
                have G6 := Lib.hid g6
                have I1 := Lib.hid i1
                have I2 := Lib.hid i2
                have Hlen2 := Lib.hid hlen2
                clear hdl hlen hd hrun hp3 g1 g2 g3 g4 g5 g6 i1 i2 hlen2
                go_wp2_with first | (go_at_call 121; obtain ⟨Fz, hF, hBk⟩ := S.lend1 0 rfl rfl; refine Calls.mono (sym_calls R c N a (a + k) N d l1 l2 [] _ _ hF Hlen2.out Hdl.out.symm (by have := G1.out; omega) (by have := G2.out; omega) (by have := G1.out; omega) (by have := G2.out; omega) G3.out G4.out I2.out hn) ?_; rintro e wz ⟨rfl, ys, ⟨s, hs1, hs2, rfl⟩, T⟩; replace S := hBk _ _ rfl T; clear hBk hF T; simp only [List.set_cons_zero] at S) | ((with_reducible refine tot_done ?ht ?_); (case ht => kernel_rfl))
                have hsl := hs1.length_eq
                go_roundw
                case rel => exact ⟨2 * k, d ++ s ++ [], by go_num, by omega, by omega, by rw [List.append_nil]; exact Hd.out.go _ (.last (by rw [hsl, List.length_append, G1.out, G2.out]; omega) hs2 (I1.out.perm hs1)), by rw [List.append_nil]; exact (hs1.append_left d).trans Hp3.out, S⟩
                case measure => first | (simp [intOf]; done) | (simp [intOf]; omega)
              · have hm2 : ¬ (a : Int) + k < N := by omega
                obtain ⟨g1, g2⟩ := runs_srt hrun (by omega)
                have HRun : Hid (Runs (2 * k) 0 (d ++ r)) := hd.go _ (.last (by omega) g1 g2)
                have Hdl := Lib.hid hdl
                have Hlen := Lib.hid hlen
                have Hd := Lib.hid hd
                have Hrun := Lib.hid hrun
                have Hp3 := Lib.hid hp3
                have G1 := Lib.hid g1
                have G2 := Lib.hid g2
                clear hdl hlen hd hrun hp3 g1 g2
                go_wp2_with first | ((with_reducible refine tot_done ?ht ?_); (case ht => kernel_rfl))
                go_roundw
                case rel => exact ⟨2 * k, d ++ r, by go_num, by omega, by omega, HRun.out, Hp3.out, S⟩
                case measure => first | (simp [intOf]; done) | (simp [intOf]; omega)
        · have hkN2 : ¬ (k : Int) < N := by omega
          have HS := Lib.hid (runs_srt hrun (by omega)).1
          have Hrun := Lib.hid hrun
          have Hp2 := Lib.hid hp2
          have Hyl := Lib.hid hyl
          clear hp2 hyl
          clear hrun
          go_wp2_with first | ((with_reducible refine tot_done ?ht ?_); (case ht => kernel_rfl))
          go_end0
          exact ⟨rfl, ys, Hp2.out, HS.out, S⟩
set_option maxRecDepth 100000 in
set_option maxHeartbeats 4000000 in
theorem stableF_calls (R c N : Nat) (l : List Event) (w : World) (F : Nat → Prop) (h : (Own 56 tcells 7 (.slice (some ⟨R, 0, none⟩) N c) (tag l)).at_ w F) (hN : N = l.length) (hn : N ≤ 65536) :
    Calls Tryz.prog 67 #[.slice (some ⟨R, 0, none⟩) N c, .func (.func 68) #[] #[]] w (StabPost F R c N (tag l) w) := by
  have S := St.one w h
  clear h
  have HN := Lib.hid hN
  clear hN
  go_enter Tryz.func67, Tryz.ntmps67
  go_wp2_with first | (go_at_call 101; obtain ⟨Fz, hF, hBk⟩ := S.lend1 0 rfl rfl; refine Calls.mono (stable_calls R c N l _ _ hF HN.out hn) ?_; rintro e wz ⟨rfl, ys, hy1, hy2, T⟩; replace S := hBk _ _ rfl T; clear hBk hF T; simp only [List.set_cons_zero] at S) | ((with_reducible refine tot_done ?ht ?_); (case ht => kernel_rfl))
  go_end0
  exact ⟨rfl, ys, hy1, hy2, S⟩
end Go.Proofs.YtcnfionnnpnplaaGreatDoor
/- The walk of keys.Sort. -/
namespace Go.Proofs.YtcnfionnnpnplaaGreatDoor
open Go Go.RowKit Reg Mem

theorem ecells : ∀ e : Event, e.cells.length = 7 := fun _ => rfl
theorem eone : ∀ e : Event, ∀ u ∈ e.cells, u.oneCell' = true := fun _ => by simp [Event.cells, Value.oneCell']
set_option maxRecDepth 100000 in
theorem elem_Ev : Elem Tryz.prog 48 56 7 56 := ⟨_, .agg #[.int .i64 0, .int .i64 0, .int .i64 0, .int .i64 0, .int .i64 0, .int .i64 0, .int .i64 0], Tryz.underlying48, rfl, by kernel_rfl, by kernel_rfl, by kernel_rfl, by kernel_rfl, by omega⟩
set_option maxRecDepth 100000 in
/-- slices.Clone. -/
theorem clone_Ev {ad : Option Addr} {n c : Nat} {xs : List _} (w : World) (F : Nat → Prop) (h : (Sl true Event.cells 7 (.slice ad n c) xs).at_ w F) (hn : xs.length ≤ 4294967296) :
    Calls Tryz.prog 58 #[.slice ad n c] w fun e w' => ∃ ad' c', e = .returned (.slice ad' xs.length c') ∧ (0 < xs.length → ∃ R, ad' = some ⟨R, 0, none⟩) ∧ St (fun _ => False) w w' [Own 56 Event.cells 7 (.slice ad' xs.length c') xs] := by
  have S : St (fun _ => False) w w [Sl true Event.cells 7 (.slice ad n c) xs] := (St.init _ w).share rfl rfl h
  have hq : ∀ (w : World) (a : Option Addr) (n c n' c' : Nat), (binOp .eql 48 (.slice a n c) (.slice none n' c')).run Tryz.prog w = .ok (.bool a.isNone) w := fun w a n c n' c' => Lib.run_eql_slice_nil w _ _ a n c n' c' Tryz.underlying48
  cases ad with
  | none =>
    have hx : xs = [] := by
      obtain ⟨a, c', e, h1, h2, _⟩ := h.1
      simp only [Value.slice.injEq] at e
      obtain ⟨rfl, rfl, rfl⟩ := e
      exact List.eq_nil_of_length_eq_zero (by have := h2 rfl; omega)
    subst hx
    go_enter Tryz.func58, Tryz.ntmps58
    go_wp2_with first | ((with_reducible refine tot_done ?ht ?_); (case ht => kernel_rfl))
    go_ret
    exact ⟨_, _, rfl, fun h => absurd h (by simp), ((S.nil 56 Event.cells 7).pick [0] rfl)⟩
  | some a0 =>
    go_enter Tryz.func58, Tryz.ntmps58
    go_wp2_with first | ((with_reducible apply wps_build0 (T := 48) (E := 56) Event.cells 7 S); (case hr => intro w; kernel_rfl); clear S; intro bz wz S) | ((with_reducible apply wps_appends elem_Ev ecells eone (by decide) S 0 (j := 1)); (case hx | hy | hi | hj => rfl); (case hl => first | omega | (simp; omega)); clear S; intro az nz cz wz hnz S; simp only [List.set_cons_zero] at S) | ((with_reducible refine tot_done ?ht ?_); (case ht => kernel_rfl))
    go_ret
    obtain rfl : nz = xs.length := by have := hnz.out; simp at this; omega
    simp only [List.nil_append] at S
    refine ⟨_, _, rfl, fun h0 => ?_, S.pick [0] rfl⟩
    obtain ⟨F, hF⟩ := S.get (i := 0) rfl
    rcases hF.1.2 with ⟨_, e⟩ | ⟨g, cap, cur, e, _⟩
    · omega
    · simp only [Value.slice.injEq] at e; exact ⟨g, e.1⟩
set_option maxRecDepth 100000 in
set_option maxHeartbeats 4000000 in
theorem insert0_calls (ad : Option Addr) (c : Nat) (cv : Value) (w : World) : Calls Tryz.prog 120 #[.slice ad 0 c, .int .i64 0, .int .i64 0, cv] w fun e w' => e = .returned (.tuple #[]) ∧ Below w.heap.size w w' := by
  have S := St.init (fun _ => False) w
  go_enter Tryz.func120, Tryz.ntmps120
  go_wp2_with first | go_skip | ((with_reducible refine wpList_skip ?hw ?_); (case hw => with_unfolding_all rfl); simp only [Act.put, List.setIfInBounds_toArray, List.set_cons_succ, List.set_cons_zero]) | ((with_reducible refine tot_done ?ht ?_); (case ht => kernel_rfl)) | ((with_reducible apply wps_text S); (case hm => kernel_rfl); (case hB => decide +kernel); clear S; intro wz S) | ((with_reducible apply wps_loada (T := 56) (k := 7) S 0); (case hx | hi => rfl); (case hk => exact Nat.le_of_ble_eq_true rfl); (case hT => decide +kernel)) | ((with_reducible apply wps_loada (T := 56) (k := 7) S 1); (case hx | hi => rfl); (case hk => exact Nat.le_of_ble_eq_true rfl); (case hT => decide +kernel)) | ((with_reducible apply wps_loada (T := 56) (k := 7) S 2); (case hx | hi => rfl); (case hk => exact Nat.le_of_ble_eq_true rfl); (case hT => decide +kernel)) | ((with_reducible apply wps_loada (T := 56) (k := 7) S 3); (case hx | hi => rfl); (case hk => exact Nat.le_of_ble_eq_true rfl); (case hT => decide +kernel))
  go_loopw [8, 9] (fun i _ wr => i = .int .i64 1 ∧ St (fun _ => False) w wr []) (fun _ _ _ => 0)
  case atStart => exact ⟨rfl, S⟩
  case round =>
    clear S
    obtain ⟨rfl, S⟩ := hrel
    go_wp2_with first | go_skip | ((with_reducible refine wpList_skip ?hw ?_); (case hw => with_unfolding_all rfl); simp only [Act.put, List.setIfInBounds_toArray, List.set_cons_succ, List.set_cons_zero]) | ((with_reducible refine tot_done ?ht ?_); (case ht => kernel_rfl)) | ((with_reducible apply wps_text S); (case hm => kernel_rfl); (case hB => decide +kernel); clear S; intro wz S) | ((with_reducible apply wps_loada (T := 56) (k := 7) S 0); (case hx | hi => rfl); (case hk => exact Nat.le_of_ble_eq_true rfl); (case hT => decide +kernel)) | ((with_reducible apply wps_loada (T := 56) (k := 7) S 1); (case hx | hi => rfl); (case hk => exact Nat.le_of_ble_eq_true rfl); (case hT => decide +kernel)) | ((with_reducible apply wps_loada (T := 56) (k := 7) S 2); (case hx | hi => rfl); (case hk => exact Nat.le_of_ble_eq_true rfl); (case hT => decide +kernel)) | ((with_reducible apply wps_loada (T := 56) (k := 7) S 3); (case hx | hi => rfl); (case hk => exact Nat.le_of_ble_eq_true rfl); (case hT => decide +kernel))
    go_end0
    exact ⟨rfl, S.below⟩
set_option maxRecDepth 100000 in
set_option maxHeartbeats 4000000 in
theorem stable0_calls (ad : Option Addr) (c : Nat) (cv : Value) (w : World) : Calls Tryz.prog 101 #[.slice ad 0 c, .int .i64 0, cv] w fun e w' => e = .returned (.tuple #[]) ∧ Below w.heap.size w w' := by
  have S := St.init (fun _ => False) w
  go_enter Tryz.func101, Tryz.ntmps101
  go_wp2_with first | ((with_reducible refine tot_done ?ht ?_); (case ht => kernel_rfl))
  go_loopw [7, 8] (fun a b wr => a = .int .i64 0 ∧ b = .int .i64 20 ∧ St (fun _ => False) w wr []) (fun _ _ _ => 0)
  case atStart => exact ⟨rfl, rfl, S⟩
  case round =>
    clear S
    obtain ⟨rfl, rfl, S⟩ := hrel
    go_wp2_with first | (go_at_call 120; refine Calls.mono (insert0_calls _ _ _ _) ?_; rintro e wz ⟨rfl, hE⟩; replace S := S.ext (Keep.of_below hE); clear hE) | ((with_reducible refine tot_done ?ht ?_); (case ht => kernel_rfl))
    go_loopw [6] (fun k wr => k = .int .i64 20 ∧ St (fun _ => False) w wr []) (fun _ _ => 0)
    case atStart => exact ⟨rfl, S⟩
    case round =>
      clear S
      obtain ⟨rfl, S⟩ := hrel
      go_wp2_with first | ((with_reducible refine tot_done ?ht ?_); (case ht => kernel_rfl))
      go_end0
      exact ⟨rfl, S.below⟩
set_option maxRecDepth 100000 in
set_option maxHeartbeats 4000000 in
theorem stableF0_calls (ad : Option Addr) (c : Nat) (cv : Value) (w : World) : Calls Tryz.prog 67 #[.slice ad 0 c, cv] w fun e w' => e = .returned (.tuple #[]) ∧ Below w.heap.size w w' := by
  have S := St.init (fun _ => False) w
  go_enter Tryz.func67, Tryz.ntmps67
  go_wp2_with first | (go_at_call 101; refine Calls.mono (stable0_calls _ _ _ _) ?_; rintro e wz ⟨rfl, hE⟩; replace S := S.ext (Keep.of_below hE); clear hE) | ((with_reducible refine tot_done ?ht ?_); (case ht => kernel_rfl))
  go_end0
  exact ⟨rfl, S.below⟩
theorem tag_flat (l : List Event) : flatE Event.cells l = flatE tcells (tag l) := by
  have e : tcells = fun x : TE => Event.cells x.1 := rfl
  conv => lhs; rw [← tag_map l]
  simp [flatE, e, List.flatMap_map]
theorem flat_tag (ys : List TE) : flatE tcells ys = flatE Event.cells (ys.map (·.1)) := by
  have e : tcells = fun x : TE => Event.cells x.1 := rfl
  simp [flatE, e, List.flatMap_map]
/-- What sorting leaves: a new list, in order. -/
def SortPost (l : List Event) (w : World) (e : Ending) (w' : World) : Prop :=
  ∃ ad c, e = .returned (.slice ad l.length c) ∧ St (fun _ => False) w w' [Own 56 Event.cells 7 (.slice ad l.length c) (sortE l)]
set_option maxRecDepth 100000 in
set_option maxHeartbeats 4000000 in
theorem sort_calls (v : Value) (l : List Event) (w : World) (F : Nat → Prop) (h : (Sl true Event.cells 7 v l).at_ w F) (hn : l.length ≤ 65536) : Calls Tryz.prog 44 #[v] w (SortPost l w) := by
  have S : St (fun _ => False) w w [Sl true Event.cells 7 v l] := (St.init _ w).share rfl rfl h
  obtain ⟨ad, cp, rfl, _⟩ := (S.sl 0 rfl).elim fun _ h => h.form
  clear h
  go_enter Tryz.func44, Tryz.ntmps44
  go_wp2_with first | ((with_reducible refine tot_done ?ht ?_); (case ht => kernel_rfl))
  refine Calls.mono (clone_Ev _ _ (S.get (i := 0) rfl).choose_spec (by omega)) ?_
  rintro e wz ⟨ad2, c2, rfl, hhd, T⟩
  replace S := S.join T rfl
  simp only [List.cons_append, List.nil_append] at S
  clear T
  by_cases h0 : l.length = 0
  · obtain rfl : l = [] := List.eq_nil_of_length_eq_zero h0
    clear hhd
    simp only [List.length_nil] at *
    go_wp2_with first | (go_at_call 67; refine Calls.mono (stableF0_calls _ _ _ _) ?_; rintro e wz ⟨rfl, hE⟩; replace S := S.ext (Keep.of_below hE); clear hE) | ((with_reducible refine tot_done ?ht ?_); (case ht => kernel_rfl))
    go_ret
    exact ⟨_, _, rfl, S.pick [0] rfl⟩
  · obtain ⟨R, rfl⟩ := hhd (by omega)
    clear hhd
    have S2 := S.conv 0 rfl (tag l) (tag_len l).symm (tag_flat l)
    clear S
    have S := S2
    clear S2
    simp only [List.set_cons_zero] at S
    go_wp2_with first | (go_at_call 67; obtain ⟨Fz, hF, hBk⟩ := S.lend1 0 rfl rfl; refine Calls.mono (stableF_calls R c2 l.length l _ _ hF rfl hn) ?_; rintro e wz ⟨rfl, ys, hy1, hy2, T⟩; replace S := hBk _ _ rfl T; clear hBk hF T; simp only [List.set_cons_zero] at S) | ((with_reducible refine tot_done ?ht ?_); (case ht => kernel_rfl))
    go_ret
    have e1 : l.length = ys.length := by rw [hy1.length_eq, tag_len]
    have S2 := S.conv 0 rfl (ys.map (·.1)) (by simp) (flat_tag ys)
    rw [sortE_of hy1 hy2] at S2
    simp only [List.set_cons_zero] at S2
    exact ⟨_, _, rfl, S2.pick [0] rfl⟩
end Go.Proofs.YtcnfionnnpnplaaGreatDoor
/- Plain: the total order of events (by key, then by process, kind and data); a list sorted by it; events of one key counted once. No program in sight. -/
namespace Go.Proofs.YtcnfionnnpnplaaGreatDoor
open Go

def Event.tup (e : Event) : Int × Int × Int × Int × Int × Int × Int := (e.key.at_, e.key.src, e.key.sent, e.key.no, e.dst, e.kind, e.data)
/-- a is ahead of b. -/
def evLt (a b : Event) : Prop :=
  a.key.at_ < b.key.at_ ∨ (a.key.at_ = b.key.at_ ∧ (a.key.src < b.key.src ∨ (a.key.src = b.key.src ∧ (a.key.sent < b.key.sent ∨ (a.key.sent = b.key.sent ∧ (a.key.no < b.key.no ∨ (a.key.no = b.key.no ∧
    (a.dst < b.dst ∨ (a.dst = b.dst ∧ (a.kind < b.kind ∨ (a.kind = b.kind ∧ a.data < b.data)))))))))))
instance (a b : Event) : Decidable (evLt a b) := by unfold evLt; infer_instance
/-- Put in its place: behind what is not behind it. -/
def insTot (x : Event) : List Event → List Event
  | [] => [x]
  | y :: l => if evLt x y then x :: y :: l else y :: insTot x l
def sortT (l : List Event) : List Event := l.foldl (fun s x => insTot x s) []
def UpT (l : List Event) : Prop := l.Pairwise fun a b => ¬ evLt b a
/-- Of events of one key that stand together the first one. -/
def onceFrom : Option Key → List Event → List Event
  | _, [] => []
  | k, x :: l => if k = some x.key then onceFrom k l else x :: onceFrom (some x.key) l
def once (l : List Event) : List Event := onceFrom none l
end Go.Proofs.YtcnfionnnpnplaaGreatDoor
/- Plain: the machine that runs a handler's program. No program in sight. -/
namespace Go.Proofs.YtcnfionnnpnplaaGreatDoor
open Go Go.RowKit Mem

structure Emit where
  dst : Int
  delay : Int
  kind : Int
  data : Int
  deriving DecidableEq
instance : Inhabited Emit := ⟨⟨0, 0, 0, 0⟩⟩
def Emit.cells (x : Emit) : List Value := [.int .i64 x.dst, .int .i64 x.delay, .int .i64 x.kind, .int .i64 x.data]
theorem emcells : ∀ e : Emit, e.cells.length = 4 := fun _ => rfl
theorem emone : ∀ e : Emit, ∀ u ∈ e.cells, u.oneCell' = true := fun _ => by simp [Emit.cells, Value.oneCell']
/-- A handler at work: its numbers (eight), the place, what it has sent. -/
structure Mach where
  cs : List Int
  at_ : Int
  sent : List Emit
def Mach.get (m : Mach) (a : Int) : Int := m.cs[a.toNat]?.getD 0
def Mach.put (m : Mach) (a v : Int) : Mach := { m with cs := m.cs.set a.toNat v }
def reckonE (op b c : Int) : Int :=
  if op = 4 then wrap64 (b + wrap64 (-c)) else if op = 3 then wrap64 (b + c) else if op = 5 then wrap64 (b * c) else if op = 6 then (if c ≠ 0 then b.tmod c else 0) else if op = 7 then (if b < c then 1 else 0) else 0
/-- What an instruction that may be does; the machine stands behind it. -/
def doE (e : Event) (fan : Int) (m : Mach) (x : Instr) : Mach :=
  if x.op = 1 then m.put x.a x.b
  else if x.op = 2 then m.put x.a (m.get x.b)
  else if 3 ≤ x.op ∧ x.op ≤ 7 then m.put x.a (reckonE x.op (m.get x.b) (m.get x.c))
  else if x.op = 8 then { m with at_ := x.a }
  else if x.op = 9 then (if m.get x.a = 0 then { m with at_ := x.b } else m)
  else if x.op = 10 then m.put x.a e.key.at_
  else if x.op = 11 then m.put x.a e.kind
  else if x.op = 12 then m.put x.a e.data
  else if x.op = 13 then m.put x.a e.dst
  else if x.op = 14 then (if (m.sent.length : Int) < fan then { m with sent := m.sent ++ [⟨m.get x.a, m.get x.b, x.d, m.get x.c⟩] } else m)
  else m
/-- One step, if there is one. -/
def stepE (p : List Instr) (e : Event) (fan : Int) (m : Mach) : Option Mach :=
  if m.at_ < 0 ∨ (p.length : Int) ≤ m.at_ then none
  else match p[m.at_.toNat]? with
    | none => none
    | some x => if x.op = 15 ∨ mayE x p.length ≠ 0 then none else some (doE e fan { m with at_ := m.at_ + 1 } x)
def stepsE (p : List Instr) (e : Event) (fan : Int) : Nat → Mach → Mach
  | 0, m => m
  | f + 1, m => match stepE p e fan m with
    | none => m
    | some n => stepsE p e fan f n
def startE (s : State) : Mach := ⟨[s.n0, s.n1, s.n2, s.n3, 0, 0, 0, 0], 0, []⟩
theorem ite_len {c : Prop} [Decidable c] {a b : Mach} {n : Nat} (ha : a.cs.length = n) (hb : b.cs.length = n) : (if c then a else b).cs.length = n := by split <;> assumption
theorem doE_len (e : Event) (fan : Int) (m : Mach) (x : Instr) : (doE e fan m x).cs.length = m.cs.length := by
  unfold doE
  repeat' apply ite_len
  all_goals first | rfl | (unfold Mach.put; exact List.length_set)
/-- The cells of a machine. -/
def machCells (e : Event) (vp : Value) (m : Mach) (fan : Int) (vs : Value) : Array Value :=
  (e.cells ++ vp :: (m.cs.map (Value.int .i64) ++ [.int .i64 m.at_, .int .i64 fan, vs])).toArray
section
variable {e : Event} {vp vs u : Value} {m : Mach} {fan : Int}
theorem mach_ev {q : Nat} (hq : q < 7) (hu : e.cells[q]? = some u) : (machCells e vp m fan vs)[q]? = some u := by
  unfold machCells
  simp only [List.getElem?_toArray]
  rw [List.getElem?_append_left (by simpa [Event.cells] using hq)]; exact hu
theorem mach_prog : (machCells e vp m fan vs)[7]? = some vp := by simp [machCells, Event.cells]
theorem mach_cell (h8 : m.cs.length = 8) {a : Nat} (ha : a < 8) : (machCells e vp m fan vs)[8 + a]? = some (.int .i64 (m.get a)) := by
  unfold machCells Mach.get
  simp only [List.getElem?_toArray]
  rw [List.getElem?_append_right (by simp [Event.cells]; omega), show 8 + a - e.cells.length = a + 1 by simp [Event.cells]; omega, List.getElem?_cons_succ, List.getElem?_append_left (by simp [h8]; exact ha), List.getElem?_map]
  have : m.cs[a]? = some m.cs[a] := List.getElem?_eq_getElem (by omega)
  simp [this]
theorem mach_at (h8 : m.cs.length = 8) : (machCells e vp m fan vs)[16]? = some (.int .i64 m.at_) := by
  unfold machCells
  simp only [List.getElem?_toArray]
  rw [List.getElem?_append_right (by simp [Event.cells]), show 16 - e.cells.length = 8 + 1 by simp [Event.cells], List.getElem?_cons_succ, List.getElem?_append_right (by simp [h8])]
  simp [h8]
theorem mach_fan (h8 : m.cs.length = 8) : (machCells e vp m fan vs)[17]? = some (.int .i64 fan) := by
  unfold machCells
  simp only [List.getElem?_toArray]
  rw [List.getElem?_append_right (by simp [Event.cells]), show 17 - e.cells.length = 9 + 1 by simp [Event.cells], List.getElem?_cons_succ, List.getElem?_append_right (by simp [h8])]
  simp [h8]
theorem mach_sent (h8 : m.cs.length = 8) : (machCells e vp m fan vs)[18]? = some vs := by
  unfold machCells
  simp only [List.getElem?_toArray]
  rw [List.getElem?_append_right (by simp [Event.cells]), show 18 - e.cells.length = 10 + 1 by simp [Event.cells], List.getElem?_cons_succ, List.getElem?_append_right (by simp [h8])]
  simp [h8]
theorem mach_size (h8 : m.cs.length = 8) : (machCells e vp m fan vs).size = 19 := by simp [machCells, Event.cells, h8]
theorem mach_put (h8 : m.cs.length = 8) {a : Nat} (ha : a < 8) (v : Int) : (machCells e vp m fan vs).setIfInBounds (8 + a) (.int .i64 v) = machCells e vp (m.put a v) fan vs := by
  unfold machCells Mach.put
  rw [List.setIfInBounds_toArray]
  congr 1
  rw [List.set_append_right _ _ (by simp [Event.cells]; omega), show 8 + a - e.cells.length = a + 1 by simp [Event.cells]; omega, List.set_cons_succ, List.set_append_left _ _ (by simp [h8]; exact ha), List.map_set]
  simp
theorem mach_setat (h8 : m.cs.length = 8) (v : Int) : (machCells e vp m fan vs).setIfInBounds 16 (.int .i64 v) = machCells e vp { m with at_ := v } fan vs := by
  unfold machCells
  rw [List.setIfInBounds_toArray]
  congr 1
  rw [List.set_append_right _ _ (by simp [Event.cells]), show 16 - e.cells.length = 8 + 1 by simp [Event.cells], List.set_cons_succ, List.set_append_right _ _ (by simp [h8])]
  simp [h8]
theorem mach_setsent (h8 : m.cs.length = 8) (v : Value) (l : List Emit) : (machCells e vp m fan vs).setIfInBounds 18 v = machCells e vp { m with sent := l } fan v := by
  unfold machCells
  rw [List.setIfInBounds_toArray]
  congr 1
  rw [List.set_append_right _ _ (by simp [Event.cells]), show 18 - e.cells.length = 10 + 1 by simp [Event.cells], List.set_cons_succ, List.set_append_right _ _ (by simp [h8])]
  simp [h8]
end
end Go.Proofs.YtcnfionnnpnplaaGreatDoor
/- The walk of vm.reckon. -/
namespace Go.Proofs.YtcnfionnnpnplaaGreatDoor
open Go Go.RowKit Reg Mem

set_option maxRecDepth 100000 in
theorem reckon_calls (op b c : Int) (hop : 3 ≤ op ∧ op ≤ 7) (w : World) : Calls Tryz.prog 135 #[.int .i64 op, .int .i64 b, .int .i64 c] w fun r w' => r = .returned (.int .i64 (reckonE op b c)) ∧ Below w.heap.size w w' := by
  have S := St.init (fun _ => False) w
  obtain rfl | rfl | rfl | rfl | rfl : op = 3 ∨ op = 4 ∨ op = 5 ∨ op = 6 ∨ op = 7 := by omega
  · skip
    go_enter Tryz.func135, Tryz.ntmps135
    go_wp2_with first | ((with_reducible refine tot_done ?ht ?_); (case ht => kernel_rfl))
    go_ret
    exact ⟨ret_int (by simp [reckonE]), S.below⟩
  · skip
    go_enter Tryz.func135, Tryz.ntmps135
    go_wp2_with first | ((with_reducible refine tot_done ?ht ?_); (case ht => kernel_rfl))
    go_ret
    exact ⟨ret_int (by simp [reckonE]), S.below⟩
  · skip
    go_enter Tryz.func135, Tryz.ntmps135
    go_wp2_with first | ((with_reducible refine tot_done ?ht ?_); (case ht => kernel_rfl))
    go_ret
    exact ⟨ret_int (by simp [reckonE]), S.below⟩
  · by_cases h0 : c = 0
    · subst h0
      go_enter Tryz.func135, Tryz.ntmps135
      go_wp2_with first | ((with_reducible refine tot_done ?ht ?_); (case ht => kernel_rfl))
      go_ret
      exact ⟨ret_int (by simp [reckonE]), S.below⟩
    · have h1 : (c != 0) = true := by simpa using h0
      have HR := Lib.hid (show reckonE 6 b c = b.tmod c by simp [reckonE, h0])
      go_enter Tryz.func135, Tryz.ntmps135
      go_wp2_with first | ((with_reducible refine tot_done ?ht ?_); (case ht => kernel_rfl))
      go_ret
      exact ⟨ret_int HR.out.symm, S.below⟩
  · by_cases h0 : b < c
    · have HR := Lib.hid (show reckonE 7 b c = 1 by simp [reckonE, h0])
      go_enter Tryz.func135, Tryz.ntmps135
      go_wp2_with first | ((with_reducible refine tot_done ?ht ?_); (case ht => kernel_rfl))
      go_ret
      exact ⟨ret_int HR.out.symm, S.below⟩
    · have HR := Lib.hid (show reckonE 7 b c = 0 by simp [reckonE, h0])
      go_enter Tryz.func135, Tryz.ntmps135
      go_wp2_with first | ((with_reducible refine tot_done ?ht ?_); (case ht => kernel_rfl))
      go_ret
      exact ⟨ret_int HR.out.symm, S.below⟩
end Go.Proofs.YtcnfionnnpnplaaGreatDoor
/- A region that draws its order, beside things that its hard operations turn. Over any program. -/
namespace Go.Proofs.YtcnfionnnpnplaaGreatDoor.Mem
open Go Go.RowKit Reg
section
variable {P : Program} {ops : Array Oper} {Q : Exit → Act → World → Prop} {G : Nat → Prop} {w0 : World} {L : List Asn}
theorem wp_region_wt {id : Nat} {soft : List Nat} {a : Act} {w : World} {T : List Asn} (S : St G w0 w (L ++ T)) (hm : P.follows .mixedOrders = true) (hB : softB ops soft = true)
    (h : Softs P ops Q G w0 L (fun A => W P ops Q G w0 L (ops.size - soft.length) T (after soft (Array.replicate ops.size false)) A) soft a) : (Code.region id ops true).wp P Q a w := by
  simp only [softB, Bool.and_eq_true] at hB
  have hc : Closed .any ops (Array.replicate ops.size false) := fun j oj _ hl => by
    rw [Array.getD_eq_getD_getElem?] at hl
    by_cases hj : j < ops.size
    · rw [Array.getElem?_replicate, if_pos hj] at hl; cases hl
    · rw [Array.getElem?_replicate, if_neg hj] at hl; cases hl
  have hle := Nat.le_of_ble_eq_true hB.2
  have := W_softs hB.1.1 soft (ops.size - soft.length) T _ a hc hB.1.2 h
  rw [show ops.size - soft.length + soft.length = ops.size by omega] at this
  exact wp_region_any hm (W_any _ T _ a _ this (S.ext (keep_drew w)))
end
end Go.Proofs.YtcnfionnnpnplaaGreatDoor.Mem
/- The walks of model.Check and New. -/
namespace Go.Proofs.YtcnfionnnpnplaaGreatDoor
open Go Go.RowKit Reg Mem

set_option maxRecDepth 100000 in
theorem elem_In : Elem Tryz.prog 80 79 5 40 := ⟨_, .agg #[.int .i64 0, .int .i64 0, .int .i64 0, .int .i64 0, .int .i64 0], Tryz.underlying80, rfl, by kernel_rfl, by kernel_rfl, by kernel_rfl, by kernel_rfl, by omega⟩
set_option maxRecDepth 100000 in
theorem elem_Pl : Elem Tryz.prog 23 82 5 40 := ⟨_, .agg #[.int .i64 0, .int .i64 0, .int .i64 0, .int .i64 0, .int .i64 0], Tryz.underlying23, rfl, by kernel_rfl, by kernel_rfl, by kernel_rfl, by kernel_rfl, by omega⟩
set_option maxRecDepth 100000 in
theorem elem_Sta : Elem Tryz.prog 24 84 4 32 := ⟨_, .agg #[.int .i64 0, .int .i64 0, .int .i64 0, .int .i64 0], Tryz.underlying24, rfl, by kernel_rfl, by kernel_rfl, by kernel_rfl, by kernel_rfl, by omega⟩
set_option maxRecDepth 100000 in
/-- slices.Clone. -/
theorem clone_In {ad : Option Addr} {n c : Nat} {xs : List _} (w : World) (F : Nat → Prop) (h : (Sl true Instr.cells 5 (.slice ad n c) xs).at_ w F) (hn : xs.length ≤ 4294967296) :
    Calls Tryz.prog 53 #[.slice ad n c] w fun e w' => ∃ ad' c', e = .returned (.slice ad' xs.length c') ∧ (0 < xs.length → ∃ R, ad' = some ⟨R, 0, none⟩) ∧ St (fun _ => False) w w' [Own 79 Instr.cells 5 (.slice ad' xs.length c') xs] := by
  have S : St (fun _ => False) w w [Sl true Instr.cells 5 (.slice ad n c) xs] := (St.init _ w).share rfl rfl h
  have hq : ∀ (w : World) (a : Option Addr) (n c n' c' : Nat), (binOp .eql 80 (.slice a n c) (.slice none n' c')).run Tryz.prog w = .ok (.bool a.isNone) w := fun w a n c n' c' => Lib.run_eql_slice_nil w _ _ a n c n' c' Tryz.underlying80
  cases ad with
  | none =>
    have hx : xs = [] := by
      obtain ⟨a, c', e, h1, h2, _⟩ := h.1
      simp only [Value.slice.injEq] at e
      obtain ⟨rfl, rfl, rfl⟩ := e
      exact List.eq_nil_of_length_eq_zero (by have := h2 rfl; omega)
    subst hx
    go_enter Tryz.func53, Tryz.ntmps53
    go_wp2_with first | ((with_reducible refine tot_done ?ht ?_); (case ht => kernel_rfl))
    go_ret
    exact ⟨_, _, rfl, fun h => absurd h (by simp), ((S.nil 79 Instr.cells 5).pick [0] rfl)⟩
  | some a0 =>
    go_enter Tryz.func53, Tryz.ntmps53
    go_wp2_with first | ((with_reducible apply wps_build0 (T := 80) (E := 79) Instr.cells 5 S); (case hr => intro w; kernel_rfl); clear S; intro bz wz S) | ((with_reducible apply wps_appends elem_In incells inone (by decide) S 0 (j := 1)); (case hx | hy | hi | hj => rfl); (case hl => first | omega | (simp; omega)); clear S; intro az nz cz wz hnz S; simp only [List.set_cons_zero] at S) | ((with_reducible refine tot_done ?ht ?_); (case ht => kernel_rfl))
    go_ret
    obtain rfl : nz = xs.length := by have := hnz.out; simp at this; omega
    simp only [List.nil_append] at S
    refine ⟨_, _, rfl, fun h0 => ?_, S.pick [0] rfl⟩
    obtain ⟨F, hF⟩ := S.get (i := 0) rfl
    rcases hF.1.2 with ⟨_, e⟩ | ⟨g, cap, cur, e, _⟩
    · omega
    · simp only [Value.slice.injEq] at e; exact ⟨g, e.1⟩
set_option maxRecDepth 100000 in
/-- slices.Clone. -/
theorem clone_Pl {ad : Option Addr} {n c : Nat} {xs : List _} (w : World) (F : Nat → Prop) (h : (Sl true Place.cells 5 (.slice ad n c) xs).at_ w F) (hn : xs.length ≤ 4294967296) :
    Calls Tryz.prog 54 #[.slice ad n c] w fun e w' => ∃ ad' c', e = .returned (.slice ad' xs.length c') ∧ (0 < xs.length → ∃ R, ad' = some ⟨R, 0, none⟩) ∧ St (fun _ => False) w w' [Own 82 Place.cells 5 (.slice ad' xs.length c') xs] := by
  have S : St (fun _ => False) w w [Sl true Place.cells 5 (.slice ad n c) xs] := (St.init _ w).share rfl rfl h
  have hq : ∀ (w : World) (a : Option Addr) (n c n' c' : Nat), (binOp .eql 23 (.slice a n c) (.slice none n' c')).run Tryz.prog w = .ok (.bool a.isNone) w := fun w a n c n' c' => Lib.run_eql_slice_nil w _ _ a n c n' c' Tryz.underlying23
  cases ad with
  | none =>
    have hx : xs = [] := by
      obtain ⟨a, c', e, h1, h2, _⟩ := h.1
      simp only [Value.slice.injEq] at e
      obtain ⟨rfl, rfl, rfl⟩ := e
      exact List.eq_nil_of_length_eq_zero (by have := h2 rfl; omega)
    subst hx
    go_enter Tryz.func54, Tryz.ntmps54
    go_wp2_with first | ((with_reducible refine tot_done ?ht ?_); (case ht => kernel_rfl))
    go_ret
    exact ⟨_, _, rfl, fun h => absurd h (by simp), ((S.nil 82 Place.cells 5).pick [0] rfl)⟩
  | some a0 =>
    go_enter Tryz.func54, Tryz.ntmps54
    go_wp2_with first | ((with_reducible apply wps_build0 (T := 23) (E := 82) Place.cells 5 S); (case hr => intro w; kernel_rfl); clear S; intro bz wz S) | ((with_reducible apply wps_appends elem_Pl plcells plone (by decide) S 0 (j := 1)); (case hx | hy | hi | hj => rfl); (case hl => first | omega | (simp; omega)); clear S; intro az nz cz wz hnz S; simp only [List.set_cons_zero] at S) | ((with_reducible refine tot_done ?ht ?_); (case ht => kernel_rfl))
    go_ret
    obtain rfl : nz = xs.length := by have := hnz.out; simp at this; omega
    simp only [List.nil_append] at S
    refine ⟨_, _, rfl, fun h0 => ?_, S.pick [0] rfl⟩
    obtain ⟨F, hF⟩ := S.get (i := 0) rfl
    rcases hF.1.2 with ⟨_, e⟩ | ⟨g, cap, cur, e, _⟩
    · omega
    · simp only [Value.slice.injEq] at e; exact ⟨g, e.1⟩
set_option maxRecDepth 100000 in
/-- slices.Clone. -/
theorem clone_Sta {ad : Option Addr} {n c : Nat} {xs : List _} (w : World) (F : Nat → Prop) (h : (Sl true Start.cells 4 (.slice ad n c) xs).at_ w F) (hn : xs.length ≤ 4294967296) :
    Calls Tryz.prog 55 #[.slice ad n c] w fun e w' => ∃ ad' c', e = .returned (.slice ad' xs.length c') ∧ (0 < xs.length → ∃ R, ad' = some ⟨R, 0, none⟩) ∧ St (fun _ => False) w w' [Own 84 Start.cells 4 (.slice ad' xs.length c') xs] := by
  have S : St (fun _ => False) w w [Sl true Start.cells 4 (.slice ad n c) xs] := (St.init _ w).share rfl rfl h
  have hq : ∀ (w : World) (a : Option Addr) (n c n' c' : Nat), (binOp .eql 24 (.slice a n c) (.slice none n' c')).run Tryz.prog w = .ok (.bool a.isNone) w := fun w a n c n' c' => Lib.run_eql_slice_nil w _ _ a n c n' c' Tryz.underlying24
  cases ad with
  | none =>
    have hx : xs = [] := by
      obtain ⟨a, c', e, h1, h2, _⟩ := h.1
      simp only [Value.slice.injEq] at e
      obtain ⟨rfl, rfl, rfl⟩ := e
      exact List.eq_nil_of_length_eq_zero (by have := h2 rfl; omega)
    subst hx
    go_enter Tryz.func55, Tryz.ntmps55
    go_wp2_with first | ((with_reducible refine tot_done ?ht ?_); (case ht => kernel_rfl))
    go_ret
    exact ⟨_, _, rfl, fun h => absurd h (by simp), ((S.nil 84 Start.cells 4).pick [0] rfl)⟩
  | some a0 =>
    go_enter Tryz.func55, Tryz.ntmps55
    go_wp2_with first | ((with_reducible apply wps_build0 (T := 24) (E := 84) Start.cells 4 S); (case hr => intro w; kernel_rfl); clear S; intro bz wz S) | ((with_reducible apply wps_appends elem_Sta stcells stone (by decide) S 0 (j := 1)); (case hx | hy | hi | hj => rfl); (case hl => first | omega | (simp; omega)); clear S; intro az nz cz wz hnz S; simp only [List.set_cons_zero] at S) | ((with_reducible refine tot_done ?ht ?_); (case ht => kernel_rfl))
    go_ret
    obtain rfl : nz = xs.length := by have := hnz.out; simp at this; omega
    simp only [List.nil_append] at S
    refine ⟨_, _, rfl, fun h0 => ?_, S.pick [0] rfl⟩
    obtain ⟨F, hF⟩ := S.get (i := 0) rfl
    rcases hF.1.2 with ⟨_, e⟩ | ⟨g, cap, cur, e, _⟩
    · omega
    · simp only [Value.slice.injEq] at e; exact ⟨g, e.1⟩
set_option maxRecDepth 100000 in
theorem zero_Hdr : zeroIs Tryz.prog 80 1 (vcell (.slice none 0 0)) := ⟨_, .slice none 0 0, rfl, by kernel_rfl, by kernel_rfl, rfl, by decide⟩
theorem within_or (n a b : Int) : withinE n a b = 0 ∨ withinE n a b = 10 := by unfold withinE; split <;> simp
theorem within_iff {n a b : Int} : withinE n a b = 0 ↔ a ≤ n ∧ n ≤ b := by
  unfold withinE; split <;> simp <;> omega
theorem sizes_eq (c : Cfg) : firstE [withinE c.lps.length 1 32, withinE c.programs.length 1 32, withinE c.fin 1 1073741824, withinE c.fuel 1 1024, withinE c.fan 0 8] = sizesE c := by
  obtain ⟨l, hl⟩ : ∃ l, [withinE c.lps.length 1 32, withinE c.programs.length 1 32, withinE c.fin 1 1073741824, withinE c.fuel 1 1024, withinE c.fan 0 8] = l := ⟨_, rfl⟩
  have hz : firstE l = 0 ↔ sizesOk c := by
    rw [firstE_zero, ← hl]
    simp only [List.mem_cons, List.not_mem_nil, or_false, forall_eq_or_imp, forall_eq, within_iff, sizesOk]
    omega
  rw [hl]
  unfold sizesE
  split
  · exact hz.2 ‹_›
  · rcases firstE_mem l with h | h
    · exact absurd (hz.1 h) ‹_›
    · have hn : firstE l ≠ 0 := fun h => absurd (hz.1 h) ‹_›
      rw [← hl] at h
      simp only [List.mem_cons, List.not_mem_nil, or_false] at h
      rw [hl] at h
      rcases h with h | h | h | h | h <;> rw [h] at hn ⊢
      · exact (within_or _ _ _).resolve_left hn
      · exact (within_or _ _ _).resolve_left hn
      · exact (within_or _ _ _).resolve_left hn
      · exact (within_or _ _ _).resolve_left hn
      · exact (within_or _ _ _).resolve_left hn
structure Mid (c : Cfg) : Prop where
  p : c.programs.length ≤ 65536
  l : c.lps.length ≤ 65536
  s : c.starts.length ≤ 65536
set_option maxRecDepth 100000 in
set_option maxHeartbeats 4000000 in
theorem mcheck_calls (vs hs : List Value) (c : Cfg) (w : World) (F F2 : Nat → Prop) (h : (CfgA true vs hs c).at_ w F) (ht : Tab.at_ w F2) (hm : Mid c) :
    Calls Tryz.prog 52 #[.agg vs.toArray] w fun r w' => r = .returned (.int .i64 (cfgE c)) ∧ Below w.heap.size w w' := by
  have S : St (fun _ => False) w w [CfgA true vs hs c, Tab] := ((St.init _ w).share rfl rfl ht).share rfl rfl h
  obtain ⟨aP, cP, aL, cL, aS, cS, rfl, hlen, S⟩ := S.cfg 0 rfl
  replace S := S.pick [0, 1, 2, 3, 5] rfl
  simp only [pick, nth] at S
  clear h ht
  have hm1 := hm.p
  have hm2 := hm.l
  have hm3 := hm.s
  obtain ⟨ps, ls, ss, fin, fuel, fan⟩ := c
  simp only at *
  obtain ⟨r, hr⟩ : ∃ r, cfgE ⟨ps, ls, ss, fin, fuel, fan⟩ = r := ⟨_, rfl⟩
  have hq := sizes_eq ⟨ps, ls, ss, fin, fuel, fan⟩
  simp only at hq
  have e : firstE [firstE [withinE ls.length 1 32, withinE ps.length 1 32, withinE fin 1 1073741824, withinE fuel 1 1024, withinE fan 0 8], (if 256 < ss.length then 11 else 0), firstE (ps.map codeE),
      (if (∀ p ∈ ls, plOk ps.length p) ∧ (∀ s ∈ ss, stOk ls.length s) then 0 else 14), (if ∀ s ∈ ss, 0 ≤ s.at_ ∧ s.at_ ≤ fin then 0 else 18)] = r := by
    rw [← hr, hq]; rfl
  rw [hr]
  obtain ⟨x1, hx1⟩ : ∃ x, firstE [withinE ls.length 1 32, withinE ps.length 1 32, withinE fin 1 1073741824, withinE fuel 1 1024, withinE fan 0 8] = x := ⟨_, rfl⟩
  obtain ⟨x2, hx2⟩ : ∃ x : Int, (if 256 < ss.length then 11 else 0) = x := ⟨_, rfl⟩
  obtain ⟨x3, hx3⟩ : ∃ x, firstE (ps.map codeE) = x := ⟨_, rfl⟩
  obtain ⟨x4, hx4⟩ : ∃ x : Int, (if (∀ p ∈ ls, plOk ps.length p) ∧ (∀ s ∈ ss, stOk ls.length s) then 0 else 14) = x := ⟨_, rfl⟩
  obtain ⟨x5, hx5⟩ : ∃ x : Int, (if ∀ s ∈ ss, 0 ≤ s.at_ ∧ s.at_ ≤ fin then 0 else 18) = x := ⟨_, rfl⟩
  have c1 := sizes_calls aP aL aS ps.length cP ls.length cL ss.length cS fin fuel fan
  have c2 := starts_calls aP aL aS ps.length cP ls.length cL ss.length cS fin fuel fan
  have c3 := fun w F1 F2 F3 h1 h2 h3 => programs_calls aP aL aS cP ls.length cL ss.length cS fin fuel fan hs ps w F1 F2 F3 h1 h2 h3 hm1
  have c4 := fun w F1 F2 h1 h2 => ends_calls aP aL aS ps.length cP cL cS fin fuel fan ls ss w F1 F2 h1 h2 hm2 hm3
  have c5 := fun w F1 h1 => times_calls aP aL aS ps.length cP ls.length cL cS fin fuel fan ss w F1 h1 hm3
  rw [hx1] at c1 e
  rw [hx2] at c2 e
  rw [hx3] at c3 e
  rw [hx4] at c4 e
  rw [hx5] at c5 e
  clear hx1 hx2 hx3 hx4 hx5 hr hq
  have C1 := Lib.hid c1
  have C2 := Lib.hid c2
  have C3 := Lib.hid c3
  have C4 := Lib.hid c4
  have C5 := Lib.hid c5
  have E := Lib.hid e
  clear c1 c2 c3 c4 c5 e
  go_enter Tryz.func52, Tryz.ntmps52
  go_wp2_with first | ((with_reducible apply wps_boxa S); (case hx => rfl); clear S; intro bx wz S) | ((with_reducible refine tot_done ?ht ?_); (case ht => kernel_rfl)) | ((with_reducible apply wps_boxa S); (case hx => rfl); clear S; intro bz wz S) | ((with_reducible apply wps_box1 (v := .int _ _) S); (case hx | h1 => rfl); clear S; intro bz wz S) | ((with_reducible apply wps_box1 (v := .bool _) S); (case hx | h1 => rfl); clear S; intro bz wz S) | ((with_reducible apply wps_box1 (v := .slice _ _ _) S); (case hx | h1 => rfl); clear S; intro bz wz S) | ((with_reducible apply wps_box1 (v := .pointer _) S); (case hx | h1 => rfl); clear S; intro bz wz S) | ((with_reducible apply wps_box1 (v := .map _) S); (case hx | h1 => rfl); clear S; intro bz wz S) | ((with_reducible apply wps_box1 (v := .string _) S); (case hx | h1 => rfl); clear S; intro bz wz S) | ((with_reducible apply wps_box1 (v := .func _ _ _) S); (case hx | h1 => rfl); clear S; intro bz wz S) | ((with_reducible apply wps_loada (T := 26) (k := 6) S 0); (case hx | hi => rfl); (case hk => exact Nat.le_of_ble_eq_true rfl); (case hT => decide +kernel))
  (refine wp_region_w (soft := [0, 1, 2, 3, 4, 5, 6, 7, 8, 9]) S ?hm ?hB ?_); (case hm => kernel_rfl); (case hB => decide +kernel); clear S
  iterate 10
    (with_reducible apply softs_cons)
    (case hw =>
      (with_reducible apply soft_of); (case hi => rfl)
      intro T wz S
      simp only [List.cons_append, List.nil_append] at S
      go_wp2_with first | (go_at_call 76; refine Calls.mono (C1.out _) ?_; rintro e wz ⟨rfl, hE⟩; replace S := S.ext (Keep.of_below hE); clear hE) | (go_at_call 77; refine Calls.mono (C2.out _) ?_; rintro e wz ⟨rfl, hE⟩; replace S := S.ext (Keep.of_below hE); clear hE) | (go_at_call 78; refine Calls.mono (C3.out _ _ _ _ (S.get (i := 2) rfl).choose_spec (S.get (i := 1) rfl).choose_spec (S.get (i := 5) rfl).choose_spec) ?_; rintro e wz ⟨rfl, hE⟩; replace S := S.ext (Keep.of_below hE); clear hE) | (go_at_call 79; refine Calls.mono (C4.out _ _ _ (S.get (i := 3) rfl).choose_spec (S.get (i := 4) rfl).choose_spec) ?_; rintro e wz ⟨rfl, hE⟩; replace S := S.ext (Keep.of_below hE); clear hE) | (go_at_call 80; refine Calls.mono (C5.out _ _ (S.get (i := 4) rfl).choose_spec) ?_; rintro e wz ⟨rfl, hE⟩; replace S := S.ext (Keep.of_below hE); clear hE) | ((with_reducible refine tot_done ?ht ?_); (case ht => kernel_rfl)) | ((with_reducible apply wps_loada (T := 26) (k := 6) S 0); (case hx | hi => rfl); (case hk => exact Nat.le_of_ble_eq_true rfl); (case hT => decide +kernel))
      exact ⟨rfl, S⟩)
    (case hs => exact ⟨_, rfl, by kernel_rfl⟩)
  refine softs_nil ?_
  repeat'
    (first
      | ((with_reducible apply W_hard1 (i := 10)); (case hn => rfl); (case hr => decide +kernel)) | ((with_reducible apply W_hard1 (i := 11)); (case hn => rfl); (case hr => decide +kernel)) | ((with_reducible apply W_hard1 (i := 12)); (case hn => rfl); (case hr => decide +kernel)) | ((with_reducible apply W_hard2 (i := 10) (i' := 11)); (case hn => rfl); (case hr => decide +kernel)) | ((with_reducible apply W_hard2 (i := 10) (i' := 12)); (case hn => rfl); (case hr => decide +kernel)) | ((with_reducible apply W_hard2 (i := 11) (i' := 12)); (case hn => rfl); (case hr => decide +kernel)))
    all_goals
      intro wz S
      (with_reducible apply hard_of); (case hi => rfl)
      simp only [List.cons_append, List.nil_append] at S
      try simp only [pick, nth] at S
      go_wp2_with first | ((with_reducible apply wps_buildSlice (T := 192) (E := 41) (cs := #[.int .i64 x1, .int .i64 x2, .int .i64 x3, .int .i64 x4, .int .i64 x5]) S); (case hr => intro w; kernel_rfl); clear S; intro bz wz S) | (go_at_call 75; refine Calls.mono (first_calls _ [x1, x2, x3, x4, x5] _ _ (blk_sl _ intE_len (S.get (i := 6) rfl).choose_spec rfl rfl) (Nat.le_of_ble_eq_true rfl)) ?_; rintro e wz ⟨rfl, hE⟩; replace S := S.ext (Keep.of_below hE); clear hE) | ((with_reducible refine tot_done ?ht ?_); (case ht => kernel_rfl)) | ((with_reducible apply wps_loada (T := 26) (k := 6) S 0); (case hx | hi => rfl); (case hk => exact Nat.le_of_ble_eq_true rfl); (case hT => decide +kernel)) | ((with_reducible apply wps_loada (T := 26) (k := 6) S 1); (case hx | hi => rfl); (case hk => exact Nat.le_of_ble_eq_true rfl); (case hT => decide +kernel)) | ((with_reducible apply wps_loada (T := 26) (k := 6) S 2); (case hx | hi => rfl); (case hk => exact Nat.le_of_ble_eq_true rfl); (case hT => decide +kernel)) | ((with_reducible apply wps_loada (T := 26) (k := 6) S 3); (case hx | hi => rfl); (case hk => exact Nat.le_of_ble_eq_true rfl); (case hT => decide +kernel)) | ((with_reducible apply wps_loada (T := 26) (k := 6) S 4); (case hx | hi => rfl); (case hk => exact Nat.le_of_ble_eq_true rfl); (case hT => decide +kernel)) | ((with_reducible apply wps_loada (T := 26) (k := 6) S 5); (case hx | hi => rfl); (case hk => exact Nat.le_of_ble_eq_true rfl); (case hT => decide +kernel))
      first
        | refine ⟨_, S.pick [1, 2, 3, 4, 5, 6, 7, 8, 9, 10, 0] rfl, ?_⟩
        | refine ⟨_, S.pick [1, 2, 3, 4, 5, 6, 7, 8, 9, 0] rfl, ?_⟩
        | refine ⟨_, S.pick [1, 2, 3, 4, 5, 6, 7, 8, 0] rfl, ?_⟩
        | refine ⟨_, S.pick [1, 2, 3, 4, 5, 6, 7, 0] rfl, ?_⟩
        | refine ⟨_, S.pick [1, 2, 3, 4, 5, 6, 0] rfl, ?_⟩
        | refine ⟨_, S, ?_⟩
  (with_reducible apply W_done); (case hn => rfl); (case hr => decide +kernel)
  clear S
  intro wz S
  simp only [List.cons_append, List.nil_append] at S
  try simp only [pick, nth] at S
  go_wp2_with first | ((with_reducible refine tot_done ?ht ?_); (case ht => kernel_rfl)) | ((with_reducible apply wps_text S); (case hm => kernel_rfl); (case hB => decide +kernel); clear S; intro wz S) | ((with_reducible apply wps_loada (T := 26) (k := 6) S 0); (case hx | hi => rfl); (case hk => exact Nat.le_of_ble_eq_true rfl); (case hT => decide +kernel))
  go_ret
  exact ⟨ret_int E.out, S.below⟩
end Go.Proofs.YtcnfionnnpnplaaGreatDoor
/- 'copy' between blocks that are known whole. Over any program. -/
namespace Go.Proofs.YtcnfionnnpnplaaGreatDoor.Mem
open Go Go.RowKit Reg
section
variable {P : Program} {ops : Array Oper} {rest : List Oper} {a : Act} {Q : Exit → Act → World → Prop} {d : Option Tmp} {tt : TypeId} {p : String} {af : Array Edge} {gd : Option (Nat × Bool)} {x y : Operand}
variable {G : Nat → Prop} {w0 w w' : World} {L : List Asn}
theorem wps_copyb {b o dLen dCap b2 o2 sLen sCap : Nat} {cs cs2 : Array Value} {t t2 dT sT elem : TypeId} {sh : Bool} (S : St G w0 w L) (i : Nat) (hi : L[i]? = some (Blk false b cs t)) (j : Nat) (hj : L[j]? = some (Blk sh b2 cs2 t2)) (us : List Value)
    (hx : a.eval x = .slice (some ⟨b, o, none⟩) dLen dCap) (hy : a.eval y = .slice (some ⟨b2, o2, none⟩) sLen sCap) (hu : P.underlying dT = some (.slice elem)) (hsz : (match P.info? elem with | some i => i.size == 1 | none => false) = true)
    (hn : us.length = Nat.min sLen dLen) (hsrc : ∀ k v, us[k]? = some v → cs2[o2 + k]? = some v) (hfit : o + us.length ≤ cs.size) (h1 : us.all Value.oneCell' = true)
    (next : ∀ w', St G w0 w' (L.set i (Blk false b (splice cs o us) t)) → wpList P ops Q rest (a.put d (.int .i64 us.length)) w') (hgd : gOk gd ops a = true := by with_unfolding_all rfl) :
    wpList P ops Q ({ dst := d, op := .call { callee := .builtin .copy, args := #[x, y], argTypes := #[dT, sT] }, type := tt, pos := p, after := af, guard := gd } :: rest) a w :=
  wpList_ok hgd fun K hK => by
    have hs : (P.info? elem).map (·.size) = some 1 := by
      cases h : P.info? elem with
      | none => rw [h] at hsz; simp at hsz
      | some i => rw [h] at hsz; simpa using hsz
    have hr := run_copy_row (P := P) w dT sT tt elem b o dLen dCap ⟨b2, o2, none⟩ sLen sCap cs t us hu hs (S.blk i hi) hn
      (fun k v hk => by
        have : (Addr.add ⟨b2, o2, none⟩ k) = ⟨b2, o2 + k, none⟩ := by simp [Addr.add]
        rw [this, cell_of (S.blk j hj)]; exact hsrc k v hk) hfit (by simpa using h1)
    unfold Oper.wp execOp
    simp [resolve, invoke, builtin, hx, hy, hr, Result.andThen]
    refine hK _ _ (next _ (S.step hi rfl fun F hF => ⟨F, setRow_keep.mono (fun z _ hn e => hn ((hF.2 z).2 e)), ⟨?_, hF.2⟩, fun _ h => .inl h⟩))
    rw [show splice cs o us = (List.take o cs.toList ++ (us ++ List.drop (o + us.length) cs.toList)).toArray by simp [splice]]
    exact setRow_heap w b cs _ t _ (S.blk i hi)
end
end Go.Proofs.YtcnfionnnpnplaaGreatDoor.Mem
