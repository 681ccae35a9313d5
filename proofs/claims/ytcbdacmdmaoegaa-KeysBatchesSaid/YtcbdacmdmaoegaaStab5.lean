import Derived.Test.YtcbdacmdmaoegaaStab4
import Derived.Test.YtcbdacmdmaoegaaStabQ
/- The walk of slices.SortStableFunc. -/
namespace Go.Proofs.Ytcbdacmdmaoegaa
open Go Go.RowKit Reg Mem

def St1Rel (F : Nat → Prop) (R c N : Nat) (xs : List TE) (w : World) (av bv : Value) (wr : World) : Prop :=
  ∃ (a : Nat) (d : List TE), av = .int .i64 a ∧ bv = .int .i64 ((a + 20 : Nat) : Int) ∧ a ≤ N ∧ Done 20 a d ∧ d.Perm (xs.take a) ∧ St F w wr [Own 30 tcells 7 (.slice (some ⟨R, 0, none⟩) N c) (d ++ xs.drop a)]
def St2Rel (F : Nat → Prop) (R c N : Nat) (xs : List TE) (w : World) (kv : Value) (wr : World) : Prop :=
  ∃ (k : Nat) (ys : List TE), kv = .int .i64 k ∧ 0 < k ∧ k ≤ 131072 ∧ Runs k 0 ys ∧ ys.Perm xs ∧ St F w wr [Own 30 tcells 7 (.slice (some ⟨R, 0, none⟩) N c) ys]
def St3Rel (F : Nat → Prop) (R c N k : Nat) (xs : List TE) (w : World) (av bv : Value) (wr : World) : Prop :=
  ∃ (a : Nat) (d r : List TE), av = .int .i64 a ∧ bv = .int .i64 ((a + 2 * k : Nat) : Int) ∧ a ≤ N ∧ Done (2 * k) a d ∧ Runs k a r ∧ (d ++ r).Perm xs ∧ St F w wr [Own 30 tcells 7 (.slice (some ⟨R, 0, none⟩) N c) (d ++ r)]
def StabPost (F : Nat → Prop) (R c N : Nat) (xs : List TE) (w : World) (e : Ending) (w' : World) : Prop :=
  e = .returned (.tuple #[]) ∧ ∃ ys : List TE, ys.Perm xs ∧ Srt ys ∧ St F w w' [Own 30 tcells 7 (.slice (some ⟨R, 0, none⟩) N c) ys]
set_option maxRecDepth 100000 in
set_option maxHeartbeats 8000000 in
theorem stable_calls (R c N : Nat) (l : List Event) (w : World) (F : Nat → Prop) (h : (Own 30 tcells 7 (.slice (some ⟨R, 0, none⟩) N c) (tag l)).at_ w F) (hN : N = l.length) (hn : N ≤ 65536) :
    Calls Try.prog 54 #[.slice (some ⟨R, 0, none⟩) N c, .int .i64 N, .func (.func 38) #[] #[]] w (StabPost F R c N (tag l) w) := by
  have S := St.one w h
  clear h
  have HI : Hid (∀ a n, a + n ≤ N → InT a (((tag l).drop a).take n)) := fun a n h => tag_in l a n (by omega)
  have HR := Lib.hid (tag_rise l)
  have HL : Hid ((tag l).length = N) := by rw [tag_len]; exact hN.symm
  clear hN
  generalize tag l = xs at *
  go_enter Try.func54, Try.ntmps54
  go_wp2_with first
    | ((with_reducible refine tot_done ?ht ?_); (case ht => kernel_rfl))
  go_loopw [7, 8] (fun a b wr => St1Rel F R c N xs w a b wr) (fun a _ _ => (N - intOf a).toNat)
  case atStart => exact ⟨0, [], rfl, rfl, Nat.zero_le _, Done.start _, by simp, S⟩
  case round =>
    clear S
    obtain ⟨a, d, rfl, rfl, haN, hd, hp, S⟩ := hrel
    have hdl := hd.len
    by_cases hlt : a + 20 ≤ N
    · have hlt2 : (a : Int) + 20 ≤ N := by omega
      have e1 : d ++ xs.drop a = d ++ (xs.drop a).take 20 ++ xs.drop (a + 20) := by
        rw [List.append_assoc, ← List.drop_drop, List.take_append_drop]
      have l1 : ((xs.drop a).take 20).length = 20 := by simp; have := HL.out; omega
      have hpw : ((xs.drop a).take 20).Pairwise (fun x y => x.2 < y.2) := (HR.out.sublist (List.drop_sublist _ _)).sublist (List.take_sublist _ _)
      have HE := Lib.hid e1
      rw [HE.out] at S
      have HI2 := Lib.hid (HI.out a 20 hlt)
      have hlen : N = (d ++ (xs.drop a).take 20 ++ xs.drop (a + 20)).length := by rw [← e1]; simp; have := HL.out; omega
      have Hdl := Lib.hid hdl
      have L1 := Lib.hid l1
      have Hpw := Lib.hid hpw
      have Hd := Lib.hid hd
      have Hp := Lib.hid hp
      have Hlen := Lib.hid hlen
      clear hdl l1 hpw hd hp hlen
      clear e1
      go_wp2_with first
        | (go_at_call 64; obtain ⟨Fz, hF, hBk⟩ := S.lend1 0 rfl rfl; refine Calls.mono (insert_calls R c N a (a + 20) d ((xs.drop a).take 20) (xs.drop (a + 20)) _ _ hF Hlen.out Hdl.out.symm (by have := L1.out; omega) hn Hpw.out) ?_; rintro e wz ⟨rfl, s, hs1, hs2, T⟩; replace S := hBk _ _ rfl T; clear hBk hF T; simp only [List.set_cons_zero] at S)
        | ((with_reducible refine tot_done ?ht ?_); (case ht => kernel_rfl))
      have hsl := hs1.length_eq
      go_roundw
      case rel => exact ⟨a + 20, d ++ s, by go_num, by go_num, by omega, Hd.out.step (by rw [hsl]; exact L1.out) hs2 (HI2.out.perm hs1), by rw [List.take_add]; exact Hp.out.append hs1, S⟩
      case measure => first | (simp [intOf]; done) | (simp [intOf]; omega)
    · have hlt2 : ¬ (a : Int) + 20 ≤ N := by omega
      have HE : Hid (d ++ xs.drop a = d ++ xs.drop a ++ []) := by simp [Hid]
      rw [HE.out] at S
      have hpw : (xs.drop a).Pairwise (fun x y => x.2 < y.2) := HR.out.sublist (List.drop_sublist _ _)
      have HI2 := Lib.hid (HI.out a (N - a) (by omega))
      have hlen : N = (d ++ xs.drop a ++ []).length := by simp; have := HL.out; omega
      have l1 : (xs.drop a).length = N - a := by simp; have := HL.out; omega
      have Hdl := Lib.hid hdl
      have L1 := Lib.hid l1
      have Hpw := Lib.hid hpw
      have Hd := Lib.hid hd
      have Hp := Lib.hid hp
      have Hlen := Lib.hid hlen
      clear hdl l1 hpw hd hp hlen
      go_wp2_with first
        | (go_at_call 64; obtain ⟨Fz, hF, hBk⟩ := S.lend1 0 rfl rfl; refine Calls.mono (insert_calls R c N a N d (xs.drop a) [] _ _ hF Hlen.out Hdl.out.symm (by have := L1.out; omega) hn Hpw.out) ?_; rintro e wz ⟨rfl, s, hs1, hs2, T⟩; replace S := hBk _ _ rfl T; clear hBk hF T; simp only [List.set_cons_zero] at S)
        | ((with_reducible refine tot_done ?ht ?_); (case ht => kernel_rfl))
      have hsl := hs1.length_eq
      have HP : Hid ((d ++ s ++ []).Perm xs) := by
        have := Hp.out.append hs1
        rw [List.take_append_drop] at this
        simpa [Hid] using this
      have HRun : Hid (Runs 20 0 (d ++ s ++ [])) := by
        have e : (xs.drop a).take (N - a) = xs.drop a := List.take_of_length_le (by have := L1.out; omega)
        have h1 := HI2.out
        rw [e] at h1
        rw [List.append_nil]
        exact Hd.out.go _ (.last (by rw [hsl]; have := L1.out; omega) hs2 (h1.perm hs1))
      clear hs1 hs2 hsl
      generalize d ++ s ++ [] = ys at *
      go_loopw [6] (fun kv wr => St2Rel F R c N xs w kv wr) (fun kv _ => (N - intOf kv).toNat)
      case atStart => exact ⟨20, ys, rfl, by omega, by omega, HRun.out, HP.out, S⟩
      case round =>
        clear S HP HRun
        obtain ⟨k, ys, rfl, hk0, hkM, hrun, hp2, S⟩ := hrel
        have hyl : ys.length = N := by rw [hp2.length_eq]; exact HL.out
        by_cases hkN : k < N
        · have hkN2 : (k : Int) < N := by omega
          have Hrun := Lib.hid hrun
          have Hp2 := Lib.hid hp2
          have Hyl := Lib.hid hyl
          clear hp2 hyl
          clear hrun
          go_wp2_with first
            | ((with_reducible refine tot_done ?ht ?_); (case ht => kernel_rfl))
          go_loopw [7, 8] (fun a b wr => St3Rel F R c N k xs w a b wr) (fun a _ _ => (N - intOf a).toNat)
          case atStart => exact ⟨0, [], ys, rfl, by go_num, Nat.zero_le _, Done.start _, Hrun.out, by simpa using Hp2.out, by simpa using S⟩
          case round =>
            clear S Hrun Hp2 Hyl
            obtain ⟨a, d, r, rfl, rfl, haN, hd, hrun, hp3, S⟩ := hrel
            have hdl := hd.len
            have hlen : d.length + r.length = N := by have := hp3.length_eq; rw [List.length_append] at this; rw [this]; exact HL.out
            by_cases hab : a + 2 * k ≤ N
            · have hab2 : (a : Int) + 2 * k ≤ N := by omega
              obtain ⟨l1, l2, r2, rfl, g1, g2, g3, g4, g5, g6, g7⟩ := runs_two hrun hk0 (by omega)
              obtain ⟨i1, i2⟩ := g5.two g6 g1
              have HE : Hid (d ++ (l1 ++ l2 ++ r2) = d ++ l1 ++ l2 ++ r2) := by simp [Hid]
              rw [HE.out] at S
              have hlen2 : N = (d ++ l1 ++ l2 ++ r2).length := by simp at hlen ⊢; omega
              have Hdl := Lib.hid hdl
              have Hlen := Lib.hid hlen
              have Hd := Lib.hid hd
              have Hrun := Lib.hid hrun
              have Hp3 := Lib.hid hp3
              have G1 := Lib.hid g1
              have G2 := Lib.hid g2
              have G3 := Lib.hid g3
              have G4 := Lib.hid g4
              have G5 := Lib.hid g5
              have G6 := Lib.hid g6
              have G7 := Lib.hid g7
              have I1 := Lib.hid i1
              have I2 := Lib.hid i2
              have Hlen2 := Lib.hid hlen2
              clear hdl hlen hd hrun hp3 g1 g2 g3 g4 g5 g6 g7 i1 i2 hlen2
              go_wp2_with first
                | (go_at_call 65; obtain ⟨Fz, hF, hBk⟩ := S.lend1 0 rfl rfl; refine Calls.mono (sym_calls R c N a (a + k) (a + 2 * k) d l1 l2 r2 _ _ hF Hlen2.out Hdl.out.symm (by have := G1.out; omega) (by have := G2.out; omega) (by have := G1.out; omega) (by have := G2.out; omega) G3.out G4.out I2.out hn) ?_; rintro e wz ⟨rfl, ys, ⟨s, hs1, hs2, rfl⟩, T⟩; replace S := hBk _ _ rfl T; clear hBk hF T; simp only [List.set_cons_zero] at S)
                | ((with_reducible refine tot_done ?ht ?_); (case ht => kernel_rfl))
              have hsl := hs1.length_eq
              go_roundw
              case rel => exact ⟨a + 2 * k, d ++ s, r2, by go_num, by go_num, by omega, Hd.out.step (by rw [hsl, List.length_append, G1.out, G2.out]; omega) hs2 (I1.out.perm hs1), G7.out, ((hs1.append_left d).append_right r2).trans (by have := Hp3.out; rwa [HE.out, List.append_assoc d] at this), S⟩
              case measure => first | (simp [intOf]; done) | (simp [intOf]; omega)
            · have hab2 : ¬ (a : Int) + 2 * k ≤ N := by omega
              by_cases hm : a + k < N
              · have hm2 : (a : Int) + k < N := by omega
                obtain ⟨l1, l2, rfl, g1, g3, g4, g5, g6⟩ := runs_one hrun (by omega) (by omega)
                obtain ⟨i1, i2⟩ := g5.two g6 g1
                have g2 : l2.length = N - (a + k) := by simp at hlen; omega
                have HE : Hid (d ++ (l1 ++ l2) = d ++ l1 ++ l2 ++ []) := by simp [Hid]
                rw [HE.out] at S
                have hlen2 : N = (d ++ l1 ++ l2 ++ []).length := by simp at hlen ⊢; omega
                have Hdl := Lib.hid hdl
                have Hlen := Lib.hid hlen
                have Hd := Lib.hid hd
                have Hrun := Lib.hid hrun
                have Hp3 := Lib.hid hp3
                have G1 := Lib.hid g1
                have G2 := Lib.hid g2
                have G3 := Lib.hid g3
                have G4 := Lib.hid g4
                have G5 := Lib.hid g5
                have G6 := Lib.hid g6
                have I1 := Lib.hid i1
                have I2 := Lib.hid i2
                have Hlen2 := Lib.hid hlen2
                clear hdl hlen hd hrun hp3 g1 g2 g3 g4 g5 g6 i1 i2 hlen2
                go_wp2_with first
                  | (go_at_call 65; obtain ⟨Fz, hF, hBk⟩ := S.lend1 0 rfl rfl; refine Calls.mono (sym_calls R c N a (a + k) N d l1 l2 [] _ _ hF Hlen2.out Hdl.out.symm (by have := G1.out; omega) (by have := G2.out; omega) (by have := G1.out; omega) (by have := G2.out; omega) G3.out G4.out I2.out hn) ?_; rintro e wz ⟨rfl, ys, ⟨s, hs1, hs2, rfl⟩, T⟩; replace S := hBk _ _ rfl T; clear hBk hF T; simp only [List.set_cons_zero] at S)
                  | ((with_reducible refine tot_done ?ht ?_); (case ht => kernel_rfl))
                have hsl := hs1.length_eq
                go_roundw
                case rel => exact ⟨2 * k, d ++ s ++ [], by go_num, by omega, by omega, by rw [List.append_nil]; exact Hd.out.go _ (.last (by rw [hsl, List.length_append, G1.out, G2.out]; omega) hs2 (I1.out.perm hs1)), by rw [List.append_nil]; exact (hs1.append_left d).trans Hp3.out, S⟩
                case measure => first | (simp [intOf]; done) | (simp [intOf]; omega)
              · have hm2 : ¬ (a : Int) + k < N := by omega
                obtain ⟨g1, g2⟩ := runs_srt hrun (by omega)
                have HRun : Hid (Runs (2 * k) 0 (d ++ r)) := hd.go _ (.last (by omega) g1 g2)
                have Hdl := Lib.hid hdl
                have Hlen := Lib.hid hlen
                have Hd := Lib.hid hd
                have Hrun := Lib.hid hrun
                have Hp3 := Lib.hid hp3
                have G1 := Lib.hid g1
                have G2 := Lib.hid g2
                clear hdl hlen hd hrun hp3 g1 g2
                go_wp2_with first
                  | ((with_reducible refine tot_done ?ht ?_); (case ht => kernel_rfl))
                go_roundw
                case rel => exact ⟨2 * k, d ++ r, by go_num, by omega, by omega, HRun.out, Hp3.out, S⟩
                case measure => first | (simp [intOf]; done) | (simp [intOf]; omega)
        · have hkN2 : ¬ (k : Int) < N := by omega
          have HS := Lib.hid (runs_srt hrun (by omega)).1
          have Hrun := Lib.hid hrun
          have Hp2 := Lib.hid hp2
          have Hyl := Lib.hid hyl
          clear hp2 hyl
          clear hrun
          go_wp2_with first
            | ((with_reducible refine tot_done ?ht ?_); (case ht => kernel_rfl))
          go_end0
          exact ⟨rfl, ys, Hp2.out, HS.out, S⟩
set_option maxRecDepth 100000 in
set_option maxHeartbeats 4000000 in
theorem stableF_calls (R c N : Nat) (l : List Event) (w : World) (F : Nat → Prop) (h : (Own 30 tcells 7 (.slice (some ⟨R, 0, none⟩) N c) (tag l)).at_ w F) (hN : N = l.length) (hn : N ≤ 65536) :
    Calls Try.prog 37 #[.slice (some ⟨R, 0, none⟩) N c, .func (.func 38) #[] #[]] w (StabPost F R c N (tag l) w) := by
  have S := St.one w h
  clear h
  have HN := Lib.hid hN
  clear hN
  go_enter Try.func37, Try.ntmps37
  go_wp2_with first
    | (go_at_call 54; obtain ⟨Fz, hF, hBk⟩ := S.lend1 0 rfl rfl; refine Calls.mono (stable_calls R c N l _ _ hF HN.out hn) ?_; rintro e wz ⟨rfl, ys, hy1, hy2, T⟩; replace S := hBk _ _ rfl T; clear hBk hF T; simp only [List.set_cons_zero] at S)
    | ((with_reducible refine tot_done ?ht ?_); (case ht => kernel_rfl))
  go_end0
  exact ⟨rfl, ys, hy1, hy2, S⟩
end Go.Proofs.Ytcbdacmdmaoegaa
