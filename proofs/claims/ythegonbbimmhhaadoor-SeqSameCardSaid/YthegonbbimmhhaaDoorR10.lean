import Derived.Test.YthegonbbimmhhaaDoorR09
import Derived.Test.YthegonbbimmhhaaDoorR07
import Derived.Test.YthegonbbimmhhaaDoorR11
import Derived.Test.YthegonbbimmhhaaDoorR06
/- The walk of slices.SortStableFunc. -/
namespace Go.Proofs.YthegonbbimmhhaaDoor
open Go Go.RowKit Reg Mem

def St1Rel (F : Nat → Prop) (R c N : Nat) (xs : List TE) (w : World) (av bv : Value) (wr : World) : Prop :=
  ∃ (a : Nat) (d : List TE), av = .int .i64 a ∧ bv = .int .i64 ((a + 20 : Nat) : Int) ∧ a ≤ N ∧ Done 20 a d ∧ d.Perm (xs.take a) ∧ St F w wr [Own 56 tcells 7 (.slice (some ⟨R, 0, none⟩) N c) (d ++ xs.drop a)]
def St2Rel (F : Nat → Prop) (R c N : Nat) (xs : List TE) (w : World) (kv : Value) (wr : World) : Prop :=
  ∃ (k : Nat) (ys : List TE), kv = .int .i64 k ∧ 0 < k ∧ k ≤ 131072 ∧ Runs k 0 ys ∧ ys.Perm xs ∧ St F w wr [Own 56 tcells 7 (.slice (some ⟨R, 0, none⟩) N c) ys]
def St3Rel (F : Nat → Prop) (R c N k : Nat) (xs : List TE) (w : World) (av bv : Value) (wr : World) : Prop :=
  ∃ (a : Nat) (d r : List TE), av = .int .i64 a ∧ bv = .int .i64 ((a + 2 * k : Nat) : Int) ∧ a ≤ N ∧ Done (2 * k) a d ∧ Runs k a r ∧ (d ++ r).Perm xs ∧ St F w wr [Own 56 tcells 7 (.slice (some ⟨R, 0, none⟩) N c) (d ++ r)]
def StabPost (F : Nat → Prop) (R c N : Nat) (xs : List TE) (w : World) (e : Ending) (w' : World) : Prop :=
  e = .returned (.tuple #[]) ∧ ∃ ys : List TE, ys.Perm xs ∧ Srt ys ∧ St F w w' [Own 56 tcells 7 (.slice (some ⟨R, 0, none⟩) N c) ys]
set_option maxRecDepth 100000 in
set_option maxHeartbeats 8000000 in
theorem stable_calls (R c N : Nat) (l : List Event) (w : World) (F : Nat → Prop) (h : (Own 56 tcells 7 (.slice (some ⟨R, 0, none⟩) N c) (tag l)).at_ w F) (hN : N = l.length) (hn : N ≤ 65536) :
    Calls Tryd.prog 67 #[.slice (some ⟨R, 0, none⟩) N c, .int .i64 N, .func (.func 52) #[] #[]] w (StabPost F R c N (tag l) w) := by
  have S := St.one w h
  clear h
  have HI : Hid (∀ a n, a + n ≤ N → InT a (((tag l).drop a).take n)) := fun a n h => tag_in l a n (by omega)
  have HR := Lib.hid (tag_rise l)
  have HL : Hid ((tag l).length = N) := by rw [tag_len]; exact hN.symm
  clear hN
  generalize tag l = xs at *
  go_enter Tryd.func67, Tryd.ntmps67
  go_wp2_with first | ((with_reducible refine tot_done ?ht ?_); (case ht => kernel_rfl))
  go_loopw [7, 8] (fun a b wr => St1Rel F R c N xs w a b wr) (fun a _ _ => (N - intOf a).toNat)
  case atStart => exact ⟨0, [], rfl, rfl, Nat.zero_le _, Done.start _, by simp, S⟩
  case round =>
    clear S
    obtain ⟨a, d, rfl, rfl, haN, hd, hp, S⟩ := hrel
    have hdl := hd.len
    by_cases hlt : a + 20 ≤ N
    · have hlt2 : (a : Int) + 20 ≤ N := by omega
      have e1 : d ++ xs.drop a = d ++ (xs.drop a).take 20 ++ xs.drop (a + 20) := by
        rw [List.append_assoc, ← List.drop_drop, List.take_append_drop]
      have l1 : ((xs.drop a).take 20).length = 20 := by simp; have := HL.out; omega
      have hpw : ((xs.drop a).take 20).Pairwise (fun x y => x.2 < y.2) := (HR.out.sublist (List.drop_sublist _ _)).sublist (List.take_sublist _ _)
      have HE := Lib.hid e1
      rw [HE.out] at S
      have HI2 := Lib.hid (HI.out a 20 hlt)
      have hlen : N = (d ++ (xs.drop a).take 20 ++ xs.drop (a + 20)).length := by rw [← e1]; simp; have := HL.out; omega
      have Hdl := Lib.hid hdl
      have L1 := Lib.hid l1
      have Hpw := Lib.hid hpw
      have Hd := Lib.hid hd
      have Hp := Lib.hid hp
      have Hlen := Lib.hid hlen
      clear hdl l1 hpw hd hp hlen
      clear e1
      go_wp2_with first | (go_at_call 80; obtain ⟨Fz, hF, hBk⟩ := S.lend1 0 rfl rfl; refine Calls.mono (insert_calls R c N a (a + 20) d ((xs.drop a).take 20) (xs.drop (a + 20)) _ _ hF Hlen.out Hdl.out.symm (by have := L1.out; omega) hn Hpw.out) ?_; rintro e wz ⟨rfl, s, hs1, hs2, T⟩; replace S := hBk _ _ rfl T; clear hBk hF T; simp only [List.set_cons_zero] at S) | ((with_reducible refine tot_done ?ht ?_); (case ht => kernel_rfl))
      have hsl := hs1.length_eq
      go_roundw
      case rel => exact ⟨a + 20, d ++ s, by go_num, by go_num, by omega, Hd.out.step (by rw [hsl]; exact L1.out) hs2 (HI2.out.perm hs1), by rw [List.take_add]; exact Hp.out.append hs1, S⟩
      case measure => first | (simp [intOf]; done) | (simp [intOf]; omega)
    · have hlt2 : ¬ (a : Int) + 20 ≤ N := by omega
      have HE : Hid (d ++ xs.drop a = d ++ xs.drop a ++ []) := by simp [Hid]
      rw [HE.out] at S
      have hpw : (xs.drop a).Pairwise (fun x y => x.2 < y.2) := HR.out.sublist (List.drop_sublist _ _)
      have HI2 := Lib.hid (HI.out a (N - a) (by omega))
      have hlen : N = (d ++ xs.drop a ++ []).length := by simp; have := HL.out; omega
      have l1 : (xs.drop a).length = N - a := by simp; have := HL.out; omega
      have Hdl := Lib.hid hdl
      have L1 := Lib.hid l1
      have Hpw := Lib.hid hpw
      have Hd := Lib.hid hd
      have Hp := Lib.hid hp
      have Hlen := Lib.hid hlen
      clear hdl l1 hpw hd hp hlen
      go_wp2_with first | (go_at_call 80; obtain ⟨Fz, hF, hBk⟩ := S.lend1 0 rfl rfl; refine Calls.mono (insert_calls R c N a N d (xs.drop a) [] _ _ hF Hlen.out Hdl.out.symm (by have := L1.out; omega) hn Hpw.out) ?_; rintro e wz ⟨rfl, s, hs1, hs2, T⟩; replace S := hBk _ _ rfl T; clear hBk hF T; simp only [List.set_cons_zero] at S) | ((with_reducible refine tot_done ?ht ?_); (case ht => kernel_rfl))
      have hsl := hs1.length_eq
      have HP : Hid ((d ++ s ++ []).Perm xs) := by
        have := Hp.out.append hs1
        rw [List.take_append_drop] at this
        simpa [Hid] using this
      have HRun : Hid (Runs 20 0 (d ++ s ++ [])) := by
        have e : (xs.drop a).take (N - a) = xs.drop a := List.take_of_length_le (by have := L1.out; omega)
        have h1 := HI2.out
        rw [e] at h1
        rw [List.append_nil]
        exact Hd.out.go _ (.last (by rw [hsl]; have := L1.out; omega) hs2 (h1.perm hs1))
      clear hs1 hs2 hsl
      generalize d ++ s ++ [] = ys at *
      go_loopw [6] (fun kv wr => St2Rel F R c N xs w kv wr) (fun kv _ => (N - intOf kv).toNat)
      case atStart => exact ⟨20, ys, rfl, by omega, by omega, HRun.out, HP.out, S⟩
      case round =>
        clear S HP HRun
        obtain ⟨k, ys, rfl, hk0, hkM, hrun, hp2, S⟩ := hrel
        have hyl : ys.length = N := by rw [hp2.length_eq]; exact HL.out
        by_cases hkN : k < N
        · have hkN2 : (k : Int) < N := by omega
          have Hrun := Lib.hid hrun
          have Hp2 := Lib.hid hp2
          have Hyl := Lib.hid hyl
          clear hp2 hyl
          clear hrun
          go_wp2_with first | ((with_reducible refine tot_done ?ht ?_); (case ht => kernel_rfl))
          go_loopw [7, 8] (fun a b wr => St3Rel F R c N k xs w a b wr) (fun a _ _ => (N - intOf a).toNat)
          case atStart => exact ⟨0, [], ys, rfl, by go_num, Nat.zero_le _, Done.start _, Hrun.out, by simpa using Hp2.out, by simpa using S⟩
          case round =>
            clear S Hrun Hp2 Hyl
            obtain ⟨a, d, r, rfl, rfl, haN, hd, hrun, hp3, S⟩ := hrel
            have hdl := hd.len
            have hlen : d.length + r.length = N := by have := hp3.length_eq; rw [List.length_append] at this; rw [this]; exact HL.out
            by_cases hab : a + 2 * k ≤ N
            · have hab2 : (a : Int) + 2 * k ≤ N := by omega
              obtain ⟨l1, l2, r2, rfl, g1, g2, g3, g4, g5, g6, g7⟩ := runs_two hrun hk0 (by omega)
              obtain ⟨i1, i2⟩ := g5.two g6 g1
              have HE : Hid (d ++ (l1 ++ l2 ++ r2) = d ++ l1 ++ l2 ++ r2) := by simp [Hid]
              rw [HE.out] at S
              have hlen2 : N = (d ++ l1 ++ l2 ++ r2).length := by simp at hlen ⊢; omega
              have Hdl := Lib.hid hdl
              have Hlen := Lib.hid hlen
              have Hd := Lib.hid hd
              have Hrun := Lib.hid hrun
              have Hp3 := Lib.hid hp3
              have G1 := Lib.hid g1
              have G2 := Lib.hid g2
              have G3 := Lib.hid g3
              have G4 := Lib.hid g4
              have G5 := Lib.hid g5
              have G6 := Lib.hid g6
              have G7 := Lib.hid g7
              have I1 := Lib.hid i1
              have I2 := Lib.hid i2
              have Hlen2 := Lib.hid hlen2
              clear hdl hlen hd hrun hp3 g1 g2 g3 g4 g5 g6 g7 i1 i2 hlen2
              go_wp2_with first | (go_at_call 81; obtain ⟨Fz, hF, hBk⟩ := S.lend1 0 rfl rfl; refine Calls.mono (sym_calls R c N a (a + k) (a + 2 * k) d l1 l2 r2 _ _ hF Hlen2.out Hdl.out.symm (by have := G1.out; omega) (by have := G2.out; omega) (by have := G1.out; omega) (by have := G2.out; omega) G3.out G4.out I2.out hn) ?_; rintro e wz ⟨rfl, ys, ⟨s, hs1, hs2, rfl⟩, T⟩; replace S := hBk _ _ rfl T; clear hBk hF T; simp only [List.set_cons_zero] at S) | ((with_reducible refine tot_done ?ht ?_); (case ht => kernel_rfl))
              have hsl := hs1.length_eq
              go_roundw
              case rel => exact ⟨a + 2 * k, d ++ s, r2, by go_num, by go_num, by omega, Hd.out.step (by rw [hsl, List.length_append, G1.out, G2.out]; omega) hs2 (I1.out.perm hs1), G7.out, ((hs1.append_left d).append_right r2).trans (by have := Hp3.out; rwa [HE.out, List.append_assoc d] at this), S⟩
              case measure => first | (simp [intOf]; done) | (simp [intOf]; omega)
            · have hab2 : ¬ (a : Int) + 2 * k ≤ N := by omega
              by_cases hm : a + k < N
              · have hm2 : (a : Int) + k < N := by omega
                obtain ⟨l1, l2, rfl, g1, g3, g4, g5, g6⟩ := runs_one hrun (by omega) (by omega)
                obtain ⟨i1, i2⟩ := g5.two g6 g1
                have g2 : l2.length = N - (a + k) := by simp at hlen; omega
                have HE : Hid (d ++ (l1 ++ l2) = d ++ l1 ++ l2 ++ []) := by simp [Hid]
                rw [HE.out] at S
                have hlen2 : N = (d ++ l1 ++ l2 ++ []).length := by simp at hlen ⊢; omega
                have Hdl := Lib.hid hdl
                have Hlen := Lib.hid hlen
                have Hd := Lib.hid hd
                have Hrun := Lib.hid hrun
                have Hp3 := Lib.hid hp3
                have G1 := Lib.hid g1
                have G2 := Lib.hid g2
                have G3 := Lib.hid g3
                have G4 := Lib.hid g4
                have G5 := Lib.hid g5
                have G6 := Lib.hid g6
                have I1 := Lib.hid i1
                have I2 := Lib.hid i2
                have Hlen2 := Lib.hid hlen2
                clear hdl hlen hd hrun hp3 g1 g2 g3 g4 g5 g6 i1 i2 hlen2
                go_wp2_with first | (go_at_call 81; obtain ⟨Fz, hF, hBk⟩ := S.lend1 0 rfl rfl; refine Calls.mono (sym_calls R c N a (a + k) N d l1 l2 [] _ _ hF Hlen2.out Hdl.out.symm (by have := G1.out; omega) (by have := G2.out; omega) (by have := G1.out; omega) (by have := G2.out; omega) G3.out G4.out I2.out hn) ?_; rintro e wz ⟨rfl, ys, ⟨s, hs1, hs2, rfl⟩, T⟩; replace S := hBk _ _ rfl T; clear hBk hF T; simp only [List.set_cons_zero] at S) | ((with_reducible refine tot_done ?ht ?_); (case ht => kernel_rfl))
                have hsl := hs1.length_eq
                go_roundw
                case rel => exact ⟨2 * k, d ++ s ++ [], by go_num, by omega, by omega, by rw [List.append_nil]; exact Hd.out.go _ (.last (by rw [hsl, List.length_append, G1.out, G2.out]; omega) hs2 (I1.out.perm hs1)), by rw [List.append_nil]; exact (hs1.append_left d).trans Hp3.out, S⟩
                case measure => first | (simp [intOf]; done) | (simp [intOf]; omega)
              · have hm2 : ¬ (a : Int) + k < N := by omega
                obtain ⟨g1, g2⟩ := runs_srt hrun (by omega)
                have HRun : Hid (Runs (2 * k) 0 (d ++ r)) := hd.go _ (.last (by omega) g1 g2)
                have Hdl := Lib.hid hdl
                have Hlen := Lib.hid hlen
                have Hd := Lib.hid hd
                have Hrun := Lib.hid hrun
                have Hp3 := Lib.hid hp3
                have G1 := Lib.hid g1
                have G2 := Lib.hid g2
                clear hdl hlen hd hrun hp3 g1 g2
                go_wp2_with first | ((with_reducible refine tot_done ?ht ?_); (case ht => kernel_rfl))
                go_roundw
                case rel => exact ⟨2 * k, d ++ r, by go_num, by omega, by omega, HRun.out, Hp3.out, S⟩
                case measure => first | (simp [intOf]; done) | (simp [intOf]; omega)
        · have hkN2 : ¬ (k : Int) < N := by omega
          have HS := Lib.hid (runs_srt hrun (by omega)).1
          have Hrun := Lib.hid hrun
          have Hp2 := Lib.hid hp2
          have Hyl := Lib.hid hyl
          clear hp2 hyl
          clear hrun
          go_wp2_with first | ((with_reducible refine tot_done ?ht ?_); (case ht => kernel_rfl))
          go_end0
          exact ⟨rfl, ys, Hp2.out, HS.out, S⟩
set_option maxRecDepth 100000 in
set_option maxHeartbeats 4000000 in
theorem stableF_calls (R c N : Nat) (l : List Event) (w : World) (F : Nat → Prop) (h : (Own 56 tcells 7 (.slice (some ⟨R, 0, none⟩) N c) (tag l)).at_ w F) (hN : N = l.length) (hn : N ≤ 65536) :
    Calls Tryd.prog 51 #[.slice (some ⟨R, 0, none⟩) N c, .func (.func 52) #[] #[]] w (StabPost F R c N (tag l) w) := by
  have S := St.one w h
  clear h
  have HN := Lib.hid hN
  clear hN
  go_enter Tryd.func51, Tryd.ntmps51
  go_wp2_with first | (go_at_call 67; obtain ⟨Fz, hF, hBk⟩ := S.lend1 0 rfl rfl; refine Calls.mono (stable_calls R c N l _ _ hF HN.out hn) ?_; rintro e wz ⟨rfl, ys, hy1, hy2, T⟩; replace S := hBk _ _ rfl T; clear hBk hF T; simp only [List.set_cons_zero] at S) | ((with_reducible refine tot_done ?ht ?_); (case ht => kernel_rfl))
  go_end0
  exact ⟨rfl, ys, hy1, hy2, S⟩
end Go.Proofs.YthegonbbimmhhaaDoor
/- The walk of keys.Sort. -/
namespace Go.Proofs.YthegonbbimmhhaaDoor
open Go Go.RowKit Reg Mem

theorem ecells : ∀ e : Event, e.cells.length = 7 := fun _ => rfl
theorem eone : ∀ e : Event, ∀ u ∈ e.cells, u.oneCell' = true := fun _ => by simp [Event.cells, Value.oneCell']
set_option maxRecDepth 100000 in
theorem elem_Ev : Elem Tryd.prog 45 56 7 56 := ⟨_, .agg #[.int .i64 0, .int .i64 0, .int .i64 0, .int .i64 0, .int .i64 0, .int .i64 0, .int .i64 0], Tryd.underlying45, rfl, by kernel_rfl, by kernel_rfl, by kernel_rfl, by kernel_rfl, by omega⟩
set_option maxRecDepth 100000 in
/-- slices.Clone. -/
theorem clone_Ev {ad : Option Addr} {n c : Nat} {xs : List _} (w : World) (F : Nat → Prop) (h : (Sl true Event.cells 7 (.slice ad n c) xs).at_ w F) (hn : xs.length ≤ 4294967296) :
    Calls Tryd.prog 50 #[.slice ad n c] w fun e w' => ∃ ad' c', e = .returned (.slice ad' xs.length c') ∧ (0 < xs.length → ∃ R, ad' = some ⟨R, 0, none⟩) ∧ St (fun _ => False) w w' [Own 56 Event.cells 7 (.slice ad' xs.length c') xs] := by
  have S : St (fun _ => False) w w [Sl true Event.cells 7 (.slice ad n c) xs] := (St.init _ w).share rfl rfl h
  have hq : ∀ (w : World) (a : Option Addr) (n c n' c' : Nat), (binOp .eql 45 (.slice a n c) (.slice none n' c')).run Tryd.prog w = .ok (.bool a.isNone) w := fun w a n c n' c' => Lib.run_eql_slice_nil w _ _ a n c n' c' Tryd.underlying45
  cases ad with
  | none =>
    have hx : xs = [] := by
      obtain ⟨a, c', e, h1, h2, _⟩ := h.1
      simp only [Value.slice.injEq] at e
      obtain ⟨rfl, rfl, rfl⟩ := e
      exact List.eq_nil_of_length_eq_zero (by have := h2 rfl; omega)
    subst hx
    go_enter Tryd.func50, Tryd.ntmps50
    go_wp2_with first | ((with_reducible refine tot_done ?ht ?_); (case ht => kernel_rfl))
    go_ret
    exact ⟨_, _, rfl, fun h => absurd h (by simp), ((S.nil 56 Event.cells 7).pick [0] rfl)⟩
  | some a0 =>
    go_enter Tryd.func50, Tryd.ntmps50
    go_wp2_with first | ((with_reducible apply wps_build0 (T := 45) (E := 56) Event.cells 7 S); (case hr => intro w; kernel_rfl); clear S; intro bz wz S) | ((with_reducible apply wps_appends elem_Ev ecells eone (by decide) S 0 (j := 1)); (case hx | hy | hi | hj => rfl); (case hl => first | omega | (simp; omega)); clear S; intro az nz cz wz hnz S; simp only [List.set_cons_zero] at S) | ((with_reducible refine tot_done ?ht ?_); (case ht => kernel_rfl))
    go_ret
    obtain rfl : nz = xs.length := by have := hnz.out; simp at this; omega
    simp only [List.nil_append] at S
    refine ⟨_, _, rfl, fun h0 => ?_, S.pick [0] rfl⟩
    obtain ⟨F, hF⟩ := S.get (i := 0) rfl
    rcases hF.1.2 with ⟨_, e⟩ | ⟨g, cap, cur, e, _⟩
    · omega
    · simp only [Value.slice.injEq] at e; exact ⟨g, e.1⟩
set_option maxRecDepth 100000 in
set_option maxHeartbeats 4000000 in
theorem insert0_calls (ad : Option Addr) (c : Nat) (cv : Value) (w : World) : Calls Tryd.prog 80 #[.slice ad 0 c, .int .i64 0, .int .i64 0, cv] w fun e w' => e = .returned (.tuple #[]) ∧ Below w.heap.size w w' := by
  have S := St.init (fun _ => False) w
  go_enter Tryd.func80, Tryd.ntmps80
  go_wp2_with first | go_skip | ((with_reducible refine wpList_skip ?hw ?_); (case hw => with_unfolding_all rfl); simp only [Act.put, List.setIfInBounds_toArray, List.set_cons_succ, List.set_cons_zero]) | ((with_reducible refine tot_done ?ht ?_); (case ht => kernel_rfl)) | ((with_reducible apply wps_text S); (case hm => kernel_rfl); (case hB => decide +kernel); clear S; intro wz S) | ((with_reducible apply wps_loada (T := 56) (k := 7) S 0); (case hx | hi => rfl); (case hk => exact Nat.le_of_ble_eq_true rfl); (case hT => decide +kernel)) | ((with_reducible apply wps_loada (T := 56) (k := 7) S 1); (case hx | hi => rfl); (case hk => exact Nat.le_of_ble_eq_true rfl); (case hT => decide +kernel)) | ((with_reducible apply wps_loada (T := 56) (k := 7) S 2); (case hx | hi => rfl); (case hk => exact Nat.le_of_ble_eq_true rfl); (case hT => decide +kernel)) | ((with_reducible apply wps_loada (T := 56) (k := 7) S 3); (case hx | hi => rfl); (case hk => exact Nat.le_of_ble_eq_true rfl); (case hT => decide +kernel))
  go_loopw [8, 9] (fun i _ wr => i = .int .i64 1 ∧ St (fun _ => False) w wr []) (fun _ _ _ => 0)
  case atStart => exact ⟨rfl, S⟩
  case round =>
    clear S
    obtain ⟨rfl, S⟩ := hrel
    go_wp2_with first | go_skip | ((with_reducible refine wpList_skip ?hw ?_); (case hw => with_unfolding_all rfl); simp only [Act.put, List.setIfInBounds_toArray, List.set_cons_succ, List.set_cons_zero]) | ((with_reducible refine tot_done ?ht ?_); (case ht => kernel_rfl)) | ((with_reducible apply wps_text S); (case hm => kernel_rfl); (case hB => decide +kernel); clear S; intro wz S) | ((with_reducible apply wps_loada (T := 56) (k := 7) S 0); (case hx | hi => rfl); (case hk => exact Nat.le_of_ble_eq_true rfl); (case hT => decide +kernel)) | ((with_reducible apply wps_loada (T := 56) (k := 7) S 1); (case hx | hi => rfl); (case hk => exact Nat.le_of_ble_eq_true rfl); (case hT => decide +kernel)) | ((with_reducible apply wps_loada (T := 56) (k := 7) S 2); (case hx | hi => rfl); (case hk => exact Nat.le_of_ble_eq_true rfl); (case hT => decide +kernel)) | ((with_reducible apply wps_loada (T := 56) (k := 7) S 3); (case hx | hi => rfl); (case hk => exact Nat.le_of_ble_eq_true rfl); (case hT => decide +kernel))
    go_end0
    exact ⟨rfl, S.below⟩
set_option maxRecDepth 100000 in
set_option maxHeartbeats 4000000 in
theorem stable0_calls (ad : Option Addr) (c : Nat) (cv : Value) (w : World) : Calls Tryd.prog 67 #[.slice ad 0 c, .int .i64 0, cv] w fun e w' => e = .returned (.tuple #[]) ∧ Below w.heap.size w w' := by
  have S := St.init (fun _ => False) w
  go_enter Tryd.func67, Tryd.ntmps67
  go_wp2_with first | ((with_reducible refine tot_done ?ht ?_); (case ht => kernel_rfl))
  go_loopw [7, 8] (fun a b wr => a = .int .i64 0 ∧ b = .int .i64 20 ∧ St (fun _ => False) w wr []) (fun _ _ _ => 0)
  case atStart => exact ⟨rfl, rfl, S⟩
  case round =>
    clear S
    obtain ⟨rfl, rfl, S⟩ := hrel
    go_wp2_with first | (go_at_call 80; refine Calls.mono (insert0_calls _ _ _ _) ?_; rintro e wz ⟨rfl, hE⟩; replace S := S.ext (Keep.of_below hE); clear hE) | ((with_reducible refine tot_done ?ht ?_); (case ht => kernel_rfl))
    go_loopw [6] (fun k wr => k = .int .i64 20 ∧ St (fun _ => False) w wr []) (fun _ _ => 0)
    case atStart => exact ⟨rfl, S⟩
    case round =>
      clear S
      obtain ⟨rfl, S⟩ := hrel
      go_wp2_with first | ((with_reducible refine tot_done ?ht ?_); (case ht => kernel_rfl))
      go_end0
      exact ⟨rfl, S.below⟩
set_option maxRecDepth 100000 in
set_option maxHeartbeats 4000000 in
theorem stableF0_calls (ad : Option Addr) (c : Nat) (cv : Value) (w : World) : Calls Tryd.prog 51 #[.slice ad 0 c, cv] w fun e w' => e = .returned (.tuple #[]) ∧ Below w.heap.size w w' := by
  have S := St.init (fun _ => False) w
  go_enter Tryd.func51, Tryd.ntmps51
  go_wp2_with first | (go_at_call 67; refine Calls.mono (stable0_calls _ _ _ _) ?_; rintro e wz ⟨rfl, hE⟩; replace S := S.ext (Keep.of_below hE); clear hE) | ((with_reducible refine tot_done ?ht ?_); (case ht => kernel_rfl))
  go_end0
  exact ⟨rfl, S.below⟩
theorem tag_flat (l : List Event) : flatE Event.cells l = flatE tcells (tag l) := by
  have e : tcells = fun x : TE => Event.cells x.1 := rfl
  conv => lhs; rw [← tag_map l]
  simp [flatE, e, List.flatMap_map]
theorem flat_tag (ys : List TE) : flatE tcells ys = flatE Event.cells (ys.map (·.1)) := by
  have e : tcells = fun x : TE => Event.cells x.1 := rfl
  simp [flatE, e, List.flatMap_map]
/-- What sorting leaves: a new list, in order. -/
def SortPost (l : List Event) (w : World) (e : Ending) (w' : World) : Prop :=
  ∃ ad c, e = .returned (.slice ad l.length c) ∧ St (fun _ => False) w w' [Own 56 Event.cells 7 (.slice ad l.length c) (sortE l)]
set_option maxRecDepth 100000 in
set_option maxHeartbeats 4000000 in
theorem sort_calls (v : Value) (l : List Event) (w : World) (F : Nat → Prop) (h : (Sl true Event.cells 7 v l).at_ w F) (hn : l.length ≤ 65536) : Calls Tryd.prog 30 #[v] w (SortPost l w) := by
  have S : St (fun _ => False) w w [Sl true Event.cells 7 v l] := (St.init _ w).share rfl rfl h
  obtain ⟨ad, cp, rfl, _⟩ := (S.sl 0 rfl).elim fun _ h => h.form
  clear h
  go_enter Tryd.func30, Tryd.ntmps30
  go_wp2_with first | ((with_reducible refine tot_done ?ht ?_); (case ht => kernel_rfl))
  refine Calls.mono (clone_Ev _ _ (S.get (i := 0) rfl).choose_spec (by omega)) ?_
  rintro e wz ⟨ad2, c2, rfl, hhd, T⟩
  replace S := S.join T rfl
  simp only [List.cons_append, List.nil_append] at S
  clear T
  by_cases h0 : l.length = 0
  · obtain rfl : l = [] := List.eq_nil_of_length_eq_zero h0
    clear hhd
    simp only [List.length_nil] at *
    go_wp2_with first | (go_at_call 51; refine Calls.mono (stableF0_calls _ _ _ _) ?_; rintro e wz ⟨rfl, hE⟩; replace S := S.ext (Keep.of_below hE); clear hE) | ((with_reducible refine tot_done ?ht ?_); (case ht => kernel_rfl))
    go_ret
    exact ⟨_, _, rfl, S.pick [0] rfl⟩
  · obtain ⟨R, rfl⟩ := hhd (by omega)
    clear hhd
    have S2 := S.conv 0 rfl (tag l) (tag_len l).symm (tag_flat l)
    clear S
    have S := S2
    clear S2
    simp only [List.set_cons_zero] at S
    go_wp2_with first | (go_at_call 51; obtain ⟨Fz, hF, hBk⟩ := S.lend1 0 rfl rfl; refine Calls.mono (stableF_calls R c2 l.length l _ _ hF rfl hn) ?_; rintro e wz ⟨rfl, ys, hy1, hy2, T⟩; replace S := hBk _ _ rfl T; clear hBk hF T; simp only [List.set_cons_zero] at S) | ((with_reducible refine tot_done ?ht ?_); (case ht => kernel_rfl))
    go_ret
    have e1 : l.length = ys.length := by rw [hy1.length_eq, tag_len]
    have S2 := S.conv 0 rfl (ys.map (·.1)) (by simp) (flat_tag ys)
    rw [sortE_of hy1 hy2] at S2
    simp only [List.set_cons_zero] at S2
    exact ⟨_, _, rfl, S2.pick [0] rfl⟩
end Go.Proofs.YthegonbbimmhhaaDoor
/- The walks of a heap's inner functions: ahead, swap, up, down, and New. -/
namespace Go.Proofs.YthegonbbimmhhaaDoor
open Go.RowKit Reg Mem

def Row.cells (r : Row) : List Value := (#[.int .i64 r.key.at_, .int .i64 r.key.src, .int .i64 r.key.sent, .int .i64 r.key.no, .int .i64 r.v.key.at_, .int .i64 r.v.key.src, .int .i64 r.v.key.sent, .int .i64 r.v.key.no, .int .i64 r.v.dst, .int .i64 r.v.kind, .int .i64 r.v.data]).toList
theorem hcells : ∀ r : Row, r.cells.length = 11 := fun _ => rfl
theorem hone : ∀ r : Row, ∀ u ∈ r.cells, u.oneCell' = true := fun _ => by simp [Row.cells, Value.oneCell']
set_option maxRecDepth 100000 in
theorem elem_Row : Elem Tryd.prog 113 120 11 88 := ⟨_, .agg #[.int .i64 0, .int .i64 0, .int .i64 0, .int .i64 0, .int .i64 0, .int .i64 0, .int .i64 0, .int .i64 0, .int .i64 0, .int .i64 0, .int .i64 0], Tryd.underlying113, rfl, by kernel_rfl, by kernel_rfl, by kernel_rfl, by kernel_rfl, by omega⟩
def keyed : Keyed Tryd.prog 54 Key.cells :=
  ⟨[.int .i64, .int .i64, .int .i64, .int .i64], by kernel_rfl, fun _ => rfl, fun a b => by
    obtain ⟨a1, a2, a3, a4⟩ := a; obtain ⟨b1, b2, b3, b4⟩ := b
    simp only [Key.cells, ceqs, ceq, Bool.and_true, Key.mk.injEq]
    rw [Bool.eq_iff_iff]; simp⟩
theorem wholeKey (k : Key) : whole Tryd.prog 54 (Key.cells k) = .agg #[.int .i64 k.at_, .int .i64 k.src, .int .i64 k.sent, .int .i64 k.no] := by kernel_rfl
/-- A heap's blocks. -/
def rawH (B M : Nat) (v : Value) (rows : List Row) : Asn := sep false (Blk false B #[v, .map (some M)] 115) (sep false (MapA false Tryd.prog 54 Key.cells M (posMap rows)) (Own 120 Row.cells 11 v rows))
theorem Mem.St.swap2 {G : Nat → Prop} {w0 w : World} {L : List Asn} {A B : Asn} (S : St G w0 w (A :: B :: L)) : St G w0 w (B :: A :: L) := by
  obtain ⟨Fs, hf, hd⟩ := S.ex
  have g : ∀ i : Nat, ∀ X : Asn, (B :: A :: L)[i]? = some X → (A :: B :: L)[(match i with | 0 => 1 | 1 => 0 | i + 2 => i + 2 : Nat)]? = some X := by
    intro i X h
    match i with
    | 0 => exact h
    | 1 => exact h
    | i + 2 => exact h
  refine ⟨S.keep, fun i => Fs (match i with | 0 => 1 | 1 => 0 | i + 2 => i + 2 : Nat), fun i X hi => hf _ X (g i X hi), fun i j X Y hij hi hj => ?_⟩
  have hi' := g i X hi
  have hj' := g j Y hj
  match i, j, hij with
  | 0, 1, _ =>
    rcases hd 0 1 Y X (by omega) hj' hi' with ⟨e1, e2⟩ | e
    · exact .inl ⟨e2, e1⟩
    · exact .inr fun x hx hx' => e x hx' hx
  | 0, j + 2, _ => exact hd 1 (j + 2) X Y (by omega) hi' hj'
  | 1, j + 2, _ => exact hd 0 (j + 2) X Y (by omega) hi' hj'
  | i + 2, j + 2, h => exact hd (i + 2) (j + 2) X Y (by omega) hi' hj'
  | 0, 0, h => omega
  | i + 1, 0, h => omega
  | i + 1, 1, h => omega
theorem rawH_open {G : Nat → Prop} {w0 w : World} {L : List Asn} {B M : Nat} {v : Value} {rows : List Row} (S : St G w0 w (rawH B M v rows :: L)) :
    St G w0 w (MapA false Tryd.prog 54 Key.cells M (posMap rows) :: Own 120 Row.cells 11 v rows :: Blk false B #[v, .map (some M)] 115 :: L) := ((S.open_sep rfl rfl).swap2).open_sep rfl rfl
theorem rawH_st {B M : Nat} {v : Value} {rows : List Row} {w : World} {F : Nat → Prop} (h : (rawH B M v rows).at_ w F) :
    St F w w [MapA false Tryd.prog 54 Key.cells M (posMap rows), Own 120 Row.cells 11 v rows, Blk false B #[v, .map (some M)] 115] := rawH_open (St.one w h)
theorem rawH_close {G : Nat → Prop} {w0 w : World} {L : List Asn} {B M : Nat} {v : Value} {rows : List Row} (S : St G w0 w (MapA false Tryd.prog 54 Key.cells M (posMap rows) :: Own 120 Row.cells 11 v rows :: Blk false B #[v, .map (some M)] 115 :: L)) :
    St G w0 w (rawH B M v rows :: L) := (S.close_sep rfl rfl).swap2.close_sep rfl rfl
/-- A heap that is only read. -/
theorem rawR_st {B M : Nat} {v : Value} {rows : List Row} {w : World} {F : Nat → Prop} (h : (rawH B M v rows).at_ w F) :
    St (fun _ => False) w w [MapA true Tryd.prog 54 Key.cells M (posMap rows), Sl true Row.cells 11 v rows, Blk true B #[v, .map (some M)] 115] := by
  obtain ⟨F1, F2, h1, ⟨F3, F4, h3, h4, _, _⟩, _, _⟩ := h
  have S0 : St (fun _ => False) w w [Blk true B #[v, .map (some M)] 115] := (St.init _ w).share rfl rfl h1
  have S1 := S0.share (A := Sl true Row.cells 11 v rows) rfl rfl (own_sl (sh := true) hcells h4)
  exact S1.share (A := MapA true Tryd.prog 54 Key.cells M (posMap rows)) rfl rfl h3
theorem own_head {G : Nat → Prop} {w0 w : World} {L : List Asn} {v : Value} {rows : List Row} (i : Nat) (S : St G w0 w L) (hi : L[i]? = some (Own 120 Row.cells 11 v rows)) (h0 : 0 < rows.length) : ∃ R c, v = .slice (some ⟨R, 0, none⟩) rows.length c ∧ rows.length ≤ c := by
  obtain ⟨F1, h1, _⟩ := S.get hi
  obtain ⟨R, c, cur, e, hO⟩ := h1.some (by omega)
  exact ⟨R, c, e, hO.le⟩
theorem ahead_calls (B M i j : Nat) (v : Value) (rows : List Row) (r r' : Row) (w : World) (F : Nat → Prop) (h : (rawH B M v rows).at_ w F) (hi : rows[i]? = some r) (hj : rows[j]? = some r') :
    Calls Tryd.prog 77 #[.pointer (some ⟨B, 0, none⟩), .int .i64 i, .int .i64 j] w fun e w' => e = .returned (.bool (r.key.lt r'.key)) ∧ Below w.heap.size w w' := by
  have S := rawR_st h
  have hi1 : (i : Int) < rows.length := by have := (List.getElem?_eq_some_iff.1 hi).1; omega
  have hj1 : (j : Int) < rows.length := by have := (List.getElem?_eq_some_iff.1 hj).1; omega
  obtain ⟨ad, cp, rfl, _⟩ := (S.sl 1 rfl).elim fun _ h => h.form
  obtain ⟨R, o, rfl⟩ : ∃ R o, ad = some ⟨R, o, none⟩ := (S.sl 1 rfl).elim fun F h => h.head (by omega)
  have Hi := Lib.hid hi
  have Hj := Lib.hid hj
  clear hi hj
  clear h
  go_enter Tryd.func77, Tryd.ntmps77
  go_wp2_with first | ((with_reducible apply wps_loada_el S 1 (hj := Hi.out) (q := 0) (vs := [.int .i64 r.key.at_, .int .i64 r.key.src, .int .i64 r.key.sent, .int .i64 r.key.no]) (m := 4)); (case hx | hi => rfl); (case hn => omega); (case hm | hv => rfl); (case hT => decide +kernel)) | ((with_reducible apply wps_loada_el S 1 (hj := Hi.out) (q := 4) (vs := [.int .i64 r.v.key.at_, .int .i64 r.v.key.src, .int .i64 r.v.key.sent, .int .i64 r.v.key.no]) (m := 4)); (case hx | hi => rfl); (case hn => omega); (case hm | hv => rfl); (case hT => decide +kernel)) | ((with_reducible apply wps_loada_el S 1 (hj := Hj.out) (q := 0) (vs := [.int .i64 r'.key.at_, .int .i64 r'.key.src, .int .i64 r'.key.sent, .int .i64 r'.key.no]) (m := 4)); (case hx | hi => rfl); (case hn => omega); (case hm | hv => rfl); (case hT => decide +kernel)) | ((with_reducible apply wps_loada_el S 1 (hj := Hj.out) (q := 4) (vs := [.int .i64 r'.v.key.at_, .int .i64 r'.v.key.src, .int .i64 r'.v.key.sent, .int .i64 r'.v.key.no]) (m := 4)); (case hx | hi => rfl); (case hn => omega); (case hm | hv => rfl); (case hT => decide +kernel)) | (go_at_call 53; refine Calls.mono (compare_calls _ _ _ _ _ _ _ _ _) ?_; rintro e wz ⟨rfl, hE⟩; replace S := S.ext (Keep.of_below hE); clear hE) | ((with_reducible refine tot_done ?ht ?_); (case ht => kernel_rfl)) | ((with_reducible apply wps_text S); (case hm => kernel_rfl); (case hB => decide +kernel); clear S; intro wz S) | ((with_reducible apply wps_load S 0); (case hx | hi | hu => rfl); (case hT => decide +kernel)) | ((with_reducible apply wps_loada (T := 54) (k := 4) S 0); (case hx | hi => rfl); (case hk => exact Nat.le_of_ble_eq_true rfl); (case hT => decide +kernel)) | ((with_reducible apply wps_load S 1); (case hx | hi | hu => rfl); (case hT => decide +kernel)) | ((with_reducible apply wps_loada (T := 54) (k := 4) S 1); (case hx | hi => rfl); (case hk => exact Nat.le_of_ble_eq_true rfl); (case hT => decide +kernel)) | ((with_reducible apply wps_load S 2); (case hx | hi | hu => rfl); (case hT => decide +kernel)) | ((with_reducible apply wps_loada (T := 54) (k := 4) S 2); (case hx | hi => rfl); (case hk => exact Nat.le_of_ble_eq_true rfl); (case hT => decide +kernel)) | ((with_reducible apply wps_load S 3); (case hx | hi | hu => rfl); (case hT => decide +kernel)) | ((with_reducible apply wps_loada (T := 54) (k := 4) S 3); (case hx | hi => rfl); (case hk => exact Nat.le_of_ble_eq_true rfl); (case hT => decide +kernel))
  go_ret
  exact ⟨ret_bool (Key.cmp_neg _ _), S.below⟩
def HPost (F : Nat → Prop) (B M : Nat) (v : Value) (rows : List Row) (w : World) (e : Ending) (w' : World) : Prop := e = .returned (.tuple #[]) ∧ St F w w' [rawH B M v rows]
theorem ahead_int (B M : Nat) (i j : Int) (v : Value) (rows : List Row) (r r' : Row) (w : World) (F : Nat → Prop) (h : (rawH B M v rows).at_ w F) (hi0 : 0 ≤ i) (hj0 : 0 ≤ j) (hi : rows[i.toNat]? = some r) (hj : rows[j.toNat]? = some r') :
    Calls Tryd.prog 77 #[.pointer (some ⟨B, 0, none⟩), .int .i64 i, .int .i64 j] w fun e w' => e = .returned (.bool (r.key.lt r'.key)) ∧ Below w.heap.size w w' := by
  obtain ⟨n, rfl⟩ := Int.eq_ofNat_of_zero_le hi0
  obtain ⟨m, rfl⟩ := Int.eq_ofNat_of_zero_le hj0
  exact ahead_calls B M n m v rows r r' w F h hi hj
set_option maxHeartbeats 1000000 in
set_option maxRecDepth 100000 in
theorem swap_calls (B M i j : Nat) (v : Value) (rows : List Row) (r r' : Row) (w : World) (F : Nat → Prop) (h : (rawH B M v rows).at_ w F) (hd : (rows.map (·.key)).Nodup) (hi : rows[i]? = some r) (hj : rows[j]? = some r') (hne : i ≠ j) :
    Calls Tryd.prog 78 #[.pointer (some ⟨B, 0, none⟩), .int .i64 i, .int .i64 j] w (HPost F B M v (xch rows i j r r') w) := by
  have S := rawH_st h
  have hi1 : (i : Int) < rows.length := by have := (List.getElem?_eq_some_iff.1 hi).1; omega
  have hj1 : (j : Int) < rows.length := by have := (List.getElem?_eq_some_iff.1 hj).1; omega
  obtain ⟨R, cp, rfl, _⟩ := own_head 1 S rfl (by omega)
  have HJ2 := Lib.hid (show (rows.set i r')[j]? = some r' by rw [List.getElem?_set_ne hne]; exact hj)
  have HI3 := Lib.hid (show ((rows.set i r').set j r)[i]? = some r' by show (xch rows i j r r')[i]? = _; rw [xch_get hi hj, if_neg hne, if_pos rfl])
  have HJ3 := Lib.hid (show ((rows.set i r').set j r)[j]? = some r by show (xch rows i j r r')[j]? = _; rw [xch_get hi hj, if_pos rfl])
  have HE := Lib.hid (posMap_xch hd hi hj (xch_perm hi hj))
  have Hi := Lib.hid hi
  have Hj := Lib.hid hj
  clear hi hj
  clear h hd
  go_enter Tryd.func78, Tryd.ntmps78
  go_wp2_with first | ((with_reducible apply wps_loada_own hcells S 1 (hj := Hi.out) (q := 0) (vs := [.int .i64 r.key.at_, .int .i64 r.key.src, .int .i64 r.key.sent, .int .i64 r.key.no, .int .i64 r.v.key.at_, .int .i64 r.v.key.src, .int .i64 r.v.key.sent, .int .i64 r.v.key.no, .int .i64 r.v.dst, .int .i64 r.v.kind, .int .i64 r.v.data]) (m := 11)); (case hx | hi => rfl); (case hn => omega); (case hm | hv => rfl); (case hT => decide +kernel)) | ((with_reducible apply wps_loada_own hcells S 1 (hj := Hi.out) (q := 0) (vs := [.int .i64 r.key.at_, .int .i64 r.key.src, .int .i64 r.key.sent, .int .i64 r.key.no]) (m := 4)); (case hx | hi => rfl); (case hn => omega); (case hm | hv => rfl); (case hT => decide +kernel)) | ((with_reducible apply wps_loada_own hcells S 1 (hj := Hi.out) (q := 4) (vs := [.int .i64 r.v.key.at_, .int .i64 r.v.key.src, .int .i64 r.v.key.sent, .int .i64 r.v.key.no]) (m := 4)); (case hx | hi => rfl); (case hn => omega); (case hm | hv => rfl); (case hT => decide +kernel)) | ((with_reducible apply wps_loada_own hcells S 1 (hj := Hj.out) (q := 0) (vs := [.int .i64 r'.key.at_, .int .i64 r'.key.src, .int .i64 r'.key.sent, .int .i64 r'.key.no, .int .i64 r'.v.key.at_, .int .i64 r'.v.key.src, .int .i64 r'.v.key.sent, .int .i64 r'.v.key.no, .int .i64 r'.v.dst, .int .i64 r'.v.kind, .int .i64 r'.v.data]) (m := 11)); (case hx | hi => rfl); (case hn => omega); (case hm | hv => rfl); (case hT => decide +kernel)) | ((with_reducible apply wps_loada_own hcells S 1 (hj := Hj.out) (q := 0) (vs := [.int .i64 r'.key.at_, .int .i64 r'.key.src, .int .i64 r'.key.sent, .int .i64 r'.key.no]) (m := 4)); (case hx | hi => rfl); (case hn => omega); (case hm | hv => rfl); (case hT => decide +kernel)) | ((with_reducible apply wps_loada_own hcells S 1 (hj := Hj.out) (q := 4) (vs := [.int .i64 r'.v.key.at_, .int .i64 r'.v.key.src, .int .i64 r'.v.key.sent, .int .i64 r'.v.key.no]) (m := 4)); (case hx | hi => rfl); (case hn => omega); (case hm | hv => rfl); (case hT => decide +kernel)) | ((with_reducible apply wps_store_owna hcells S 1 (hj := Hi.out) (e' := r') (q := 0) (vs := [.int .i64 r'.key.at_, .int .i64 r'.key.src, .int .i64 r'.key.sent, .int .i64 r'.key.no, .int .i64 r'.v.key.at_, .int .i64 r'.v.key.src, .int .i64 r'.v.key.sent, .int .i64 r'.v.key.no, .int .i64 r'.v.dst, .int .i64 r'.v.kind, .int .i64 r'.v.data]) (m := 11)); (case hx => rfl); (case hn => omega); (case hi | hy | hm | h1 | he => rfl); (case hq => exact Nat.le_of_ble_eq_true rfl); (case hT => decide +kernel); clear S; intro wz S; simp only [List.set_cons_succ, List.set_cons_zero] at S) | ((with_reducible apply wps_store_owna hcells S 1 (hj := HJ2.out) (e' := r) (q := 0) (vs := [.int .i64 r.key.at_, .int .i64 r.key.src, .int .i64 r.key.sent, .int .i64 r.key.no, .int .i64 r.v.key.at_, .int .i64 r.v.key.src, .int .i64 r.v.key.sent, .int .i64 r.v.key.no, .int .i64 r.v.dst, .int .i64 r.v.kind, .int .i64 r.v.data]) (m := 11)); (case hx => rfl); (case hn => omega); (case hi | hy | hm | h1 | he => rfl); (case hq => exact Nat.le_of_ble_eq_true rfl); (case hT => decide +kernel); clear S; intro wz S; simp only [List.set_cons_succ, List.set_cons_zero] at S) | ((with_reducible apply wps_loada_own hcells S 1 (hj := HI3.out) (q := 0) (vs := [.int .i64 r'.key.at_, .int .i64 r'.key.src, .int .i64 r'.key.sent, .int .i64 r'.key.no, .int .i64 r'.v.key.at_, .int .i64 r'.v.key.src, .int .i64 r'.v.key.sent, .int .i64 r'.v.key.no, .int .i64 r'.v.dst, .int .i64 r'.v.kind, .int .i64 r'.v.data]) (m := 11)); (case hx | hi => rfl); (case hn => omega); (case hm | hv => rfl); (case hT => decide +kernel)) | ((with_reducible apply wps_loada_own hcells S 1 (hj := HI3.out) (q := 0) (vs := [.int .i64 r'.key.at_, .int .i64 r'.key.src, .int .i64 r'.key.sent, .int .i64 r'.key.no]) (m := 4)); (case hx | hi => rfl); (case hn => omega); (case hm | hv => rfl); (case hT => decide +kernel)) | ((with_reducible apply wps_loada_own hcells S 1 (hj := HI3.out) (q := 4) (vs := [.int .i64 r'.v.key.at_, .int .i64 r'.v.key.src, .int .i64 r'.v.key.sent, .int .i64 r'.v.key.no]) (m := 4)); (case hx | hi => rfl); (case hn => omega); (case hm | hv => rfl); (case hT => decide +kernel)) | ((with_reducible apply wps_loada_own hcells S 1 (hj := HJ3.out) (q := 0) (vs := [.int .i64 r.key.at_, .int .i64 r.key.src, .int .i64 r.key.sent, .int .i64 r.key.no, .int .i64 r.v.key.at_, .int .i64 r.v.key.src, .int .i64 r.v.key.sent, .int .i64 r.v.key.no, .int .i64 r.v.dst, .int .i64 r.v.kind, .int .i64 r.v.data]) (m := 11)); (case hx | hi => rfl); (case hn => omega); (case hm | hv => rfl); (case hT => decide +kernel)) | ((with_reducible apply wps_loada_own hcells S 1 (hj := HJ3.out) (q := 0) (vs := [.int .i64 r.key.at_, .int .i64 r.key.src, .int .i64 r.key.sent, .int .i64 r.key.no]) (m := 4)); (case hx | hi => rfl); (case hn => omega); (case hm | hv => rfl); (case hT => decide +kernel)) | ((with_reducible apply wps_loada_own hcells S 1 (hj := HJ3.out) (q := 4) (vs := [.int .i64 r.v.key.at_, .int .i64 r.v.key.src, .int .i64 r.v.key.sent, .int .i64 r.v.key.no]) (m := 4)); (case hx | hi => rfl); (case hn => omega); (case hm | hv => rfl); (case hT => decide +kernel)) | ((with_reducible apply wps_mapUpdate keyed Tryd.underlying112 S 0 (k := r'.key) (v := .int .i64 i)); (case hx | hi => rfl); (case hy => exact (wholeKey _).symm); (case hz => rfl); clear S; intro wz S; simp only [List.set_cons_zero] at S) | ((with_reducible apply wps_mapUpdate keyed Tryd.underlying112 S 0 (k := r.key) (v := .int .i64 j)); (case hx | hi => rfl); (case hy => exact (wholeKey _).symm); (case hz => rfl); clear S; intro wz S; simp only [List.set_cons_zero] at S) | ((with_reducible refine tot_done ?ht ?_); (case ht => kernel_rfl)) | ((with_reducible apply wps_text S); (case hm => kernel_rfl); (case hB => decide +kernel); clear S; intro wz S) | ((with_reducible apply wps_load S 0); (case hx | hi | hu => rfl); (case hT => decide +kernel)) | ((with_reducible apply wps_loada (T := 54) (k := 4) S 0); (case hx | hi => rfl); (case hk => exact Nat.le_of_ble_eq_true rfl); (case hT => decide +kernel)) | ((with_reducible apply wps_loada (T := 120) (k := 11) S 0); (case hx | hi => rfl); (case hk => exact Nat.le_of_ble_eq_true rfl); (case hT => decide +kernel)) | ((with_reducible apply wps_load S 1); (case hx | hi | hu => rfl); (case hT => decide +kernel)) | ((with_reducible apply wps_loada (T := 54) (k := 4) S 1); (case hx | hi => rfl); (case hk => exact Nat.le_of_ble_eq_true rfl); (case hT => decide +kernel)) | ((with_reducible apply wps_loada (T := 120) (k := 11) S 1); (case hx | hi => rfl); (case hk => exact Nat.le_of_ble_eq_true rfl); (case hT => decide +kernel)) | ((with_reducible apply wps_load S 2); (case hx | hi | hu => rfl); (case hT => decide +kernel)) | ((with_reducible apply wps_loada (T := 54) (k := 4) S 2); (case hx | hi => rfl); (case hk => exact Nat.le_of_ble_eq_true rfl); (case hT => decide +kernel)) | ((with_reducible apply wps_loada (T := 120) (k := 11) S 2); (case hx | hi => rfl); (case hk => exact Nat.le_of_ble_eq_true rfl); (case hT => decide +kernel)) | ((with_reducible apply wps_load S 3); (case hx | hi | hu => rfl); (case hT => decide +kernel)) | ((with_reducible apply wps_loada (T := 54) (k := 4) S 3); (case hx | hi => rfl); (case hk => exact Nat.le_of_ble_eq_true rfl); (case hT => decide +kernel)) | ((with_reducible apply wps_loada (T := 120) (k := 11) S 3); (case hx | hi => rfl); (case hk => exact Nat.le_of_ble_eq_true rfl); (case hT => decide +kernel))
  go_end0
  refine ⟨rfl, ?_⟩
  rw [HE.out] at S
  exact rawH_close S
end Go.Proofs.YthegonbbimmhhaaDoor
