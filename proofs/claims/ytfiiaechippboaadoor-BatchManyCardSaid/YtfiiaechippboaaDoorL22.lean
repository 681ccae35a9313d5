import Derived.Test.YtfiiaechippboaaDoorL21
/- The walk of the reference machine's Run. -/
namespace Go.Proofs.YtfiiaechippboaaDoor
open Go Go.RowKit Reg Mem

def RRunRel (Rm bo : Nat) (cso : Array Value) (p : List Instr) (vp : Value) (s : State) (e : Event) (N : Nat) (fan : Int) (w : World) (steps : Value) (wr : World) : Prop :=
  ∃ (k : Nat) (m : Mach) (vs : Value), k ≤ N ∧ steps = .int .i64 k ∧ Hid (stepsE p e fan (N - k) m = stepsE p e fan N (startE s)) ∧ Hid (m.cs.length = 8) ∧ Hid (0 ≤ m.at_) ∧ Hid (m.sent.length ≤ k) ∧
    St (fun _ => False) w wr [Blk false Rm (rmCells e vp m fan vs) 119, Own 91 Emit.cells 4 vs m.sent, Sl true Instr.cells 5 vp p, Blk false bo cso 28]
/-- What Run leaves. -/
def RRunPost (m : Mach) (w : World) (r : Ending) (w' : World) : Prop :=
  ∃ (k : Int) (ad : Option Addr) (c : Nat), r = .returned (.tuple #[.agg #[.int .i64 m.state.n0, .int .i64 m.state.n1, .int .i64 m.state.n2, .int .i64 m.state.n3], .slice ad m.sent.length c, .int .i64 k]) ∧ St (fun _ => False) w w' [Own 91 Emit.cells 4 (.slice ad m.sent.length c) m.sent]
def RR2Rel (Rm bo b2 : Nat) (cso : Array Value) (vp vs : Value) (e : Event) (m : Mach) (fan : Int) (w : World) (i : Value) (wr : World) : Prop :=
  ∃ (k : Nat) (a b c d : Int), i = .int .i64 k ∧ ((k = 0 ∧ a = 0 ∧ b = 0 ∧ c = 0 ∧ d = 0) ∨ (k = 1 ∧ a = m.get 0 ∧ b = 0 ∧ c = 0 ∧ d = 0) ∨ (k = 2 ∧ a = m.get 0 ∧ b = m.get 1 ∧ c = 0 ∧ d = 0) ∨ (k = 3 ∧ a = m.get 0 ∧ b = m.get 1 ∧ c = m.get 2 ∧ d = 0) ∨ (k = 4 ∧ a = m.get 0 ∧ b = m.get 1 ∧ c = m.get 2 ∧ d = m.get 3)) ∧
    St (fun _ => False) w wr [Blk false b2 #[.int .i64 a, .int .i64 b, .int .i64 c, .int .i64 d] 28, Blk false Rm (rmCells e vp m fan vs) 119, Own 91 Emit.cells 4 vs m.sent, Blk false bo cso 28]
set_option maxRecDepth 100000 in
set_option maxHeartbeats 8000000 in
theorem rrun_calls (ad : Option Addr) (cap : Nat) (p : List Instr) (s : State) (e : Event) (fuel fan : Int) (w : World) (F : Nat → Prop) (h : (Sl true Instr.cells 5 (.slice ad p.length cap) p).at_ w F) (hp : p.length ≤ 64) (hf : 0 ≤ fuel) :
    Calls Tryd.prog 39 #[.slice ad p.length cap, .agg #[.int .i64 s.n0, .int .i64 s.n1, .int .i64 s.n2, .int .i64 s.n3], .agg #[.int .i64 e.key.at_, .int .i64 e.key.src, .int .i64 e.key.sent, .int .i64 e.key.no, .int .i64 e.dst, .int .i64 e.kind, .int .i64 e.data], .int .i64 fuel, .int .i64 fan] w (RRunPost (runE p s e fuel fan) w) := by
  have S : St (fun _ => False) w w [Sl true Instr.cells 5 (.slice ad p.length cap) p] := (St.init _ w).share rfl rfl h
  clear h
  obtain ⟨N, hN, hN2⟩ : ∃ N : Nat, N ≤ 1024 ∧ min fuel 1024 = N := ⟨(min fuel 1024).toNat, by omega, by omega⟩
  have HR : Hid (runE p s e fuel fan = stepsE p e fan N (startE s)) := by show _ = _; unfold runE; congr 1; omega
  have HV := Lib.hid fun w F h => rnew_calls ad cap p s e fan w F h hp
  generalize runE p s e fuel fan = mE at *
  generalize hvp : Value.slice ad p.length cap = vp at *
  clear hvp
  have HN2 := Lib.hid hN2
  clear hN2
  go_enter Tryd.func39, Tryd.ntmps39
  go_wp2_with first | ((with_reducible apply wps_boxa (E := 28) S); (case hx => rfl); clear S; intro bs wz S) | ((with_reducible apply wps_boxa (E := 54) S); (case hx => rfl); clear S; intro be wz S) | ((with_reducible apply wps_alloca (E := 28) S); (case hz => exact Tryd.zeroValue28); clear S; intro bo wz S) | ((with_reducible apply wps_loada (T := 54) (k := 7) S 1); (case hx | hi => rfl); (case hk => exact Nat.le_of_ble_eq_true rfl); (case hT => decide +kernel)) | ((with_reducible apply wps_loada (T := 28) (k := 4) S 2); (case hx | hi => rfl); (case hk => exact Nat.le_of_ble_eq_true rfl); (case hT => decide +kernel))
  refine Calls.mono (HV.out _ _ (S.get (i := 3) rfl).choose_spec) ?_
  rintro r wz ⟨Rm, rfl, T⟩
  replace S := (S.join T rfl).pick [0, 1, 5, 2] rfl
  simp only [List.cons_append, List.nil_append, pick, nth] at S
  clear T HV
  go_wp2_with first | ((with_reducible apply wps_loada (T := 54) (k := 7) S 0); (case hx | hi => rfl); (case hk => exact Nat.le_of_ble_eq_true rfl); (case hT => decide +kernel))
  go_loopw [14] (fun steps wr => RRunRel Rm bo #[.int .i64 0, .int .i64 0, .int .i64 0, .int .i64 0] p vp s e N fan w steps wr) (fun i _ => N - (intOf i).toNat)
  case atStart => exact ⟨0, startE s, nilS, Nat.zero_le _, rfl, rfl, rfl, Int.le_refl _, Nat.le_refl _, S⟩
  case round =>
    clear S
    obtain ⟨k, m, vs, hk, rfl, Hs, H8, Ha, Hl, S⟩ := hrel
    obtain ⟨q, hq⟩ : ∃ q : Nat, m.at_ = q := ⟨m.at_.toNat, by have := Ha.out; omega⟩
    have hmm : m = ⟨m.cs, (q : Int), m.sent⟩ := by rw [← hq]
    by_cases hkN : k < N
    · have k1 : (k : Int) < fuel := by have := HN2.out; omega
      have k2 : (k : Int) < 1024 := by omega
      have hu : N - k = (N - (k + 1)) + 1 := by omega
      have hu2 : stepsE p e fan (N - k) m = match stepE p e fan m with | none => m | some n => stepsE p e fan (N - (k + 1)) n := by rw [hu]; rfl
      have HC := Lib.hid fun (F : Nat → Prop) w S => rstep_calls F w Rm e vp vs fan m.cs q m.sent p (by rw [← hmm]; exact S) H8.out (by have := Hl.out; omega) hp
      rw [← hmm] at HC
      cases ho : stepE p e fan m with
      | none =>
        rw [ho] at hu2 HC
        have HE : Hid (mE = m) := by show _ = _; rw [HR.out, ← Hs.out, hu2]
        clear hu2 hq ho hmm
        have e1 := HE.out.symm
        subst e1
        clear HE HR Hs
        go_wp2_with first | (go_at_call 57; obtain ⟨Fz, SF, hBk⟩ := S.lend [0,1] [2] [2,3] rfl rfl rfl; simp only [List.cons_append, List.nil_append, pick, nth] at SF; refine Calls.mono (HC.out Fz _ SF) ?_; rintro r wz ⟨vs', rfl, T⟩; replace S := hBk _ _ T rfl; clear hBk SF T; simp only [List.cons_append, List.nil_append, pick, nth, Option.getD_none] at S) | ((with_reducible apply wps_alloca (E := 28) S); (case hz => exact Tryd.zeroValue28); clear S; intro b2 wz S)
        replace S := S.pick [0, 1, 2, 4] rfl
        repeat (first | simp only at S | simp only [pick] at S | simp only [nth] at S | simp only [List.set_cons_succ] at S | simp only [List.set_cons_zero] at S | simp only [List.setIfInBounds_toArray] at S | simp only [setAll] at S | simp only [List.cons_append] at S | simp only [List.nil_append] at S | simp only [List.append_nil] at S)
        obtain ⟨ade, ce, rfl⟩ : ∃ a c, _ = Value.slice a m.sent.length c := (S.get (i := 2) rfl).elim fun F h => h.1.form
        go_loopw [16] (fun i wr => RR2Rel Rm bo b2 #[.int .i64 0, .int .i64 0, .int .i64 0, .int .i64 0] vp (.slice ade m.sent.length ce) e m fan w i wr) (fun i _ => 4 - (intOf i).toNat)
        case atStart => exact ⟨0, 0, 0, 0, 0, rfl, .inl ⟨rfl, rfl, rfl, rfl, rfl⟩, S⟩
        case round =>
          clear S
          obtain ⟨k, a, b, c, d, rfl, hk, S⟩ := hrel
          rcases hk with ⟨rfl, rfl, rfl, rfl, rfl⟩ | ⟨rfl, rfl, rfl, rfl, rfl⟩ | ⟨rfl, rfl, rfl, rfl, rfl⟩ | ⟨rfl, rfl, rfl, rfl, rfl⟩ | ⟨rfl, rfl, rfl, rfl, rfl⟩
          · skip
            go_wp2_with first | ((with_reducible apply wps_load S 1 (hu := rm_cell (m:=m) (a:=0) H8.out (by decide))); (case hx | hi => rfl); (case hT => decide +kernel)) | ((with_reducible apply wps_store S 0); (case hx | hy | hi | h1 => rfl); (case hn => exact Nat.le_of_ble_eq_true rfl); (case hT => decide +kernel); clear S; intro wz S; simp only [List.set_cons_zero, List.setIfInBounds_toArray] at S)
            go_roundw
            case rel => exact ⟨1, _, _, _, _, by go_num, by simp, S⟩
            case measure => first | (simp [intOf]; done) | (simp [intOf]; omega)
          · skip
            go_wp2_with first | ((with_reducible apply wps_load S 1 (hu := rm_cell (m:=m) (a:=1) H8.out (by decide))); (case hx | hi => rfl); (case hT => decide +kernel)) | ((with_reducible apply wps_store S 0); (case hx | hy | hi | h1 => rfl); (case hn => exact Nat.le_of_ble_eq_true rfl); (case hT => decide +kernel); clear S; intro wz S; simp only [List.set_cons_succ, List.set_cons_zero, List.setIfInBounds_toArray] at S)
            go_roundw
            case rel => exact ⟨2, _, _, _, _, by go_num, by simp, S⟩
            case measure => first | (simp [intOf]; done) | (simp [intOf]; omega)
          · skip
            go_wp2_with first | ((with_reducible apply wps_load S 1 (hu := rm_cell (m:=m) (a:=2) H8.out (by decide))); (case hx | hi => rfl); (case hT => decide +kernel)) | ((with_reducible apply wps_store S 0); (case hx | hy | hi | h1 => rfl); (case hn => exact Nat.le_of_ble_eq_true rfl); (case hT => decide +kernel); clear S; intro wz S; simp only [List.set_cons_succ, List.set_cons_zero, List.setIfInBounds_toArray] at S)
            go_roundw
            case rel => exact ⟨3, _, _, _, _, by go_num, by simp, S⟩
            case measure => first | (simp [intOf]; done) | (simp [intOf]; omega)
          · skip
            go_wp2_with first | ((with_reducible apply wps_load S 1 (hu := rm_cell (m:=m) (a:=3) H8.out (by decide))); (case hx | hi => rfl); (case hT => decide +kernel)) | ((with_reducible apply wps_store S 0); (case hx | hy | hi | h1 => rfl); (case hn => exact Nat.le_of_ble_eq_true rfl); (case hT => decide +kernel); clear S; intro wz S; simp only [List.set_cons_succ, List.set_cons_zero, List.setIfInBounds_toArray] at S)
            go_roundw
            case rel => exact ⟨4, _, _, _, _, by go_num, by simp, S⟩
            case measure => first | (simp [intOf]; done) | (simp [intOf]; omega)
          · go_wp2_with first | ((with_reducible apply wps_loada (T := 54) (k := 7) S 0); (case hx | hi => rfl); (case hk => exact Nat.le_of_ble_eq_true rfl); (case hT => decide +kernel))
            (refine wp_region_wt (soft := [0, 1, 2, 3, 4, 5]) (L := [_, _, _]) (T := [_]) S ?hm ?hB ?_); (case hm => kernel_rfl); (case hB => decide +kernel); clear S
            iterate 6
              (with_reducible apply softs_cons)
              (case hw =>
                (with_reducible apply soft_of); (case hi => rfl)
                intro T wz S
                simp only [List.cons_append, List.nil_append] at S
                go_wp2_with first | ((with_reducible apply wps_load S 1 (hu := rm_sent (m:=m) H8.out)); (case hx | hi => rfl); (case hT => decide +kernel)) | ((with_reducible refine tot_done ?ht ?_); (case ht => kernel_rfl)) | ((with_reducible apply wps_loada (T := 28) (k := 4) S 0); (case hx | hi => rfl); (case hk => exact Nat.le_of_ble_eq_true rfl); (case hT => decide +kernel))
                exact ⟨rfl, S⟩)
              (case hs => exact ⟨_, rfl, by kernel_rfl⟩)
            refine softs_nil ?_
            repeat'
              (first
                | ((with_reducible apply W_hard1 (i := 6)); (case hn => rfl); (case hr => decide +kernel)) | ((with_reducible apply W_hard1 (i := 7)); (case hn => rfl); (case hr => decide +kernel)) | ((with_reducible apply W_hard1 (i := 8)); (case hn => rfl); (case hr => decide +kernel)) | ((with_reducible apply W_hard2 (i := 7) (i' := 8)); (case hn => rfl); (case hr => decide +kernel)))
              all_goals
                intro wz S
                (with_reducible apply hard_of); (case hi => rfl)
                simp only [List.cons_append, List.nil_append] at S
                try simp only [pick, nth] at S
                go_wp2_with first | ((with_reducible apply wps_storea (T := 28) S 3 (vs := [.int .i64 (m.get 0), .int .i64 (m.get 1), .int .i64 (m.get 2), .int .i64 (m.get 3)]) (m := 4)); (case hx | hy | hi | hm | h1 => rfl); (case hn => exact Nat.le_of_ble_eq_true rfl); (case hT => decide +kernel); clear S; intro wz S; simp only [List.set_cons_zero, List.set_cons_succ, setAll, List.setIfInBounds_toArray] at S) | ((with_reducible refine tot_done ?ht ?_); (case ht => kernel_rfl))
                first
                  | refine ⟨_, S.pick [1, 2, 3, 4, 0] rfl, ?_⟩
                  | refine ⟨_, S.pick [1, 2, 3, 0] rfl, ?_⟩
                  | refine ⟨_, S, ?_⟩
            all_goals
              (with_reducible apply W_done); (case hn => rfl); (case hr => decide +kernel)
              clear S
              intro wz S
              simp only [List.cons_append, List.nil_append] at S
              try simp only [pick, nth] at S
              go_wp2_with first | ((with_reducible apply wps_loada (T := 54) (k := 7) S 0); (case hx | hi => rfl); (case hk => exact Nat.le_of_ble_eq_true rfl); (case hT => decide +kernel))
              (try simp only [Exit.inBlock, Exit.then]); refine bodyPost_ret (results3 rfl (S.resA 3 rfl rfl (by kernel_rfl)) (res_tmp rfl) (res_tmp rfl)) rfl ?_
              exact ⟨_, _, _, rfl, S.pick [2] rfl⟩
      | some m2 =>
        rw [ho] at hu2 HC
        obtain ⟨g1, g2, g3⟩ := stepE_ok ho Ha.out
        have HT : Hid (stepsE p e fan (N - (k + 1)) m2 = stepsE p e fan (N - k) m) := by show _ = _; rw [hu2]
        have H82 : Hid (m2.cs.length = 8) := g1.trans H8.out
        have Ha2 : Hid (0 ≤ m2.at_) := g2
        have Hl2 : Hid (m2.sent.length ≤ k + 1) := by show _ ≤ _; have := Hl.out; omega
        clear hu2 hq ho hmm g1 g2 g3
        go_wp2_with first | (go_at_call 57; obtain ⟨Fz, SF, hBk⟩ := S.lend [0,1] [2] [2,3] rfl rfl rfl; simp only [List.cons_append, List.nil_append, pick, nth] at SF; refine Calls.mono (HC.out Fz _ SF) ?_; rintro r wz ⟨vs', rfl, T⟩; replace S := hBk _ _ T rfl; clear hBk SF T; simp only [List.cons_append, List.nil_append, pick, nth, Option.getD_some] at S)
        go_roundw
        case rel => exact ⟨k + 1, m2, vs', by omega, by go_num, HT.out.trans Hs.out, H82.out, Ha2.out, Hl2.out, S⟩
        case measure => first | (simp [intOf]; done) | (simp [intOf]; omega)
    · obtain rfl : k = N := by omega
      have HE : Hid (mE = m) := by show _ = _; rw [HR.out, ← Hs.out, Nat.sub_self]; rfl
      clear hq hmm
      have e1 := HE.out.symm
      subst e1
      clear HE HR Hs
      by_cases hfu : fuel ≤ 1024
      · obtain rfl : fuel = k := by have := HN2.out; omega
        clear hfu
        go_wp2_with first | ((with_reducible apply wps_alloca (E := 28) S); (case hz => exact Tryd.zeroValue28); clear S; intro b2 wz S)
        replace S := S.pick [0, 1, 2, 4] rfl
        repeat (first | simp only at S | simp only [pick] at S | simp only [nth] at S | simp only [List.set_cons_succ] at S | simp only [List.set_cons_zero] at S | simp only [List.setIfInBounds_toArray] at S | simp only [setAll] at S | simp only [List.cons_append] at S | simp only [List.nil_append] at S | simp only [List.append_nil] at S)
        obtain ⟨ade, ce, rfl⟩ : ∃ a c, _ = Value.slice a m.sent.length c := (S.get (i := 2) rfl).elim fun F h => h.1.form
        go_loopw [16] (fun i wr => RR2Rel Rm bo b2 #[.int .i64 0, .int .i64 0, .int .i64 0, .int .i64 0] vp (.slice ade m.sent.length ce) e m fan w i wr) (fun i _ => 4 - (intOf i).toNat)
        case atStart => exact ⟨0, 0, 0, 0, 0, rfl, .inl ⟨rfl, rfl, rfl, rfl, rfl⟩, S⟩
        case round =>
          clear S
          obtain ⟨k, a, b, c, d, rfl, hk, S⟩ := hrel
          rcases hk with ⟨rfl, rfl, rfl, rfl, rfl⟩ | ⟨rfl, rfl, rfl, rfl, rfl⟩ | ⟨rfl, rfl, rfl, rfl, rfl⟩ | ⟨rfl, rfl, rfl, rfl, rfl⟩ | ⟨rfl, rfl, rfl, rfl, rfl⟩
          · skip
            go_wp2_with first | ((with_reducible apply wps_load S 1 (hu := rm_cell (m:=m) (a:=0) H8.out (by decide))); (case hx | hi => rfl); (case hT => decide +kernel)) | ((with_reducible apply wps_store S 0); (case hx | hy | hi | h1 => rfl); (case hn => exact Nat.le_of_ble_eq_true rfl); (case hT => decide +kernel); clear S; intro wz S; simp only [List.set_cons_zero, List.setIfInBounds_toArray] at S)
            go_roundw
            case rel => exact ⟨1, _, _, _, _, by go_num, by simp, S⟩
            case measure => first | (simp [intOf]; done) | (simp [intOf]; omega)
          · skip
            go_wp2_with first | ((with_reducible apply wps_load S 1 (hu := rm_cell (m:=m) (a:=1) H8.out (by decide))); (case hx | hi => rfl); (case hT => decide +kernel)) | ((with_reducible apply wps_store S 0); (case hx | hy | hi | h1 => rfl); (case hn => exact Nat.le_of_ble_eq_true rfl); (case hT => decide +kernel); clear S; intro wz S; simp only [List.set_cons_succ, List.set_cons_zero, List.setIfInBounds_toArray] at S)
            go_roundw
            case rel => exact ⟨2, _, _, _, _, by go_num, by simp, S⟩
            case measure => first | (simp [intOf]; done) | (simp [intOf]; omega)
          · skip
            go_wp2_with first | ((with_reducible apply wps_load S 1 (hu := rm_cell (m:=m) (a:=2) H8.out (by decide))); (case hx | hi => rfl); (case hT => decide +kernel)) | ((with_reducible apply wps_store S 0); (case hx | hy | hi | h1 => rfl); (case hn => exact Nat.le_of_ble_eq_true rfl); (case hT => decide +kernel); clear S; intro wz S; simp only [List.set_cons_succ, List.set_cons_zero, List.setIfInBounds_toArray] at S)
            go_roundw
            case rel => exact ⟨3, _, _, _, _, by go_num, by simp, S⟩
            case measure => first | (simp [intOf]; done) | (simp [intOf]; omega)
          · skip
            go_wp2_with first | ((with_reducible apply wps_load S 1 (hu := rm_cell (m:=m) (a:=3) H8.out (by decide))); (case hx | hi => rfl); (case hT => decide +kernel)) | ((with_reducible apply wps_store S 0); (case hx | hy | hi | h1 => rfl); (case hn => exact Nat.le_of_ble_eq_true rfl); (case hT => decide +kernel); clear S; intro wz S; simp only [List.set_cons_succ, List.set_cons_zero, List.setIfInBounds_toArray] at S)
            go_roundw
            case rel => exact ⟨4, _, _, _, _, by go_num, by simp, S⟩
            case measure => first | (simp [intOf]; done) | (simp [intOf]; omega)
          · go_wp2_with first | ((with_reducible apply wps_loada (T := 54) (k := 7) S 0); (case hx | hi => rfl); (case hk => exact Nat.le_of_ble_eq_true rfl); (case hT => decide +kernel))
            (refine wp_region_wt (soft := [0, 1, 2, 3, 4, 5]) (L := [_, _, _]) (T := [_]) S ?hm ?hB ?_); (case hm => kernel_rfl); (case hB => decide +kernel); clear S
            iterate 6
              (with_reducible apply softs_cons)
              (case hw =>
                (with_reducible apply soft_of); (case hi => rfl)
                intro T wz S
                simp only [List.cons_append, List.nil_append] at S
                go_wp2_with first | ((with_reducible apply wps_load S 1 (hu := rm_sent (m:=m) H8.out)); (case hx | hi => rfl); (case hT => decide +kernel)) | ((with_reducible refine tot_done ?ht ?_); (case ht => kernel_rfl)) | ((with_reducible apply wps_loada (T := 28) (k := 4) S 0); (case hx | hi => rfl); (case hk => exact Nat.le_of_ble_eq_true rfl); (case hT => decide +kernel))
                exact ⟨rfl, S⟩)
              (case hs => exact ⟨_, rfl, by kernel_rfl⟩)
            refine softs_nil ?_
            repeat'
              (first
                | ((with_reducible apply W_hard1 (i := 6)); (case hn => rfl); (case hr => decide +kernel)) | ((with_reducible apply W_hard1 (i := 7)); (case hn => rfl); (case hr => decide +kernel)) | ((with_reducible apply W_hard1 (i := 8)); (case hn => rfl); (case hr => decide +kernel)) | ((with_reducible apply W_hard2 (i := 7) (i' := 8)); (case hn => rfl); (case hr => decide +kernel)))
              all_goals
                intro wz S
                (with_reducible apply hard_of); (case hi => rfl)
                simp only [List.cons_append, List.nil_append] at S
                try simp only [pick, nth] at S
                go_wp2_with first | ((with_reducible apply wps_storea (T := 28) S 3 (vs := [.int .i64 (m.get 0), .int .i64 (m.get 1), .int .i64 (m.get 2), .int .i64 (m.get 3)]) (m := 4)); (case hx | hy | hi | hm | h1 => rfl); (case hn => exact Nat.le_of_ble_eq_true rfl); (case hT => decide +kernel); clear S; intro wz S; simp only [List.set_cons_zero, List.set_cons_succ, setAll, List.setIfInBounds_toArray] at S) | ((with_reducible refine tot_done ?ht ?_); (case ht => kernel_rfl))
                first
                  | refine ⟨_, S.pick [1, 2, 3, 4, 0] rfl, ?_⟩
                  | refine ⟨_, S.pick [1, 2, 3, 0] rfl, ?_⟩
                  | refine ⟨_, S, ?_⟩
            all_goals
              (with_reducible apply W_done); (case hn => rfl); (case hr => decide +kernel)
              clear S
              intro wz S
              simp only [List.cons_append, List.nil_append] at S
              try simp only [pick, nth] at S
              go_wp2_with first | ((with_reducible apply wps_loada (T := 54) (k := 7) S 0); (case hx | hi => rfl); (case hk => exact Nat.le_of_ble_eq_true rfl); (case hT => decide +kernel))
              (try simp only [Exit.inBlock, Exit.then]); refine bodyPost_ret (results3 rfl (S.resA 3 rfl rfl (by kernel_rfl)) (res_tmp rfl) (res_tmp rfl)) rfl ?_
              exact ⟨_, _, _, rfl, S.pick [2] rfl⟩
      · obtain rfl : k = 1024 := by have := HN2.out; omega
        have hfu2 : 1024 < fuel := by omega
        clear hfu
        go_wp2_with first | ((with_reducible apply wps_alloca (E := 28) S); (case hz => exact Tryd.zeroValue28); clear S; intro b2 wz S)
        replace S := S.pick [0, 1, 2, 4] rfl
        repeat (first | simp only at S | simp only [pick] at S | simp only [nth] at S | simp only [List.set_cons_succ] at S | simp only [List.set_cons_zero] at S | simp only [List.setIfInBounds_toArray] at S | simp only [setAll] at S | simp only [List.cons_append] at S | simp only [List.nil_append] at S | simp only [List.append_nil] at S)
        obtain ⟨ade, ce, rfl⟩ : ∃ a c, _ = Value.slice a m.sent.length c := (S.get (i := 2) rfl).elim fun F h => h.1.form
        go_loopw [16] (fun i wr => RR2Rel Rm bo b2 #[.int .i64 0, .int .i64 0, .int .i64 0, .int .i64 0] vp (.slice ade m.sent.length ce) e m fan w i wr) (fun i _ => 4 - (intOf i).toNat)
        case atStart => exact ⟨0, 0, 0, 0, 0, rfl, .inl ⟨rfl, rfl, rfl, rfl, rfl⟩, S⟩
        case round =>
          clear S
          obtain ⟨k, a, b, c, d, rfl, hk, S⟩ := hrel
          rcases hk with ⟨rfl, rfl, rfl, rfl, rfl⟩ | ⟨rfl, rfl, rfl, rfl, rfl⟩ | ⟨rfl, rfl, rfl, rfl, rfl⟩ | ⟨rfl, rfl, rfl, rfl, rfl⟩ | ⟨rfl, rfl, rfl, rfl, rfl⟩
          · skip
            go_wp2_with first | ((with_reducible apply wps_load S 1 (hu := rm_cell (m:=m) (a:=0) H8.out (by decide))); (case hx | hi => rfl); (case hT => decide +kernel)) | ((with_reducible apply wps_store S 0); (case hx | hy | hi | h1 => rfl); (case hn => exact Nat.le_of_ble_eq_true rfl); (case hT => decide +kernel); clear S; intro wz S; simp only [List.set_cons_zero, List.setIfInBounds_toArray] at S)
            go_roundw
            case rel => exact ⟨1, _, _, _, _, by go_num, by simp, S⟩
            case measure => first | (simp [intOf]; done) | (simp [intOf]; omega)
          · skip
            go_wp2_with first | ((with_reducible apply wps_load S 1 (hu := rm_cell (m:=m) (a:=1) H8.out (by decide))); (case hx | hi => rfl); (case hT => decide +kernel)) | ((with_reducible apply wps_store S 0); (case hx | hy | hi | h1 => rfl); (case hn => exact Nat.le_of_ble_eq_true rfl); (case hT => decide +kernel); clear S; intro wz S; simp only [List.set_cons_succ, List.set_cons_zero, List.setIfInBounds_toArray] at S)
            go_roundw
            case rel => exact ⟨2, _, _, _, _, by go_num, by simp, S⟩
            case measure => first | (simp [intOf]; done) | (simp [intOf]; omega)
          · skip
            go_wp2_with first | ((with_reducible apply wps_load S 1 (hu := rm_cell (m:=m) (a:=2) H8.out (by decide))); (case hx | hi => rfl); (case hT => decide +kernel)) | ((with_reducible apply wps_store S 0); (case hx | hy | hi | h1 => rfl); (case hn => exact Nat.le_of_ble_eq_true rfl); (case hT => decide +kernel); clear S; intro wz S; simp only [List.set_cons_succ, List.set_cons_zero, List.setIfInBounds_toArray] at S)
            go_roundw
            case rel => exact ⟨3, _, _, _, _, by go_num, by simp, S⟩
            case measure => first | (simp [intOf]; done) | (simp [intOf]; omega)
          · skip
            go_wp2_with first | ((with_reducible apply wps_load S 1 (hu := rm_cell (m:=m) (a:=3) H8.out (by decide))); (case hx | hi => rfl); (case hT => decide +kernel)) | ((with_reducible apply wps_store S 0); (case hx | hy | hi | h1 => rfl); (case hn => exact Nat.le_of_ble_eq_true rfl); (case hT => decide +kernel); clear S; intro wz S; simp only [List.set_cons_succ, List.set_cons_zero, List.setIfInBounds_toArray] at S)
            go_roundw
            case rel => exact ⟨4, _, _, _, _, by go_num, by simp, S⟩
            case measure => first | (simp [intOf]; done) | (simp [intOf]; omega)
          · go_wp2_with first | ((with_reducible apply wps_loada (T := 54) (k := 7) S 0); (case hx | hi => rfl); (case hk => exact Nat.le_of_ble_eq_true rfl); (case hT => decide +kernel))
            (refine wp_region_wt (soft := [0, 1, 2, 3, 4, 5]) (L := [_, _, _]) (T := [_]) S ?hm ?hB ?_); (case hm => kernel_rfl); (case hB => decide +kernel); clear S
            iterate 6
              (with_reducible apply softs_cons)
              (case hw =>
                (with_reducible apply soft_of); (case hi => rfl)
                intro T wz S
                simp only [List.cons_append, List.nil_append] at S
                go_wp2_with first | ((with_reducible apply wps_load S 1 (hu := rm_sent (m:=m) H8.out)); (case hx | hi => rfl); (case hT => decide +kernel)) | ((with_reducible refine tot_done ?ht ?_); (case ht => kernel_rfl)) | ((with_reducible apply wps_loada (T := 28) (k := 4) S 0); (case hx | hi => rfl); (case hk => exact Nat.le_of_ble_eq_true rfl); (case hT => decide +kernel))
                exact ⟨rfl, S⟩)
              (case hs => exact ⟨_, rfl, by kernel_rfl⟩)
            refine softs_nil ?_
            repeat'
              (first
                | ((with_reducible apply W_hard1 (i := 6)); (case hn => rfl); (case hr => decide +kernel)) | ((with_reducible apply W_hard1 (i := 7)); (case hn => rfl); (case hr => decide +kernel)) | ((with_reducible apply W_hard1 (i := 8)); (case hn => rfl); (case hr => decide +kernel)) | ((with_reducible apply W_hard2 (i := 7) (i' := 8)); (case hn => rfl); (case hr => decide +kernel)))
              all_goals
                intro wz S
                (with_reducible apply hard_of); (case hi => rfl)
                simp only [List.cons_append, List.nil_append] at S
                try simp only [pick, nth] at S
                go_wp2_with first | ((with_reducible apply wps_storea (T := 28) S 3 (vs := [.int .i64 (m.get 0), .int .i64 (m.get 1), .int .i64 (m.get 2), .int .i64 (m.get 3)]) (m := 4)); (case hx | hy | hi | hm | h1 => rfl); (case hn => exact Nat.le_of_ble_eq_true rfl); (case hT => decide +kernel); clear S; intro wz S; simp only [List.set_cons_zero, List.set_cons_succ, setAll, List.setIfInBounds_toArray] at S) | ((with_reducible refine tot_done ?ht ?_); (case ht => kernel_rfl))
                first
                  | refine ⟨_, S.pick [1, 2, 3, 4, 0] rfl, ?_⟩
                  | refine ⟨_, S.pick [1, 2, 3, 0] rfl, ?_⟩
                  | refine ⟨_, S, ?_⟩
            all_goals
              (with_reducible apply W_done); (case hn => rfl); (case hr => decide +kernel)
              clear S
              intro wz S
              simp only [List.cons_append, List.nil_append] at S
              try simp only [pick, nth] at S
              go_wp2_with first | ((with_reducible apply wps_loada (T := 54) (k := 7) S 0); (case hx | hi => rfl); (case hk => exact Nat.le_of_ble_eq_true rfl); (case hT => decide +kernel))
              (try simp only [Exit.inBlock, Exit.then]); refine bodyPost_ret (results3 rfl (S.resA 3 rfl rfl (by kernel_rfl)) (res_tmp rfl) (res_tmp rfl)) rfl ?_
              exact ⟨_, _, _, rfl, S.pick [2] rfl⟩
end Go.Proofs.YtfiiaechippboaaDoor
