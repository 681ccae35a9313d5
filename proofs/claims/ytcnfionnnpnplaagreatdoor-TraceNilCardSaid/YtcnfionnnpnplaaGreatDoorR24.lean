import Derived.Test.YtcnfionnnpnplaaGreatDoorR18
import Derived.Deep.LoopGhost
import Derived.Test.YtcnfionnnpnplaaGreatDoorR04
/- The walks of a heap's up and down. -/
namespace Go.Proofs.YtcnfionnnpnplaaGreatDoor
open Go.RowKit Reg Mem

theorem swap_int (B M : Nat) (i j : Int) (v : Value) (rows : List Row) (r r' : Row) (w : World) (F : Nat → Prop) (h : (rawH B M v rows).at_ w F) (hd : (rows.map (·.key)).Nodup) (hi0 : 0 ≤ i) (hj0 : 0 ≤ j) (hi : rows[i.toNat]? = some r) (hj : rows[j.toNat]? = some r') (hne : i ≠ j) (n m : Nat) (hn : i.toNat = n) (hm : j.toNat = m) :
    Calls Tryz.prog 130 #[.pointer (some ⟨B, 0, none⟩), .int .i64 i, .int .i64 j] w (HPost F B M v (xch rows n m r r') w) := by
  obtain ⟨n, rfl⟩ := Int.eq_ofNat_of_zero_le hi0
  obtain ⟨m, rfl⟩ := Int.eq_ofNat_of_zero_le hj0
  subst hn hm
  exact swap_calls B M n m v rows r r' w F h hd hi hj (by omega)
theorem nodup_perm {a b : List Row} (h : a.Perm b) (hd : (b.map (·.key)).Nodup) : (a.map (·.key)).Nodup := ((h.map (·.key)).nodup_iff).2 hd
def UpRel (F : Nat → Prop) (B M : Nat) (v : Value) (rows : List Row) (i0 : Nat) (w : World) (i : Value) (wr : World) : Prop :=
  ∃ (k f : Nat) (rs : List Row), i = .int .i64 k ∧ k ≤ f ∧ rs.Perm rows ∧ k < rs.length ∧ hup i0 rows i0 = hup f rs k ∧ St F w wr [rawH B M v rs]
set_option maxHeartbeats 1000000 in
set_option maxRecDepth 100000 in
theorem up_calls (B M i : Nat) (v : Value) (rows : List Row) (w : World) (F : Nat → Prop) (h : (rawH B M v rows).at_ w F) (hd : (rows.map (·.key)).Nodup) (hi : i < rows.length) (hmax : rows.length ≤ 4294967296) :
    Calls Tryz.prog 122 #[.pointer (some ⟨B, 0, none⟩), .int .i64 i] w (HPost F B M v (hup i rows i) w) := by
  have S := St.one w h
  have Hd := Lib.hid hd
  clear h hd
  go_enter Tryz.func122, Tryz.ntmps122
  go_wp2_with first | go_skip | ((with_reducible refine wpList_skip ?hw ?_); (case hw => with_unfolding_all rfl); simp only [Act.put, List.setIfInBounds_toArray, List.set_cons_succ, List.set_cons_zero]) | ((with_reducible refine tot_done ?ht ?_); (case ht => kernel_rfl))
  go_loopw [1] (fun i' wr => UpRel F B M v rows i w i' wr) (fun i' _ => (intOf i').toNat)
  case atStart => exact ⟨i, i, rows, rfl, Nat.le_refl _, .refl _, hi, rfl, S⟩
  case round =>
    clear S
    obtain ⟨k, f, rs, rfl, hf, hperm, hk, heq, S⟩ := hrel
    have hlen := hperm.length_eq
    have hp : (k - 1) / 2 < rs.length := by omega
    obtain ⟨r, hr⟩ : ∃ r, rs[k]? = some r := ⟨_, List.getElem?_eq_getElem hk⟩
    obtain ⟨p, hpr⟩ : ∃ r, rs[(k - 1) / 2]? = some r := ⟨_, List.getElem?_eq_getElem hp⟩
    have hk1 : (k : Int) ≤ 4294967296 := by omega
    have HD := Lib.hid (nodup_perm hperm Hd.out)
    have HEQ := Lib.hid heq
    have HR := Lib.hid hr
    have HP := Lib.hid hpr
    have HL := Lib.hid hlen
    have HPM := Lib.hid hperm
    clear heq hr hpr hlen hperm
    by_cases h0 : 0 < k
    · have h0' : (0 : Int) < k := by omega
      have en : (((k : Int) - 1) / 2).toNat = (k - 1) / 2 := by omega
      have EN := Lib.hid en
      clear en
      have HP2 := Lib.hid (show rs[(((k : Int) - 1) / 2).toNat]? = some p by rw [EN.out]; exact HP.out)
      have HR2 := Lib.hid (show rs[((k : Int)).toNat]? = some r by rw [Int.toNat_natCast]; exact HR.out)
      cases hc : r.key.lt p.key with
      | true =>
        have Hc := Lib.hid hc
        clear hc
        go_wp2_with first | go_skip | ((with_reducible refine wpList_skip ?hw ?_); (case hw => with_unfolding_all rfl); simp only [Act.put, List.setIfInBounds_toArray, List.set_cons_succ, List.set_cons_zero]) | (go_at_call 129; refine Calls.mono (ahead_int _ _ _ _ _ _ _ _ _ _ (S.get (i := 0) rfl).choose_spec (by omega) (by omega) HR2.out HP2.out) ?_; rintro e wz ⟨rfl, hE⟩; rw [Hc.out]; replace S := S.ext (Keep.of_below hE); clear hE) | (go_at_call 130; obtain ⟨Fz, hF, hBk⟩ := S.lend1 0 rfl rfl; refine Calls.mono (swap_int _ _ _ _ _ _ _ _ _ _ hF HD.out (by omega) (by omega) HR2.out HP2.out (by omega) k ((k - 1) / 2) (by omega) EN.out) ?_; rintro e wz ⟨rfl, T⟩; replace S := hBk _ _ rfl T; clear hBk hF T; simp only [List.set_cons_zero] at S) | ((with_reducible refine tot_done ?ht ?_); (case ht => kernel_rfl))
        go_roundw
        case rel =>
          refine ⟨(k - 1) / 2, f - 1, _, by go_num, by omega, (xch_perm HR.out HP.out).trans HPM.out, by rw [xch_length]; omega, ?_, S⟩
          rw [HEQ.out, hup_go HR.out HP.out h0 (hcmp_neg.2 Hc.out) (by omega)]
        case measure => simp [intOf]; omega
      | false =>
        have Hc := Lib.hid hc
        clear hc
        go_wp2_with first | go_skip | ((with_reducible refine wpList_skip ?hw ?_); (case hw => with_unfolding_all rfl); simp only [Act.put, List.setIfInBounds_toArray, List.set_cons_succ, List.set_cons_zero]) | (go_at_call 129; refine Calls.mono (ahead_int _ _ _ _ _ _ _ _ _ _ (S.get (i := 0) rfl).choose_spec (by omega) (by omega) HR2.out HP2.out) ?_; rintro e wz ⟨rfl, hE⟩; rw [Hc.out]; replace S := S.ext (Keep.of_below hE); clear hE) | ((with_reducible refine tot_done ?ht ?_); (case ht => kernel_rfl))
        go_end0
        refine ⟨rfl, ?_⟩
        rw [HEQ.out, hup_stop HR.out HP.out (.inr (fun e => by have := hcmp_neg.1 e; rw [Hc.out] at this; cases this))]
        exact S
    · have h0' : decide ((0 : Int) < k) = false := by simp; omega
      go_wp2_with first | go_skip | ((with_reducible refine wpList_skip ?hw ?_); (case hw => with_unfolding_all rfl); simp only [Act.put, List.setIfInBounds_toArray, List.set_cons_succ, List.set_cons_zero]) | ((with_reducible refine tot_done ?ht ?_); (case ht => kernel_rfl))
      go_end0
      refine ⟨rfl, ?_⟩
      rw [HEQ.out, hup_stop HR.out HP.out (.inl (by omega))]
      exact S
def DownRel (F : Nat → Prop) (B M : Nat) (v : Value) (rows : List Row) (i0 : Nat) (w : World) (i : Value) (wr : World) : Prop :=
  ∃ (k f : Nat) (rs : List Row), i = .int .i64 k ∧ rs.length ≤ k + f ∧ rs.Perm rows ∧ k < rs.length ∧ hdown rows.length rows i0 = hdown f rs k ∧ St F w wr [rawH B M v rs]
def DownIn (F : Nat → Prop) (B M : Nat) (v : Value) (rs : List Row) (k : Nat) (w : World) (c j : Value) (wr : World) : Prop :=
  ∃ t : Nat, t ≤ 2 ∧ c = .int .i64 (stage rs k t : Nat) ∧ j = .int .i64 (2 * k + 1 + t : Nat) ∧ St F w wr [MapA false Tryz.prog 54 Key.cells M (posMap rs), Own 210 Row.cells 11 v rs, Blk false B #[v, .map (some M)] 183]
set_option maxHeartbeats 2000000 in
set_option maxRecDepth 100000 in
theorem down_calls (B M i : Nat) (v : Value) (rows : List Row) (w : World) (F : Nat → Prop) (h : (rawH B M v rows).at_ w F) (hd : (rows.map (·.key)).Nodup) (hi : i < rows.length) (hmax : rows.length ≤ 4294967296) :
    Calls Tryz.prog 137 #[.pointer (some ⟨B, 0, none⟩), .int .i64 i] w (HPost F B M v (hdown rows.length rows i) w) := by
  have S := St.one w h
  have Hd := Lib.hid hd
  clear h hd
  go_enter Tryz.func137, Tryz.ntmps137
  go_wp2_with first | go_skip | ((with_reducible refine wpList_skip ?hw ?_); (case hw => with_unfolding_all rfl); simp only [Act.put, List.setIfInBounds_toArray, List.set_cons_succ, List.set_cons_zero]) | ((with_reducible refine tot_done ?ht ?_); (case ht => kernel_rfl)) | ((with_reducible apply wps_load S 0); (case hx | hi | hu => rfl); (case hT => decide +kernel)) | ((with_reducible apply wps_load S 1); (case hx | hi | hu => rfl); (case hT => decide +kernel)) | ((with_reducible apply wps_load S 2); (case hx | hi | hu => rfl); (case hT => decide +kernel)) | ((with_reducible apply wps_load S 3); (case hx | hi | hu => rfl); (case hT => decide +kernel))
  go_loopw [1] (fun i' wr => DownRel F B M v rows i w i' wr) (fun i' _ => rows.length - (intOf i').toNat)
  case atStart => exact ⟨i, rows.length, rows, rfl, by omega, .refl _, hi, rfl, S⟩
  case round =>
    clear S
    obtain ⟨k, f, rs, rfl, hf, hperm, hk, heq, S⟩ := hrel
    have hlen := hperm.length_eq
    have hk1 : (k : Int) ≤ 4294967296 := by omega
    have HD := Lib.hid (nodup_perm hperm Hd.out)
    have HEQ := Lib.hid heq
    have HL := Lib.hid hlen
    have HPM := Lib.hid hperm
    clear heq hlen hperm
    replace S := rawH_open S
    obtain ⟨R, cp, rfl, _⟩ := own_head 1 S rfl (by omega)
    go_wp2_with first | go_skip | ((with_reducible refine wpList_skip ?hw ?_); (case hw => with_unfolding_all rfl); simp only [Act.put, List.setIfInBounds_toArray, List.set_cons_succ, List.set_cons_zero]) | ((with_reducible refine tot_done ?ht ?_); (case ht => kernel_rfl)) | ((with_reducible apply wps_load S 0); (case hx | hi | hu => rfl); (case hT => decide +kernel)) | ((with_reducible apply wps_load S 1); (case hx | hi | hu => rfl); (case hT => decide +kernel)) | ((with_reducible apply wps_load S 2); (case hx | hi | hu => rfl); (case hT => decide +kernel)) | ((with_reducible apply wps_load S 3); (case hx | hi | hu => rfl); (case hT => decide +kernel))
    go_loopw [4, 5] (fun c j wr => DownIn F B M _ rs k w c j wr) (fun _ j _ => 2 * k + 4 - (intOf j).toNat)
    case atStart => exact ⟨0, by omega, rfl, by go_num, S⟩
    case round =>
      clear S
      obtain ⟨t, ht, rfl, rfl, S⟩ := hrel
      have hst := stage_lt hk t
      generalize hs : stage rs k t = s at hst ⊢
      have HS := Lib.hid hs
      clear hs
      have hlen2 : (rs.length : Int) ≤ 4294967296 := by rw [HL.out]; omega
      by_cases hgo : t < 2 ∧ 2 * k + 1 + t < rs.length
      · obtain ⟨hg1, hg2⟩ := hgo
        obtain ⟨x, hx⟩ : ∃ x, rs[2 * k + 1 + t]? = some x := ⟨_, List.getElem?_eq_getElem hg2⟩
        obtain ⟨y, hy⟩ : ∃ x, rs[s]? = some x := ⟨_, List.getElem?_eq_getElem hst⟩
        have hg2' : ((2 * k + 1 + t : Nat) : Int) < rs.length := by omega
        have hg1' : ((2 * k + 1 + t : Nat) : Int) ≤ 2 * (k : Int) + 2 := by omega
        generalize hj : 2 * k + 1 + t = j at hg2 hg2' hg1' hx ⊢
        have HJ := Lib.hid hj
        have hjl : (j : Int) ≤ 4294967296 := by omega
        have Hx := Lib.hid hx
        have Hy := Lib.hid hy
        clear hx hy
        clear hj
        cases hc : x.key.lt y.key with
        | true =>
          have Hc := Lib.hid hc
          clear hc
          go_wp2_with first | go_skip | ((with_reducible refine wpList_skip ?hw ?_); (case hw => with_unfolding_all rfl); simp only [Act.put, List.setIfInBounds_toArray, List.set_cons_succ, List.set_cons_zero]) | (go_at_call 129; refine Calls.mono (ahead_int _ _ _ _ _ _ _ _ _ _ ((rawH_close S).get (i := 0) rfl).choose_spec (by omega) (by omega) (by rw [Int.toNat_natCast]; exact Hx.out) (by rw [Int.toNat_natCast]; exact Hy.out)) ?_; rintro e wz ⟨rfl, hE⟩; rw [Hc.out]; replace S := S.ext (Keep.of_below hE); clear hE) | ((with_reducible refine tot_done ?ht ?_); (case ht => kernel_rfl)) | ((with_reducible apply wps_load S 0); (case hx | hi | hu => rfl); (case hT => decide +kernel)) | ((with_reducible apply wps_load S 1); (case hx | hi | hu => rfl); (case hT => decide +kernel)) | ((with_reducible apply wps_load S 2); (case hx | hi | hu => rfl); (case hT => decide +kernel)) | ((with_reducible apply wps_load S 3); (case hx | hi | hu => rfl); (case hT => decide +kernel))
          go_roundw
          case rel =>
            refine ⟨t + 1, by omega, ?_, by have := HJ.out; go_num, S⟩
            have e : stage rs k (t + 1) = j := by simp only [stage, hcand]; rw [HJ.out, Hx.out, HS.out, Hy.out]; simp only; rw [if_pos (hcmp_neg.2 Hc.out)]
            rw [e]
          case measure => have := HJ.out; simp [intOf]; omega
        | false =>
          have Hc := Lib.hid hc
          clear hc
          go_wp2_with first | go_skip | ((with_reducible refine wpList_skip ?hw ?_); (case hw => with_unfolding_all rfl); simp only [Act.put, List.setIfInBounds_toArray, List.set_cons_succ, List.set_cons_zero]) | (go_at_call 129; refine Calls.mono (ahead_int _ _ _ _ _ _ _ _ _ _ ((rawH_close S).get (i := 0) rfl).choose_spec (by omega) (by omega) (by rw [Int.toNat_natCast]; exact Hx.out) (by rw [Int.toNat_natCast]; exact Hy.out)) ?_; rintro e wz ⟨rfl, hE⟩; rw [Hc.out]; replace S := S.ext (Keep.of_below hE); clear hE) | ((with_reducible refine tot_done ?ht ?_); (case ht => kernel_rfl)) | ((with_reducible apply wps_load S 0); (case hx | hi | hu => rfl); (case hT => decide +kernel)) | ((with_reducible apply wps_load S 1); (case hx | hi | hu => rfl); (case hT => decide +kernel)) | ((with_reducible apply wps_load S 2); (case hx | hi | hu => rfl); (case hT => decide +kernel)) | ((with_reducible apply wps_load S 3); (case hx | hi | hu => rfl); (case hT => decide +kernel))
          go_roundw
          case rel =>
            refine ⟨t + 1, by omega, ?_, by have := HJ.out; go_num, S⟩
            have e : stage rs k (t + 1) = s := by simp only [stage, hcand]; rw [HJ.out, Hx.out, HS.out, Hy.out]; exact if_neg (fun e => by have := hcmp_neg.1 e; rw [Hc.out] at this; cases this)
            rw [e]
          case measure => have := HJ.out; simp [intOf]; omega
      · have hdone : t = 2 ∨ rs.length ≤ 2 * k + 1 + t := by omega
        have hsd : s = stage rs k 2 := by rw [← HS.out]; exact stage_done ht hdone
        have HSD := Lib.hid hsd
        have hso : s = k ∨ k < s := by rw [hsd]; exact stage_or 2
        have hexit : decide (((2 * k + 1 + t : Nat) : Int) ≤ 2 * (k : Int) + 2) = false ∨ (((2 * k + 1 + t : Nat) : Int) ≤ 2 * (k : Int) + 2 ∧ decide (2 * k + 1 + t < rs.length) = false) := by
          rcases hdone with h | h
          · left; simp; omega
          · by_cases h2 : ((2 * k + 1 + t : Nat) : Int) ≤ 2 * (k : Int) + 2
            · right; exact ⟨h2, by simp; omega⟩
            · left; simp; omega
        generalize hj : 2 * k + 1 + t = j at hexit ⊢
        have HJ1 : (j : Int) ≤ 17179869186 := by omega
        clear hj hsd hdone hgo
        by_cases hsk : s = k
        · subst hsk
          have hss : ((s : Int) == (s : Int)) = true := by simp
          rcases hexit with hx1 | ⟨hx1, hx2⟩
          all_goals
            go_wp2_with first | go_skip | ((with_reducible refine wpList_skip ?hw ?_); (case hw => with_unfolding_all rfl); simp only [Act.put, List.setIfInBounds_toArray, List.set_cons_succ, List.set_cons_zero]) | ((with_reducible refine tot_done ?ht ?_); (case ht => kernel_rfl)) | ((with_reducible apply wps_load S 0); (case hx | hi | hu => rfl); (case hT => decide +kernel)) | ((with_reducible apply wps_load S 1); (case hx | hi | hu => rfl); (case hT => decide +kernel)) | ((with_reducible apply wps_load S 2); (case hx | hi | hu => rfl); (case hT => decide +kernel)) | ((with_reducible apply wps_load S 3); (case hx | hi | hu => rfl); (case hT => decide +kernel))
            go_end0
            refine ⟨rfl, ?_⟩
            rw [HEQ.out, hdown_stop HSD.out.symm]
            exact rawH_close S
        · have hsne : ((s : Int) == (k : Int)) = false := by simp; omega
          obtain ⟨x, hx⟩ : ∃ x, rs[k]? = some x := ⟨_, List.getElem?_eq_getElem hk⟩
          obtain ⟨y, hy⟩ : ∃ x, rs[s]? = some x := ⟨_, List.getElem?_eq_getElem hst⟩
          have hks : k < s := by rcases hso with h | h; exact absurd h hsk; exact h
          clear hso
          have Hx := Lib.hid hx
          have Hy := Lib.hid hy
          have Hsk := Lib.hid hsk
          clear hx hy hsk
          rcases hexit with hx1 | ⟨hx1, hx2⟩
          all_goals
            go_wp2_with first | go_skip | ((with_reducible refine wpList_skip ?hw ?_); (case hw => with_unfolding_all rfl); simp only [Act.put, List.setIfInBounds_toArray, List.set_cons_succ, List.set_cons_zero]) | ((with_reducible refine tot_done ?ht ?_); (case ht => kernel_rfl)) | ((with_reducible apply wps_load S 0); (case hx | hi | hu => rfl); (case hT => decide +kernel)) | ((with_reducible apply wps_load S 1); (case hx | hi | hu => rfl); (case hT => decide +kernel)) | ((with_reducible apply wps_load S 2); (case hx | hi | hu => rfl); (case hT => decide +kernel)) | ((with_reducible apply wps_load S 3); (case hx | hi | hu => rfl); (case hT => decide +kernel))
            replace S := rawH_close S
            go_wp2_with first | go_skip | ((with_reducible refine wpList_skip ?hw ?_); (case hw => with_unfolding_all rfl); simp only [Act.put, List.setIfInBounds_toArray, List.set_cons_succ, List.set_cons_zero]) | (go_at_call 130; obtain ⟨Fz, hF, hBk⟩ := S.lend1 0 rfl rfl; refine Calls.mono (swap_int _ _ _ _ _ _ _ _ _ _ hF HD.out (by omega) (by omega) (by rw [Int.toNat_natCast]; exact Hx.out) (by rw [Int.toNat_natCast]; exact Hy.out) (by omega) k s (by omega) (by omega)) ?_; rintro e wz ⟨rfl, T⟩; replace S := hBk _ _ rfl T; clear hBk hF T; simp only [List.set_cons_zero] at S) | ((with_reducible refine tot_done ?ht ?_); (case ht => kernel_rfl)) | ((with_reducible apply wps_load S 0); (case hx | hi | hu => rfl); (case hT => decide +kernel)) | ((with_reducible apply wps_load S 1); (case hx | hi | hu => rfl); (case hT => decide +kernel)) | ((with_reducible apply wps_load S 2); (case hx | hi | hu => rfl); (case hT => decide +kernel)) | ((with_reducible apply wps_load S 3); (case hx | hi | hu => rfl); (case hT => decide +kernel))
            go_roundw
            case rel =>
              refine ⟨s, f - 1, _, rfl, by rw [xch_length]; omega, (xch_perm Hx.out Hy.out).trans HPM.out, by rw [xch_length]; exact hst, ?_, S⟩
              rw [HEQ.out, hdown_go (r := x) (p := y) (by rw [← HSD.out]; exact Hsk.out) Hx.out (by rw [← HSD.out]; exact Hy.out) (by omega), ← HSD.out]
            case measure => have := HL.out; simp [intOf]; omega
end Go.Proofs.YtcnfionnnpnplaaGreatDoor
/- A slice that is owned is cut; its last element cleared. Over any program. -/
namespace Go.Proofs.YtcnfionnnpnplaaGreatDoor.Mem
open Go Go.RowKit Reg
section
variable {P : Program} {ops : Array Oper} {rest : List Oper} {a : Act} {Q : Exit → Act → World → Prop} {d : Option Tmp} {tt : TypeId} {p : String} {af : Array Edge} {gd : Option (Nat × Bool)} {x y : Operand}
variable {G : Nat → Prop} {w0 w w' : World} {L : List Asn}
/-- 's[l:]', as a value. -/
theorem wps_tail {T E : TypeId} {k R n c l m : Nat} {lo : Operand} (hT : P.underlying T = some (.slice E)) (hE : ∀ w, (sizeOf E).run P w = .ok k w) (hx : a.eval x = .slice (some ⟨R, 0, none⟩) n c) (hlo : a.eval lo = .int .i64 l) (hm : n = l + m) (h1 : 0 < m) (h2 : n ≤ c)
    (next : wpList P ops Q rest (a.put d (.slice (some ⟨R, l * k, none⟩) m (c - l))) w) (hgd : gOk gd ops a = true := by with_unfolding_all rfl) :
    wpList P ops Q ({ dst := d, op := .slice T x (some lo) none none, type := tt, pos := p, after := af, guard := gd } :: rest) a w :=
  wpList_ok hgd fun K hK => by
    have hr := run_sliceAt_sl (P := P) (w := w) hT (hE w) (some ⟨R, 0, none⟩) n c l n (some (.int .i64 l)) none (.inr rfl) (.inl ⟨rfl, rfl⟩) (by omega) h2
    rw [if_neg (by omega), show n - l = m by omega] at hr
    simp only [Option.map_some, add_none, Nat.zero_add] at hr
    unfold Oper.wp execOp
    simp only [Option.map_none, Option.map_some, hx, hlo, hr, Sem.run_bind, Sem.run_pure, Result.andThen_ok]
    exact hK _ _ next
/-- The last element is cleared. -/
theorem wps_clear1 {α : Type} {T E : TypeId} {enc : α → List Value} {k bytes R n c c' m : Nat} {xs : List α} (el : Elem P T E k bytes) (hk : ∀ x, (enc x).length = k) (hone : ∀ x, ∀ u ∈ enc x, u.oneCell' = true) (z0 : α) (hz : zeroIs P E k (enc z0)) (S : St G w0 w L) (i : Nat)
    (hi : L[i]? = some (Own E enc k (.slice (some ⟨R, 0, none⟩) n c) xs)) (o : Nat) (hx : a.eval x = .slice (some ⟨R, o, none⟩) 1 c') (ho : o = m * k) (hm : xs.length = m + 1)
    (next : ∀ w', St G w0 w' (L.set i (Own E enc k (.slice (some ⟨R, 0, none⟩) n c) (xs.set m z0))) → wpList P ops Q rest (a.put d (.tuple #[])) w') (hgd : gOk gd ops a = true := by with_unfolding_all rfl) :
    wpList P ops Q ({ dst := d, op := .call { callee := .builtin .clear, args := #[x], argTypes := #[T] }, type := tt, pos := p, after := af, guard := gd } :: rest) a w :=
  wpList_ok hgd fun K hK => by
    obtain ⟨F, hF⟩ := S.get hi
    obtain ⟨cur, hO, hn⟩ := own_at hF
    obtain ⟨ei, z, h⟩ := el
    obtain ⟨i', z', g1, g2, g3, g4, g5⟩ := hz
    have e1 : ei = i' := by have := h.info; rw [g1] at this; exact (Option.some.inj this).symm
    subst e1
    have e2 : z = z' := by have := h.zero; rw [g2] at this; exact (Option.some.inj this).symm
    subst e2
    have hfit := hO.fit (i := m) (by omega)
    obtain ⟨w', hr, hb, hKp⟩ := run_clear_one h (tt := tt) (R := R) (o := o) (c := c') (w := w) hO.heap (by rw [ho]; exact hfit) (by rw [g4]; exact hone z0)
    unfold Oper.wp execOp
    simp [resolve, invoke, builtin, hx, hr, Result.andThen]
    refine hK _ _ (next _ (own_put hk S i hi (by omega) z0 hO ?_ hKp))
    rw [hb, g4, ho]
/-- 's[:u]', in its place. -/
theorem wps_cutown {α : Type} {T E : TypeId} {enc : α → List Value} {k R n c u : Nat} {hi' : Operand} {xs : List α} (hk : ∀ x, (enc x).length = k) (hT : P.underlying T = some (.slice E)) (hE : ∀ w, (sizeOf E).run P w = .ok k w) (S : St G w0 w L) (i : Nat)
    (hi : L[i]? = some (Own E enc k (.slice (some ⟨R, 0, none⟩) n c) xs)) (hx : a.eval x = .slice (some ⟨R, 0, none⟩) n c) (hu : a.eval hi' = .int .i64 u) (h1 : u ≤ xs.length)
    (next : St G w0 w (L.set i (Own E enc k (.slice (some ⟨R, 0, none⟩) u c) (xs.take u))) → wpList P ops Q rest (a.put d (.slice (some ⟨R, 0, none⟩) u c)) w) (hgd : gOk gd ops a = true := by with_unfolding_all rfl) :
    wpList P ops Q ({ dst := d, op := .slice T x none (some hi') none, type := tt, pos := p, after := af, guard := gd } :: rest) a w :=
  wpList_ok hgd fun K hK => by
    obtain ⟨F0, hF0⟩ := S.get hi
    obtain ⟨cur, hO, hn⟩ := own_at hF0
    have hle := hO.le
    have hr := run_sliceAt_sl (P := P) (w := w) hT (hE w) (some ⟨R, 0, none⟩) n c 0 u none (some (.int .i64 u)) (.inl ⟨rfl, rfl⟩) (.inr rfl) (Nat.zero_le _) (by omega)
    have e : (if c = 0 then (some ⟨R, 0, none⟩ : Option Addr) else (some ⟨R, 0, none⟩ : Option Addr).map (·.add (0 * k))) = some ⟨R, 0, none⟩ := by simp [add_none]
    rw [e, Nat.sub_zero, Nat.sub_zero] at hr
    unfold Oper.wp execOp
    simp only [Option.map_none, Option.map_some, hx, hu, hr, Sem.run_bind, Sem.run_pure, Result.andThen_ok]
    refine hK _ _ (next (S.weak hi (fun _ => rfl) fun F hF => ⟨F, fun _ hb => hb, ?_, fun x => by rw [hF.2 x]; rfl⟩))
    obtain ⟨cur, hO, hn⟩ := own_at hF
    have := (hO.cut hk u h1).own hk
    rwa [show (xs.take u).length = u by rw [List.length_take]; omega] at this
end
end Go.Proofs.YtcnfionnnpnplaaGreatDoor.Mem
