import Derived.Test.YtcnfionnnpnplaaGreatDoorP21
import Derived.Deep.LoopGhost
import Derived.Deep.Cut
import Derived.Test.YtcnfionnnpnplaaGreatDoorP04
import Derived.Test.YtcnfionnnpnplaaGreatDoorP12
import Derived.Test.YtcnfionnnpnplaaGreatDoorP14
/- The walks of a heap's up and down. -/
namespace Go.Proofs.YtcnfionnnpnplaaGreatDoor
open Go.RowKit Reg Mem

theorem swap_int (B M : Nat) (i j : Int) (v : Value) (rows : List Row) (r r' : Row) (w : World) (F : Nat → Prop) (h : (rawH B M v rows).at_ w F) (hd : (rows.map (·.key)).Nodup) (hi0 : 0 ≤ i) (hj0 : 0 ≤ j) (hi : rows[i.toNat]? = some r) (hj : rows[j.toNat]? = some r') (hne : i ≠ j) (n m : Nat) (hn : i.toNat = n) (hm : j.toNat = m) :
    Calls Tryz.prog 130 #[.pointer (some ⟨B, 0, none⟩), .int .i64 i, .int .i64 j] w (HPost F B M v (xch rows n m r r') w) := by
  obtain ⟨n, rfl⟩ := Int.eq_ofNat_of_zero_le hi0
  obtain ⟨m, rfl⟩ := Int.eq_ofNat_of_zero_le hj0
  subst hn hm
  exact swap_calls B M n m v rows r r' w F h hd hi hj (by omega)
theorem nodup_perm {a b : List Row} (h : a.Perm b) (hd : (b.map (·.key)).Nodup) : (a.map (·.key)).Nodup := ((h.map (·.key)).nodup_iff).2 hd
def UpRel (F : Nat → Prop) (B M : Nat) (v : Value) (rows : List Row) (i0 : Nat) (w : World) (i : Value) (wr : World) : Prop :=
  ∃ (k f : Nat) (rs : List Row), i = .int .i64 k ∧ k ≤ f ∧ rs.Perm rows ∧ k < rs.length ∧ hup i0 rows i0 = hup f rs k ∧ St F w wr [rawH B M v rs]
set_option maxHeartbeats 1000000 in
set_option maxRecDepth 100000 in
theorem up_calls (B M i : Nat) (v : Value) (rows : List Row) (w : World) (F : Nat → Prop) (h : (rawH B M v rows).at_ w F) (hd : (rows.map (·.key)).Nodup) (hi : i < rows.length) (hmax : rows.length ≤ 4294967296) :
    Calls Tryz.prog 122 #[.pointer (some ⟨B, 0, none⟩), .int .i64 i] w (HPost F B M v (hup i rows i) w) := by
  have S := St.one w h
  have Hd := Lib.hid hd
  clear h hd
  go_enter Tryz.func122, Tryz.ntmps122
  go_wp2_with first | ((with_reducible refine tot_done ?ht ?_); (case ht => kernel_rfl))
  go_loopw [1] (fun i' wr => UpRel F B M v rows i w i' wr) (fun i' _ => (intOf i').toNat)
  case atStart => exact ⟨i, i, rows, rfl, Nat.le_refl _, .refl _, hi, rfl, S⟩
  case round =>
    clear S
    obtain ⟨k, f, rs, rfl, hf, hperm, hk, heq, S⟩ := hrel
    have hlen := hperm.length_eq
    have hp : (k - 1) / 2 < rs.length := by omega
    obtain ⟨r, hr⟩ : ∃ r, rs[k]? = some r := ⟨_, List.getElem?_eq_getElem hk⟩
    obtain ⟨p, hpr⟩ : ∃ r, rs[(k - 1) / 2]? = some r := ⟨_, List.getElem?_eq_getElem hp⟩
    have hk1 : (k : Int) ≤ 4294967296 := by omega
    have HD := Lib.hid (nodup_perm hperm Hd.out)
    have HEQ := Lib.hid heq
    have HR := Lib.hid hr
    have HP := Lib.hid hpr
    have HL := Lib.hid hlen
    have HPM := Lib.hid hperm
    clear heq hr hpr hlen hperm
    by_cases h0 : 0 < k
    · have h0' : (0 : Int) < k := by omega
      have en : (((k : Int) - 1) / 2).toNat = (k - 1) / 2 := by omega
      have EN := Lib.hid en
      clear en
      have HP2 := Lib.hid (show rs[(((k : Int) - 1) / 2).toNat]? = some p by rw [EN.out]; exact HP.out)
      have HR2 := Lib.hid (show rs[((k : Int)).toNat]? = some r by rw [Int.toNat_natCast]; exact HR.out)
      cases hc : r.key.lt p.key with
      | true =>
        have Hc := Lib.hid hc
        clear hc
        go_wp2_with first | (go_at_call 129; refine Calls.mono (ahead_int _ _ _ _ _ _ _ _ _ _ (S.get (i := 0) rfl).choose_spec (by omega) (by omega) HR2.out HP2.out) ?_; rintro e wz ⟨rfl, hE⟩; rw [Hc.out]; replace S := S.ext (Keep.of_below hE); clear hE) | (go_at_call 130; obtain ⟨Fz, hF, hBk⟩ := S.lend1 0 rfl rfl; refine Calls.mono (swap_int _ _ _ _ _ _ _ _ _ _ hF HD.out (by omega) (by omega) HR2.out HP2.out (by omega) k ((k - 1) / 2) (by omega) EN.out) ?_; rintro e wz ⟨rfl, T⟩; replace S := hBk _ _ rfl T; clear hBk hF T; simp only [List.set_cons_zero] at S)
        go_roundw
        case rel =>
          refine ⟨(k - 1) / 2, f - 1, _, by go_num, by omega, (xch_perm HR.out HP.out).trans HPM.out, by rw [xch_length]; omega, ?_, S⟩
          rw [HEQ.out, hup_go HR.out HP.out h0 (hcmp_neg.2 Hc.out) (by omega)]
        case measure => simp [intOf]; omega
      | false =>
        have Hc := Lib.hid hc
        clear hc
        go_wp2_with first | (go_at_call 129; refine Calls.mono (ahead_int _ _ _ _ _ _ _ _ _ _ (S.get (i := 0) rfl).choose_spec (by omega) (by omega) HR2.out HP2.out) ?_; rintro e wz ⟨rfl, hE⟩; rw [Hc.out]; replace S := S.ext (Keep.of_below hE); clear hE)
        go_end0
        refine ⟨rfl, ?_⟩
        rw [HEQ.out, hup_stop HR.out HP.out (.inr (fun e => by have := hcmp_neg.1 e; rw [Hc.out] at this; cases this))]
        exact S
    · have h0' : decide ((0 : Int) < k) = false := by simp; omega
      go_wp2_with first | ((with_reducible refine tot_done ?ht ?_); (case ht => kernel_rfl))
      go_end0
      refine ⟨rfl, ?_⟩
      rw [HEQ.out, hup_stop HR.out HP.out (.inl (by omega))]
      exact S
def DownRel (F : Nat → Prop) (B M : Nat) (v : Value) (rows : List Row) (i0 : Nat) (w : World) (i : Value) (wr : World) : Prop :=
  ∃ (k f : Nat) (rs : List Row), i = .int .i64 k ∧ rs.length ≤ k + f ∧ rs.Perm rows ∧ k < rs.length ∧ hdown rows.length rows i0 = hdown f rs k ∧ St F w wr [rawH B M v rs]
def DownIn (F : Nat → Prop) (B M : Nat) (v : Value) (rs : List Row) (k : Nat) (w : World) (c j : Value) (wr : World) : Prop :=
  ∃ t : Nat, t ≤ 2 ∧ c = .int .i64 (stage rs k t : Nat) ∧ j = .int .i64 (2 * k + 1 + t : Nat) ∧ St F w wr [MapA false Tryz.prog 54 Key.cells M (posMap rs), Own 210 Row.cells 11 v rs, Blk false B #[v, .map (some M)] 183]
set_option maxHeartbeats 2000000 in
set_option maxRecDepth 100000 in
theorem down_calls (B M i : Nat) (v : Value) (rows : List Row) (w : World) (F : Nat → Prop) (h : (rawH B M v rows).at_ w F) (hd : (rows.map (·.key)).Nodup) (hi : i < rows.length) (hmax : rows.length ≤ 4294967296) :
    Calls Tryz.prog 137 #[.pointer (some ⟨B, 0, none⟩), .int .i64 i] w (HPost F B M v (hdown rows.length rows i) w) := by
  have S := St.one w h
  have Hd := Lib.hid hd
  clear h hd
  go_enter Tryz.func137, Tryz.ntmps137
  go_wp2_with first | ((with_reducible apply wps_load S 3); (case hx | hi | hu => rfl); (case hT => decide +kernel))
  go_loopw [1] (fun i' wr => DownRel F B M v rows i w i' wr) (fun i' _ => rows.length - (intOf i').toNat)
  case atStart => exact ⟨i, rows.length, rows, rfl, by omega, .refl _, hi, rfl, S⟩
  case round =>
    clear S
    obtain ⟨k, f, rs, rfl, hf, hperm, hk, heq, S⟩ := hrel
    have hlen := hperm.length_eq
    have hk1 : (k : Int) ≤ 4294967296 := by omega
    have HD := Lib.hid (nodup_perm hperm Hd.out)
    have HEQ := Lib.hid heq
    have HL := Lib.hid hlen
    have HPM := Lib.hid hperm
    clear heq hlen hperm
    replace S := rawH_open S
    obtain ⟨R, cp, rfl, _⟩ := own_head 1 S rfl (by omega)
    go_wp2_with first | ((with_reducible apply wps_load S 3); (case hx | hi | hu => rfl); (case hT => decide +kernel))
    go_loopw [4, 5] (fun c j wr => DownIn F B M _ rs k w c j wr) (fun _ j _ => 2 * k + 4 - (intOf j).toNat)
    case atStart => exact ⟨0, by omega, rfl, by go_num, S⟩
    case round =>
      clear S
      obtain ⟨t, ht, rfl, rfl, S⟩ := hrel
      have hst := stage_lt hk t
      generalize hs : stage rs k t = s at hst ⊢
      have HS := Lib.hid hs
      clear hs
      have hlen2 : (rs.length : Int) ≤ 4294967296 := by rw [HL.out]; omega
      by_cases hgo : t < 2 ∧ 2 * k + 1 + t < rs.length
      · obtain ⟨hg1, hg2⟩ := hgo
        obtain ⟨x, hx⟩ : ∃ x, rs[2 * k + 1 + t]? = some x := ⟨_, List.getElem?_eq_getElem hg2⟩
        obtain ⟨y, hy⟩ : ∃ x, rs[s]? = some x := ⟨_, List.getElem?_eq_getElem hst⟩
        have hg2' : ((2 * k + 1 + t : Nat) : Int) < rs.length := by omega
        have hg1' : ((2 * k + 1 + t : Nat) : Int) ≤ 2 * (k : Int) + 2 := by omega
        generalize hj : 2 * k + 1 + t = j at hg2 hg2' hg1' hx ⊢
        have HJ := Lib.hid hj
        have hjl : (j : Int) ≤ 4294967296 := by omega
        have Hx := Lib.hid hx
        have Hy := Lib.hid hy
        clear hx hy
        clear hj
        cases hc : x.key.lt y.key with
        | true =>
          have Hc := Lib.hid hc
          clear hc
          go_wp2_with first | (go_at_call 129; refine Calls.mono (ahead_int _ _ _ _ _ _ _ _ _ _ ((rawH_close S).get (i := 0) rfl).choose_spec (by omega) (by omega) (by rw [Int.toNat_natCast]; exact Hx.out) (by rw [Int.toNat_natCast]; exact Hy.out)) ?_; rintro e wz ⟨rfl, hE⟩; rw [Hc.out]; replace S := S.ext (Keep.of_below hE); clear hE) | ((with_reducible apply wps_load S 2); (case hx | hi | hu => rfl); (case hT => decide +kernel))
          go_roundw
          case rel =>
            refine ⟨t + 1, by omega, ?_, by have := HJ.out; go_num, S⟩
            have e : stage rs k (t + 1) = j := by simp only [stage, hcand]; rw [HJ.out, Hx.out, HS.out, Hy.out]; simp only; rw [if_pos (hcmp_neg.2 Hc.out)]
            rw [e]
          case measure => have := HJ.out; simp [intOf]; omega
        | false =>
          have Hc := Lib.hid hc
          clear hc
          go_wp2_with first | (go_at_call 129; refine Calls.mono (ahead_int _ _ _ _ _ _ _ _ _ _ ((rawH_close S).get (i := 0) rfl).choose_spec (by omega) (by omega) (by rw [Int.toNat_natCast]; exact Hx.out) (by rw [Int.toNat_natCast]; exact Hy.out)) ?_; rintro e wz ⟨rfl, hE⟩; rw [Hc.out]; replace S := S.ext (Keep.of_below hE); clear hE) | ((with_reducible apply wps_load S 2); (case hx | hi | hu => rfl); (case hT => decide +kernel))
          go_roundw
          case rel =>
            refine ⟨t + 1, by omega, ?_, by have := HJ.out; go_num, S⟩
            have e : stage rs k (t + 1) = s := by simp only [stage, hcand]; rw [HJ.out, Hx.out, HS.out, Hy.out]; exact if_neg (fun e => by have := hcmp_neg.1 e; rw [Hc.out] at this; cases this)
            rw [e]
          case measure => have := HJ.out; simp [intOf]; omega
      · have hdone : t = 2 ∨ rs.length ≤ 2 * k + 1 + t := by omega
        have hsd : s = stage rs k 2 := by rw [← HS.out]; exact stage_done ht hdone
        have HSD := Lib.hid hsd
        have hso : s = k ∨ k < s := by rw [hsd]; exact stage_or 2
        have hexit : decide (((2 * k + 1 + t : Nat) : Int) ≤ 2 * (k : Int) + 2) = false ∨ (((2 * k + 1 + t : Nat) : Int) ≤ 2 * (k : Int) + 2 ∧ decide (2 * k + 1 + t < rs.length) = false) := by
          rcases hdone with h | h
          · left; simp; omega
          · by_cases h2 : ((2 * k + 1 + t : Nat) : Int) ≤ 2 * (k : Int) + 2
            · right; exact ⟨h2, by simp; omega⟩
            · left; simp; omega
        generalize hj : 2 * k + 1 + t = j at hexit ⊢
        have HJ1 : (j : Int) ≤ 17179869186 := by omega
        clear hj hsd hdone hgo
        by_cases hsk : s = k
        · subst hsk
          have hss : ((s : Int) == (s : Int)) = true := by simp
          rcases hexit with hx1 | ⟨hx1, hx2⟩
          all_goals
            go_wp2_with first | ((with_reducible apply wps_load S 2); (case hx | hi | hu => rfl); (case hT => decide +kernel))
            go_end0
            refine ⟨rfl, ?_⟩
            rw [HEQ.out, hdown_stop HSD.out.symm]
            exact rawH_close S
        · have hsne : ((s : Int) == (k : Int)) = false := by simp; omega
          obtain ⟨x, hx⟩ : ∃ x, rs[k]? = some x := ⟨_, List.getElem?_eq_getElem hk⟩
          obtain ⟨y, hy⟩ : ∃ x, rs[s]? = some x := ⟨_, List.getElem?_eq_getElem hst⟩
          have hks : k < s := by rcases hso with h | h; exact absurd h hsk; exact h
          clear hso
          have Hx := Lib.hid hx
          have Hy := Lib.hid hy
          have Hsk := Lib.hid hsk
          clear hx hy hsk
          rcases hexit with hx1 | ⟨hx1, hx2⟩
          all_goals
            go_wp2_with first | ((with_reducible apply wps_load S 2); (case hx | hi | hu => rfl); (case hT => decide +kernel))
            replace S := rawH_close S
            go_wp2_with first | (go_at_call 130; obtain ⟨Fz, hF, hBk⟩ := S.lend1 0 rfl rfl; refine Calls.mono (swap_int _ _ _ _ _ _ _ _ _ _ hF HD.out (by omega) (by omega) (by rw [Int.toNat_natCast]; exact Hx.out) (by rw [Int.toNat_natCast]; exact Hy.out) (by omega) k s (by omega) (by omega)) ?_; rintro e wz ⟨rfl, T⟩; replace S := hBk _ _ rfl T; clear hBk hF T; simp only [List.set_cons_zero] at S)
            go_roundw
            case rel =>
              refine ⟨s, f - 1, _, rfl, by rw [xch_length]; omega, (xch_perm Hx.out Hy.out).trans HPM.out, by rw [xch_length]; exact hst, ?_, S⟩
              rw [HEQ.out, hdown_go (r := x) (p := y) (by rw [← HSD.out]; exact Hsk.out) Hx.out (by rw [← HSD.out]; exact Hy.out) (by omega), ← HSD.out]
            case measure => have := HL.out; simp [intOf]; omega
end Go.Proofs.YtcnfionnnpnplaaGreatDoor
/- A heap as a thing of the state; New, Len, Push, Get, First. -/
namespace Go.Proofs.YtcnfionnnpnplaaGreatDoor
open Go.RowKit Reg Mem

def heapA (B : Nat) (s : List Row) : Asn := exs false fun p : Nat × Value × List Row => sep false (pur (Ordered p.2.2 ∧ p.2.2.Perm s ∧ HSorted s)) (rawH B p.1 p.2.1 p.2.2)
theorem heap_open {G : Nat → Prop} {w0 w : World} {L : List Asn} {B : Nat} {s : List Row} (S : St G w0 w (heapA B s :: L)) :
    ∃ M v rows, Ordered rows ∧ rows.Perm s ∧ HSorted s ∧ St G w0 w (MapA false Tryz.prog 54 Key.cells M (posMap rows) :: Own 210 Row.cells 11 v rows :: Blk false B #[v, .map (some M)] 183 :: L) := by
  obtain ⟨⟨M, v, rows⟩, S⟩ := S.open_exs (fun _ => rfl)
  obtain ⟨⟨h1, h2, h3⟩, S⟩ := (S.open_sep rfl rfl).open_pur
  exact ⟨M, v, rows, h1, h2, h3, rawH_open S⟩
theorem heap_raw {G : Nat → Prop} {w0 w : World} {L : List Asn} {B M : Nat} {v : Value} {rows s : List Row} (S : St G w0 w (rawH B M v rows :: L)) (h1 : Ordered rows) (h2 : rows.Perm s) (h3 : HSorted s) : St G w0 w (heapA B s :: L) :=
  ((S.close_pur ⟨h1, h2, h3⟩).close_sep rfl rfl).close_exs (A := fun p : Nat × Value × List Row => sep false (pur (Ordered p.2.2 ∧ p.2.2.Perm s ∧ HSorted s)) (rawH B p.1 p.2.1 p.2.2)) (M, v, rows) rfl
theorem heap_close {G : Nat → Prop} {w0 w : World} {L : List Asn} {B M : Nat} {v : Value} {rows s : List Row}
    (S : St G w0 w (MapA false Tryz.prog 54 Key.cells M (posMap rows) :: Own 210 Row.cells 11 v rows :: Blk false B #[v, .map (some M)] 183 :: L)) (h1 : Ordered rows) (h2 : rows.Perm s) (h3 : HSorted s) : St G w0 w (heapA B s :: L) := heap_raw (rawH_close S) h1 h2 h3
theorem posMap_nil : posMap [] = fun _ => none := by funext k; rfl
theorem hnew_calls (w : World) : Calls Tryz.prog 70 #[] w fun e w' => ∃ B, e = .returned (.pointer (some ⟨B, 0, none⟩)) ∧ St (fun _ => False) w w' [heapA B []] := by
  have S := St.init (fun _ => False) w
  go_enter Tryz.func70, Tryz.ntmps70
  go_wp2_with first | ((with_reducible apply wps_makeMap (P := Tryz.prog) (K := 54) S Key.cells); clear S; intro M wz S) | ((with_reducible apply wps_boxa S); (case hx => rfl); clear S; intro bz wz S)
  go_ret
  refine ⟨_, rfl, ?_⟩
  have S2 := (S.nil 210 Row.cells 11).pick [2, 0, 1] rfl
  simp only [pick, nth] at S2
  rw [← posMap_nil] at S2
  exact heap_close S2 (fun i r p _ hr => by simp at hr) (.refl _) List.Pairwise.nil
def errnoT : Int → Value := fun e => .int .i64 e
set_option maxHeartbeats 1000000 in
set_option maxRecDepth 100000 in
theorem hpush_calls (B : Nat) (s : List Row) (k : Key) (x : Thing) (w : World) (F : Nat → Prop) (h : (heapA B s).at_ w F) (hmax : s.length < 4294967296) :
    Calls Tryz.prog 102 #[.pointer (some ⟨B, 0, none⟩), .agg #[.int .i64 k.at_, .int .i64 k.src, .int .i64 k.sent, .int .i64 k.no], .agg #[.int .i64 x.key.at_, .int .i64 x.key.src, .int .i64 x.key.sent, .int .i64 x.key.no, .int .i64 x.dst, .int .i64 x.kind, .int .i64 x.data]] w fun e w' => e = .returned (.int .i64 (PushAns s ⟨k, x⟩)) ∧ St F w w' [heapA B (pushed s ⟨k, x⟩)] := by
  obtain ⟨M, v, rows, ho, hp, hs, S⟩ := heap_open (St.one w h)
  obtain ⟨ad, cp, rfl, _⟩ := (S.ownsl hcells 1 rfl).elim fun _ h => h.form
  have hl := hp.length_eq
  have hl2 : rows.length < 4294967296 := by omega
  have hl3 : (rows.length : Int) < 4294967296 := by omega
  have Ho := Lib.hid ho
  have Hp := Lib.hid hp
  have Hs := Lib.hid hs
  have Hl := Lib.hid hl
  clear ho hp hs hl
  clear h
  by_cases hk : k ∈ s.map (·.key)
  · obtain ⟨r0, hr0, hk0⟩ := List.mem_map.1 ((key_perm Hp.out k).2 hk)
    obtain ⟨n, hn, he⟩ := List.mem_iff_getElem.1 hr0
    have hpm := posMap_some (Hs.out.nodup_of Hp.out) (i := n) (r := r0) (by rw [List.getElem?_eq_getElem hn, he])
    rw [hk0] at hpm
    have Hpm := Lib.hid hpm
    have Hk := Lib.hid hk
    clear hpm hk
    clear hr0 hk0 he hn
    go_enter Tryz.func102, Tryz.ntmps102
    go_upto_region 1 with first | ((with_reducible apply wps_boxa S); (case hx => rfl); clear S; intro bz wz S)
    replace S := S.pick [1, 2, 3, 4, 0] rfl
    simp only [pick, nth] at S
    go_wp2_with first | ((with_reducible apply wps_lookup_ok keyed Tryz.underlying180 (S := S) (i := 1) (zv := .int .i64 0) (v := .int .i64 n) (b := true) (k := k)); (case hx | hi => rfl); (case hy => exact (wholeKey _).symm); (case hz => exact Tryz.zeroValue3); (case hv | hb => rw [Hpm.out]; rfl)) | ((with_reducible refine tot_done ?ht ?_); (case ht => kernel_rfl)) | ((with_reducible apply wps_text S); (case hm => kernel_rfl); (case hB => decide +kernel); clear S; intro wz S) | ((with_reducible apply wps_loada (T := 54) (k := 4) S 0); (case hx | hi => rfl); (case hk => exact Nat.le_of_ble_eq_true rfl); (case hT => decide +kernel)) | ((with_reducible apply wps_load S 3); (case hx | hi | hu => rfl); (case hT => decide +kernel))
    go_ret
    refine ⟨by rw [PushAns, if_pos Hk.out]; rfl, ?_⟩
    rw [pushed, if_pos Hk.out]
    exact heap_close (S.pick [1, 2, 3] rfl) Ho.out Hp.out Hs.out
  · have hk2 : k ∉ rows.map (·.key) := fun h => hk ((key_perm Hp.out k).1 h)
    have hpm := posMap_none hk2
    have HPU := Lib.hid (posMap_push (rows := rows) (r := ⟨k, x⟩) hk2 (Hs.out.nodup_of Hp.out))
    have HND := Lib.hid (nodup_push (r := ⟨k, x⟩) hk2 (Hs.out.nodup_of Hp.out))
    have Hpm := Lib.hid hpm
    have Hk := Lib.hid hk
    have Hk2 := Lib.hid hk2
    clear hpm hk hk2
    go_enter Tryz.func102, Tryz.ntmps102
    go_upto_region 1 with first | ((with_reducible apply wps_boxa S); (case hx => rfl); clear S; intro bz wz S)
    replace S := S.pick [1, 2, 3, 4, 0] rfl
    simp only [pick, nth] at S
    go_upto_region 7 with first | ((with_reducible apply wps_lookup_ok keyed Tryz.underlying180 (S := S) (i := 1) (zv := .int .i64 0) (v := .int .i64 0) (b := false) (k := k)); (case hx | hi => rfl); (case hy => exact (wholeKey _).symm); (case hz => exact Tryz.zeroValue3); (case hv | hb => rw [Hpm.out]; rfl)) | ((with_reducible apply wps_build1a (T := 181) (E := 210) S); (case hx => rfl); (case hr => intro w; kernel_rfl); clear S; intro bz wz S) | ((with_reducible apply wps_append1 elem_Row hcells hone (by decide) S 3 (j := 0) (e := ⟨k,x⟩)); (case hx | hy | hi | hj | he => rfl); (case hl => first | omega | (simp; omega)); clear S; intro az nz cz wz hnz S; simp only [List.set_cons_succ, List.set_cons_zero] at S) | ((with_reducible apply wps_store (u := (.slice az nz cz)) S 4); (case hx | hy | hi | h1 => rfl); (case hn => exact Nat.le_of_ble_eq_true rfl); (case hT => decide +kernel); clear S; intro wz S; simp only [List.set_cons_succ, List.set_cons_zero, List.setIfInBounds_toArray] at S) | ((with_reducible refine tot_done ?ht ?_); (case ht => kernel_rfl)) | ((with_reducible apply wps_text S); (case hm => kernel_rfl); (case hB => decide +kernel); clear S; intro wz S) | ((with_reducible apply wps_loada (T := 54) (k := 4) S 0); (case hx | hi => rfl); (case hk => exact Nat.le_of_ble_eq_true rfl); (case hT => decide +kernel)) | ((with_reducible apply wps_load S 3); (case hx | hi | hu => rfl); (case hT => decide +kernel)) | ((with_reducible apply wps_loada (T := 56) (k := 7) S 4); (case hx | hi => rfl); (case hk => exact Nat.le_of_ble_eq_true rfl); (case hT => decide +kernel))
    obtain rfl : nz = rows.length + 1 := hnz.out
    replace S := S.pick [2, 3, 4, 1] rfl
    simp only [pick, nth] at S
    go_wp2_with first | ((with_reducible apply wps_mapUpdate keyed Tryz.underlying180 S 0 (k := k) (v := .int .i64 rows.length)); (case hx | hi => rfl); (case hy => exact (wholeKey _).symm); (case hz => rfl); clear S; intro wz S; simp only [List.set_cons_zero] at S) | ((with_reducible refine tot_done ?ht ?_); (case ht => kernel_rfl)) | ((with_reducible apply wps_text S); (case hm => kernel_rfl); (case hB => decide +kernel); clear S; intro wz S) | ((with_reducible apply wps_load S 2); (case hx | hi | hu => rfl); (case hT => decide +kernel)) | ((with_reducible apply wps_loada (T := 54) (k := 4) S 3); (case hx | hi => rfl); (case hk => exact Nat.le_of_ble_eq_true rfl); (case hT => decide +kernel))
    rw [HPU.out] at S
    replace S := rawH_close S
    go_wp2_with first | (go_at_call 122; obtain ⟨Fz, hF, hBk⟩ := S.lend1 0 rfl rfl; refine Calls.mono (up_calls _ _ _ _ _ _ _ hF HND.out (by simp) (by simp; omega)) ?_; rintro e wz ⟨rfl, T⟩; replace S := hBk _ _ rfl T; clear hBk hF T; simp only [List.set_cons_zero] at S)
    go_ret
    refine ⟨by rw [PushAns, if_neg Hk.out]; rfl, ?_⟩
    rw [pushed, if_neg Hk.out]
    refine (heap_raw S (push_ordered Ho.out _) ?_ (ins_sorted _ _ Hs.out Hk.out)).pick [0] rfl
    refine (hup_perm _ _ _).trans (List.Perm.trans ?_ (ins_perm _ _).symm)
    exact (List.perm_append_singleton _ _).trans (Hp.out.cons _)
end Go.Proofs.YtcnfionnnpnplaaGreatDoor
/- A slice that is owned is cut; its last element cleared. Over any program. -/
namespace Go.Proofs.YtcnfionnnpnplaaGreatDoor.Mem
open Go Go.RowKit Reg
section
variable {P : Program} {ops : Array Oper} {rest : List Oper} {a : Act} {Q : Exit → Act → World → Prop} {d : Option Tmp} {tt : TypeId} {p : String} {af : Array Edge} {gd : Option (Nat × Bool)} {x y : Operand}
variable {G : Nat → Prop} {w0 w w' : World} {L : List Asn}
theorem wps_tail {T E : TypeId} {k R n c l m : Nat} {lo : Operand} (hT : P.underlying T = some (.slice E)) (hE : ∀ w, (sizeOf E).run P w = .ok k w) (hx : a.eval x = .slice (some ⟨R, 0, none⟩) n c) (hlo : a.eval lo = .int .i64 l) (hm : n = l + m) (h1 : 0 < m) (h2 : n ≤ c)
    (next : wpList P ops Q rest (a.put d (.slice (some ⟨R, l * k, none⟩) m (c - l))) w) (hgd : gOk gd ops a = true := by with_unfolding_all rfl) :
    wpList P ops Q ({ dst := d, op := .slice T x (some lo) none none, type := tt, pos := p, after := af, guard := gd } :: rest) a w :=
  wpList_ok hgd fun K hK => by
    have hr := run_sliceAt_sl (P := P) (w := w) hT (hE w) (some ⟨R, 0, none⟩) n c l n (some (.int .i64 l)) none (.inr rfl) (.inl ⟨rfl, rfl⟩) (by omega) h2
    rw [if_neg (by omega), show n - l = m by omega] at hr
    simp only [Option.map_some, add_none, Nat.zero_add] at hr
    unfold Oper.wp execOp
    simp only [Option.map_none, Option.map_some, hx, hlo, hr, Sem.run_bind, Sem.run_pure, Result.andThen_ok]
    exact hK _ _ next
theorem wps_clear1 {α : Type} {T E : TypeId} {enc : α → List Value} {k bytes R n c c' m : Nat} {xs : List α} (el : Elem P T E k bytes) (hk : ∀ x, (enc x).length = k) (hone : ∀ x, ∀ u ∈ enc x, u.oneCell' = true) (z0 : α) (hz : zeroIs P E k (enc z0)) (S : St G w0 w L) (i : Nat)
    (hi : L[i]? = some (Own E enc k (.slice (some ⟨R, 0, none⟩) n c) xs)) (o : Nat) (hx : a.eval x = .slice (some ⟨R, o, none⟩) 1 c') (ho : o = m * k) (hm : xs.length = m + 1)
    (next : ∀ w', St G w0 w' (L.set i (Own E enc k (.slice (some ⟨R, 0, none⟩) n c) (xs.set m z0))) → wpList P ops Q rest (a.put d (.tuple #[])) w') (hgd : gOk gd ops a = true := by with_unfolding_all rfl) :
    wpList P ops Q ({ dst := d, op := .call { callee := .builtin .clear, args := #[x], argTypes := #[T] }, type := tt, pos := p, after := af, guard := gd } :: rest) a w :=
  wpList_ok hgd fun K hK => by
    obtain ⟨F, hF⟩ := S.get hi
    obtain ⟨cur, hO, hn⟩ := own_at hF
    obtain ⟨ei, z, h⟩ := el
    obtain ⟨i', z', g1, g2, g3, g4, g5⟩ := hz
    have e1 : ei = i' := by have := h.info; rw [g1] at this; exact (Option.some.inj this).symm
    subst e1
    have e2 : z = z' := by have := h.zero; rw [g2] at this; exact (Option.some.inj this).symm
    subst e2
    have hfit := hO.fit (i := m) (by omega)
    obtain ⟨w', hr, hb, hKp⟩ := run_clear_one h (tt := tt) (R := R) (o := o) (c := c') (w := w) hO.heap (by rw [ho]; exact hfit) (by rw [g4]; exact hone z0)
    unfold Oper.wp execOp
    simp [resolve, invoke, builtin, hx, hr, Result.andThen]
    refine hK _ _ (next _ (own_put hk S i hi (by omega) z0 hO ?_ hKp))
    rw [hb, g4, ho]
theorem wps_cutown {α : Type} {T E : TypeId} {enc : α → List Value} {k R n c u : Nat} {hi' : Operand} {xs : List α} (hk : ∀ x, (enc x).length = k) (hT : P.underlying T = some (.slice E)) (hE : ∀ w, (sizeOf E).run P w = .ok k w) (S : St G w0 w L) (i : Nat)
    (hi : L[i]? = some (Own E enc k (.slice (some ⟨R, 0, none⟩) n c) xs)) (hx : a.eval x = .slice (some ⟨R, 0, none⟩) n c) (hu : a.eval hi' = .int .i64 u) (h1 : u ≤ xs.length)
    (next : St G w0 w (L.set i (Own E enc k (.slice (some ⟨R, 0, none⟩) u c) (xs.take u))) → wpList P ops Q rest (a.put d (.slice (some ⟨R, 0, none⟩) u c)) w) (hgd : gOk gd ops a = true := by with_unfolding_all rfl) :
    wpList P ops Q ({ dst := d, op := .slice T x none (some hi') none, type := tt, pos := p, after := af, guard := gd } :: rest) a w :=
  wpList_ok hgd fun K hK => by
    obtain ⟨F0, hF0⟩ := S.get hi
    obtain ⟨cur, hO, hn⟩ := own_at hF0
    have hle := hO.le
    have hr := run_sliceAt_sl (P := P) (w := w) hT (hE w) (some ⟨R, 0, none⟩) n c 0 u none (some (.int .i64 u)) (.inl ⟨rfl, rfl⟩) (.inr rfl) (Nat.zero_le _) (by omega)
    have e : (if c = 0 then (some ⟨R, 0, none⟩ : Option Addr) else (some ⟨R, 0, none⟩ : Option Addr).map (·.add (0 * k))) = some ⟨R, 0, none⟩ := by simp [add_none]
    rw [e, Nat.sub_zero, Nat.sub_zero] at hr
    unfold Oper.wp execOp
    simp only [Option.map_none, Option.map_some, hx, hu, hr, Sem.run_bind, Sem.run_pure, Result.andThen_ok]
    refine hK _ _ (next (S.weak hi (fun _ => rfl) fun F hF => ⟨F, fun _ hb => hb, ?_, fun x => by rw [hF.2 x]; rfl⟩))
    obtain ⟨cur, hO, hn⟩ := own_at hF
    have := (hO.cut hk u h1).own hk
    rwa [show (xs.take u).length = u by rw [List.length_take]; omega] at this
end
end Go.Proofs.YtcnfionnnpnplaaGreatDoor.Mem
/- The walks of a heap's Get, First, Pull, Pop. -/
namespace Go.Proofs.YtcnfionnnpnplaaGreatDoor
open Go.RowKit Reg Mem

theorem heapR_st {B : Nat} {s : List Row} {w : World} {F : Nat → Prop} (h : (heapA B s).at_ w F) :
    ∃ M v rows, Ordered rows ∧ rows.Perm s ∧ HSorted s ∧ St (fun _ => False) w w [MapA true Tryz.prog 54 Key.cells M (posMap rows), Sl true Row.cells 11 v rows, Blk true B #[v, .map (some M)] 183] := by
  obtain ⟨⟨M, v, rows⟩, F1, F2, ⟨⟨h1, h2, h3⟩, _⟩, h4, _, _⟩ := h
  exact ⟨M, v, rows, h1, h2, h3, rawR_st h4⟩
def foundVal (s : List Row) (k : Key) : Value :=
  match s.find? (fun x => x.key = k) with
  | some r => .tuple #[.agg #[.int .i64 r.v.key.at_, .int .i64 r.v.key.src, .int .i64 r.v.key.sent, .int .i64 r.v.key.no, .int .i64 r.v.dst, .int .i64 r.v.kind, .int .i64 r.v.data], .int .i64 0]
  | none => .tuple #[.agg #[.int .i64 0, .int .i64 0, .int .i64 0, .int .i64 0, .int .i64 0, .int .i64 0, .int .i64 0], .int .i64 14]
def firstVal : List Row → Value
  | [] => .tuple #[.agg #[.int .i64 0, .int .i64 0, .int .i64 0, .int .i64 0], .agg #[.int .i64 0, .int .i64 0, .int .i64 0, .int .i64 0, .int .i64 0, .int .i64 0, .int .i64 0], .int .i64 14]
  | r :: _ => .tuple #[.agg #[.int .i64 r.key.at_, .int .i64 r.key.src, .int .i64 r.key.sent, .int .i64 r.key.no], .agg #[.int .i64 r.v.key.at_, .int .i64 r.v.key.src, .int .i64 r.v.key.sent, .int .i64 r.v.key.no, .int .i64 r.v.dst, .int .i64 r.v.kind, .int .i64 r.v.data], .int .i64 0]
set_option maxRecDepth 100000 in
theorem hfirst_calls (B : Nat) (s : List Row) (w : World) (F : Nat → Prop) (h : (heapA B s).at_ w F) :
    Calls Tryz.prog 103 #[.pointer (some ⟨B, 0, none⟩)] w fun e w' => e = .returned (firstVal s) ∧ Below w.heap.size w w' := by
  obtain ⟨M, v, rows, ho, hp, hs, S⟩ := heapR_st h
  obtain ⟨ad, cp, rfl, _⟩ := (S.sl 1 rfl).elim fun _ h => h.form
  clear h
  cases rows with
  | nil =>
    obtain rfl : s = [] := hp.symm.eq_nil
    go_enter Tryz.func103, Tryz.ntmps103
    go_wp2_with first | ((with_reducible apply wps_alloca (E := 54) S); (case hz => exact Tryz.zeroValue54); clear S; intro bz wz S) | ((with_reducible apply wps_alloca (E := 56) S); (case hz => exact Tryz.zeroValue56); clear S; intro bz wz S) | ((with_reducible apply wps_load S 4); (case hx | hi | hu => rfl); (case hT => decide +kernel))
    replace S := S.pick [2, 3, 4, 1, 0] rfl
    simp only [pick, nth] at S
    (refine wp_region_wt (soft := []) (L := [_, _, _]) (T := [_, _]) S ?hm ?hB ?_); (case hm => kernel_rfl); (case hB => decide +kernel); clear S
    iterate 0
      (with_reducible apply softs_cons)
      (case hw =>
        (with_reducible apply soft_of); (case hi => rfl)
        intro T wz S
        simp only [List.cons_append, List.nil_append] at S
        go_wp2_with first | ((with_reducible apply wps_loada (T := 56) (k := 7) S 5); (case hx | hi => rfl); (case hk => exact Nat.le_of_ble_eq_true rfl); (case hT => decide +kernel))
        exact ⟨rfl, S⟩)
      (case hs => exact ⟨_, rfl, by kernel_rfl⟩)
    refine softs_nil ?_
    (with_reducible apply W_hard2 (i := 0) (i' := 1)); (case hn => rfl); (case hr => decide +kernel)
    focus
      intro wz S
      (with_reducible apply hard_of); (case hi => rfl)
      simp only [List.cons_append, List.nil_append] at S
      go_wp2_with first | ((with_reducible refine tot_done ?ht ?_); (case ht => kernel_rfl)) | ((with_reducible apply wps_loada (T := 54) (k := 4) S 3); (case hx | hi => rfl); (case hk => exact Nat.le_of_ble_eq_true rfl); (case hT => decide +kernel))
      refine ⟨_, S, ?_⟩
      clear S
      (with_reducible apply W_hard2 (i := 1) (i' := 2)); (case hn => rfl); (case hr => decide +kernel)
      focus
        intro wz S
        (with_reducible apply hard_of); (case hi => rfl)
        simp only [List.cons_append, List.nil_append] at S
        go_wp2_with first | ((with_reducible refine tot_done ?ht ?_); (case ht => kernel_rfl)) | ((with_reducible apply wps_loada (T := 56) (k := 7) S 4); (case hx | hi => rfl); (case hk => exact Nat.le_of_ble_eq_true rfl); (case hT => decide +kernel))
        refine ⟨_, S, ?_⟩
        clear S
        (with_reducible apply W_hard1 (i := 2)); (case hn => rfl); (case hr => decide +kernel)
        intro wz S
        (with_reducible apply hard_of); (case hi => rfl)
        simp only [List.cons_append, List.nil_append] at S
        go_wp2_with first | ((with_reducible apply wps_storea (T := 54) S 3 (vs := [.int .i64 0, .int .i64 0, .int .i64 0, .int .i64 0]) (m := 4)); (case hx | hy | hi | hm | h1 => rfl); (case hn => exact Nat.le_of_ble_eq_true rfl); (case hT => decide +kernel); clear S; intro wz S; simp only [List.set_cons_zero, List.set_cons_succ, setAll, List.setIfInBounds_toArray] at S) | ((with_reducible refine tot_done ?ht ?_); (case ht => kernel_rfl))
        refine ⟨_, S, ?_⟩
        clear S
        (with_reducible apply W_hard1 (i := 3)); (case hn => rfl); (case hr => decide +kernel)
        intro wz S
        (with_reducible apply hard_of); (case hi => rfl)
        simp only [List.cons_append, List.nil_append] at S
        go_wp2_with first | ((with_reducible apply wps_storea (T := 56) S 4 (vs := [.int .i64 0, .int .i64 0, .int .i64 0, .int .i64 0, .int .i64 0, .int .i64 0, .int .i64 0]) (m := 7)); (case hx | hy | hi | hm | h1 => rfl); (case hn => exact Nat.le_of_ble_eq_true rfl); (case hT => decide +kernel); clear S; intro wz S; simp only [List.set_cons_zero, List.set_cons_succ, setAll, List.setIfInBounds_toArray] at S) | ((with_reducible refine tot_done ?ht ?_); (case ht => kernel_rfl))
        refine ⟨_, S, ?_⟩
        clear S
        (refine W_mid (f := 0) (soft := [4]) rfl ?hB ?_); (case hB => decide +kernel)
        iterate 1
          (with_reducible apply softs_cons)
          (case hw =>
            (with_reducible apply soft_of); (case hi => rfl)
            intro T wz S
            simp only [List.cons_append, List.nil_append] at S
            go_wp2_with first | ((with_reducible refine tot_done ?ht ?_); (case ht => kernel_rfl))
            exact ⟨rfl, S⟩)
          (case hs => exact ⟨_, rfl, by kernel_rfl⟩)
        refine softs_nil ?_
        (with_reducible apply W_done); (case hn => rfl); (case hr => decide +kernel)
        intro wz S
        repeat (first | simp only at S | simp only [pick] at S | simp only [nth] at S | simp only [List.set_cons_succ] at S | simp only [List.set_cons_zero] at S | simp only [List.setIfInBounds_toArray] at S | simp only [setAll] at S | simp only [List.cons_append] at S | simp only [List.nil_append] at S | simp only [List.append_nil] at S)
      rotate_left 1
      focus
        intro wz S
        (with_reducible apply hard_of); (case hi => rfl)
        simp only [List.cons_append, List.nil_append] at S
        go_wp2_with first | ((with_reducible apply wps_storea (T := 54) S 3 (vs := [.int .i64 0, .int .i64 0, .int .i64 0, .int .i64 0]) (m := 4)); (case hx | hy | hi | hm | h1 => rfl); (case hn => exact Nat.le_of_ble_eq_true rfl); (case hT => decide +kernel); clear S; intro wz S; simp only [List.set_cons_zero, List.set_cons_succ, setAll, List.setIfInBounds_toArray] at S) | ((with_reducible refine tot_done ?ht ?_); (case ht => kernel_rfl))
        refine ⟨_, S, ?_⟩
        clear S
        (with_reducible apply W_hard1 (i := 1)); (case hn => rfl); (case hr => decide +kernel)
        intro wz S
        (with_reducible apply hard_of); (case hi => rfl)
        simp only [List.cons_append, List.nil_append] at S
        go_wp2_with first | ((with_reducible refine tot_done ?ht ?_); (case ht => kernel_rfl)) | ((with_reducible apply wps_loada (T := 56) (k := 7) S 4); (case hx | hi => rfl); (case hk => exact Nat.le_of_ble_eq_true rfl); (case hT => decide +kernel))
        refine ⟨_, S, ?_⟩
        clear S
        (with_reducible apply W_hard1 (i := 3)); (case hn => rfl); (case hr => decide +kernel)
        intro wz S
        (with_reducible apply hard_of); (case hi => rfl)
        simp only [List.cons_append, List.nil_append] at S
        go_wp2_with first | ((with_reducible apply wps_storea (T := 56) S 4 (vs := [.int .i64 0, .int .i64 0, .int .i64 0, .int .i64 0, .int .i64 0, .int .i64 0, .int .i64 0]) (m := 7)); (case hx | hy | hi | hm | h1 => rfl); (case hn => exact Nat.le_of_ble_eq_true rfl); (case hT => decide +kernel); clear S; intro wz S; simp only [List.set_cons_zero, List.set_cons_succ, setAll, List.setIfInBounds_toArray] at S) | ((with_reducible refine tot_done ?ht ?_); (case ht => kernel_rfl))
        refine ⟨_, S, ?_⟩
        clear S
        (refine W_mid (f := 0) (soft := [4]) rfl ?hB ?_); (case hB => decide +kernel)
        iterate 1
          (with_reducible apply softs_cons)
          (case hw =>
            (with_reducible apply soft_of); (case hi => rfl)
            intro T wz S
            simp only [List.cons_append, List.nil_append] at S
            go_wp2_with first | ((with_reducible refine tot_done ?ht ?_); (case ht => kernel_rfl))
            exact ⟨rfl, S⟩)
          (case hs => exact ⟨_, rfl, by kernel_rfl⟩)
        refine softs_nil ?_
        (with_reducible apply W_done); (case hn => rfl); (case hr => decide +kernel)
        intro wz S
        repeat (first | simp only at S | simp only [pick] at S | simp only [nth] at S | simp only [List.set_cons_succ] at S | simp only [List.set_cons_zero] at S | simp only [List.setIfInBounds_toArray] at S | simp only [setAll] at S | simp only [List.cons_append] at S | simp only [List.nil_append] at S | simp only [List.append_nil] at S)
    rotate_left 2
    focus
      intro wz S
      (with_reducible apply hard_of); (case hi => rfl)
      simp only [List.cons_append, List.nil_append] at S
      go_wp2_with first | ((with_reducible refine tot_done ?ht ?_); (case ht => kernel_rfl)) | ((with_reducible apply wps_loada (T := 56) (k := 7) S 4); (case hx | hi => rfl); (case hk => exact Nat.le_of_ble_eq_true rfl); (case hT => decide +kernel))
      refine ⟨_, S, ?_⟩
      clear S
      (with_reducible apply W_hard1 (i := 0)); (case hn => rfl); (case hr => decide +kernel)
      intro wz S
      (with_reducible apply hard_of); (case hi => rfl)
      simp only [List.cons_append, List.nil_append] at S
      go_wp2_with first | ((with_reducible refine tot_done ?ht ?_); (case ht => kernel_rfl)) | ((with_reducible apply wps_loada (T := 54) (k := 4) S 3); (case hx | hi => rfl); (case hk => exact Nat.le_of_ble_eq_true rfl); (case hT => decide +kernel))
      refine ⟨_, S, ?_⟩
      clear S
      (with_reducible apply W_hard1 (i := 2)); (case hn => rfl); (case hr => decide +kernel)
      intro wz S
      (with_reducible apply hard_of); (case hi => rfl)
      simp only [List.cons_append, List.nil_append] at S
      go_wp2_with first | ((with_reducible apply wps_storea (T := 54) S 3 (vs := [.int .i64 0, .int .i64 0, .int .i64 0, .int .i64 0]) (m := 4)); (case hx | hy | hi | hm | h1 => rfl); (case hn => exact Nat.le_of_ble_eq_true rfl); (case hT => decide +kernel); clear S; intro wz S; simp only [List.set_cons_zero, List.set_cons_succ, setAll, List.setIfInBounds_toArray] at S) | ((with_reducible refine tot_done ?ht ?_); (case ht => kernel_rfl))
      refine ⟨_, S, ?_⟩
      clear S
      (with_reducible apply W_hard1 (i := 3)); (case hn => rfl); (case hr => decide +kernel)
      intro wz S
      (with_reducible apply hard_of); (case hi => rfl)
      simp only [List.cons_append, List.nil_append] at S
      go_wp2_with first | ((with_reducible apply wps_storea (T := 56) S 4 (vs := [.int .i64 0, .int .i64 0, .int .i64 0, .int .i64 0, .int .i64 0, .int .i64 0, .int .i64 0]) (m := 7)); (case hx | hy | hi | hm | h1 => rfl); (case hn => exact Nat.le_of_ble_eq_true rfl); (case hT => decide +kernel); clear S; intro wz S; simp only [List.set_cons_zero, List.set_cons_succ, setAll, List.setIfInBounds_toArray] at S) | ((with_reducible refine tot_done ?ht ?_); (case ht => kernel_rfl))
      refine ⟨_, S, ?_⟩
      clear S
      (refine W_mid (f := 0) (soft := [4]) rfl ?hB ?_); (case hB => decide +kernel)
      iterate 1
        (with_reducible apply softs_cons)
        (case hw =>
          (with_reducible apply soft_of); (case hi => rfl)
          intro T wz S
          simp only [List.cons_append, List.nil_append] at S
          go_wp2_with first | ((with_reducible refine tot_done ?ht ?_); (case ht => kernel_rfl))
          exact ⟨rfl, S⟩)
        (case hs => exact ⟨_, rfl, by kernel_rfl⟩)
      refine softs_nil ?_
      (with_reducible apply W_done); (case hn => rfl); (case hr => decide +kernel)
      intro wz S
      repeat (first | simp only at S | simp only [pick] at S | simp only [nth] at S | simp only [List.set_cons_succ] at S | simp only [List.set_cons_zero] at S | simp only [List.setIfInBounds_toArray] at S | simp only [setAll] at S | simp only [List.cons_append] at S | simp only [List.nil_append] at S | simp only [List.append_nil] at S)
    all_goals
      go_wp2_with first | ((with_reducible apply wps_loada (T := 56) (k := 7) S 5); (case hx | hi => rfl); (case hk => exact Nat.le_of_ble_eq_true rfl); (case hT => decide +kernel))
      (try simp only [Exit.inBlock, Exit.then]); refine bodyPost_ret (results3 rfl (S.resA 3 rfl rfl (by kernel_rfl)) (S.resA 4 rfl rfl (by kernel_rfl)) (res_tmp rfl)) rfl ?_
      exact ⟨rfl, S.below⟩
  | cons r rows =>
    have hh := head_of ho hp hs (m := r) rfl
    cases s with
    | nil => cases hh
    | cons r' s' =>
      cases hh
      obtain ⟨R, o, rfl⟩ : ∃ R o, ad = some ⟨R, o, none⟩ := (S.sl 1 rfl).elim fun F h => h.head (by simp)
      have Hr := Lib.hid (show (r :: rows)[0]? = some r from rfl)
      clear ho hp hs
      have hl : (0 : Int) < (r :: rows).length := by simp
      have hl2 : (((r :: rows).length : Int) == 0) = false := by simp; omega
      generalize hn : (r :: rows).length = n at hl hl2 S
      go_enter Tryz.func103, Tryz.ntmps103
      go_wp2_with first | ((with_reducible apply wps_alloca (E := 54) S); (case hz => exact Tryz.zeroValue54); clear S; intro bz wz S) | ((with_reducible apply wps_alloca (E := 56) S); (case hz => exact Tryz.zeroValue56); clear S; intro bz wz S) | ((with_reducible apply wps_load S 4); (case hx | hi | hu => rfl); (case hT => decide +kernel))
      replace S := S.pick [2, 3, 4, 1, 0] rfl
      simp only [pick, nth] at S
      (refine wp_region_wt (soft := [0, 1, 2, 3, 4, 5, 6, 7, 8, 9, 10, 11, 12, 13]) (L := [_, _, _]) (T := [_, _]) S ?hm ?hB ?_); (case hm => kernel_rfl); (case hB => decide +kernel); clear S
      iterate 14
        (with_reducible apply softs_cons)
        (case hw =>
          (with_reducible apply soft_of); (case hi => rfl)
          intro T wz S
          simp only [List.cons_append, List.nil_append] at S
          go_wp2_with first | ((with_reducible apply wps_loada_el S 1 (hj := Hr.out) (q := 0) (vs := [.int .i64 r.key.at_, .int .i64 r.key.src, .int .i64 r.key.sent, .int .i64 r.key.no]) (m := 4)); (case hx | hi => rfl); (case hn => omega); (case hm | hv => rfl); (case hT => decide +kernel)) | ((with_reducible apply wps_loada_el S 1 (hj := Hr.out) (q := 4) (vs := [.int .i64 r.v.key.at_, .int .i64 r.v.key.src, .int .i64 r.v.key.sent, .int .i64 r.v.key.no, .int .i64 r.v.dst, .int .i64 r.v.kind, .int .i64 r.v.data]) (m := 7)); (case hx | hi => rfl); (case hn => omega); (case hm | hv => rfl); (case hT => decide +kernel)) | ((with_reducible refine tot_done ?ht ?_); (case ht => kernel_rfl)) | ((with_reducible apply wps_load S 2); (case hx | hi | hu => rfl); (case hT => decide +kernel))
          exact ⟨rfl, S⟩)
        (case hs => exact ⟨_, rfl, by kernel_rfl⟩)
      refine softs_nil ?_
      (with_reducible apply W_hard1 (i := 14)); (case hn => rfl); (case hr => decide +kernel)
      intro wz S
      (with_reducible apply hard_of); (case hi => rfl)
      simp only [List.cons_append, List.nil_append] at S
      go_wp2_with first | ((with_reducible apply wps_storea (T := 54) S 3 (vs := [.int .i64 r.key.at_, .int .i64 r.key.src, .int .i64 r.key.sent, .int .i64 r.key.no]) (m := 4)); (case hx | hy | hi | hm | h1 => rfl); (case hn => exact Nat.le_of_ble_eq_true rfl); (case hT => decide +kernel); clear S; intro wz S; simp only [List.set_cons_zero, List.set_cons_succ, setAll, List.setIfInBounds_toArray] at S) | ((with_reducible refine tot_done ?ht ?_); (case ht => kernel_rfl))
      refine ⟨_, S, ?_⟩
      clear S
      (with_reducible apply W_hard1 (i := 15)); (case hn => rfl); (case hr => decide +kernel)
      intro wz S
      (with_reducible apply hard_of); (case hi => rfl)
      simp only [List.cons_append, List.nil_append] at S
      go_wp2_with first | ((with_reducible apply wps_storea (T := 56) S 4 (vs := [.int .i64 r.v.key.at_, .int .i64 r.v.key.src, .int .i64 r.v.key.sent, .int .i64 r.v.key.no, .int .i64 r.v.dst, .int .i64 r.v.kind, .int .i64 r.v.data]) (m := 7)); (case hx | hy | hi | hm | h1 => rfl); (case hn => exact Nat.le_of_ble_eq_true rfl); (case hT => decide +kernel); clear S; intro wz S; simp only [List.set_cons_zero, List.set_cons_succ, setAll, List.setIfInBounds_toArray] at S) | ((with_reducible refine tot_done ?ht ?_); (case ht => kernel_rfl))
      refine ⟨_, S, ?_⟩
      clear S
      (refine W_mid (f := 0) (soft := [16]) rfl ?hB ?_); (case hB => decide +kernel)
      iterate 1
        (with_reducible apply softs_cons)
        (case hw =>
          (with_reducible apply soft_of); (case hi => rfl)
          intro T wz S
          simp only [List.cons_append, List.nil_append] at S
          go_wp2_with first | ((with_reducible refine tot_done ?ht ?_); (case ht => kernel_rfl))
          exact ⟨rfl, S⟩)
        (case hs => exact ⟨_, rfl, by kernel_rfl⟩)
      refine softs_nil ?_
      (with_reducible apply W_done); (case hn => rfl); (case hr => decide +kernel)
      intro wz S
      repeat (first | simp only at S | simp only [pick] at S | simp only [nth] at S | simp only [List.set_cons_succ] at S | simp only [List.set_cons_zero] at S | simp only [List.setIfInBounds_toArray] at S | simp only [setAll] at S | simp only [List.cons_append] at S | simp only [List.nil_append] at S | simp only [List.append_nil] at S)
      all_goals
        go_wp2_with first | ((with_reducible apply wps_loada (T := 56) (k := 7) S 5); (case hx | hi => rfl); (case hk => exact Nat.le_of_ble_eq_true rfl); (case hT => decide +kernel))
        (try simp only [Exit.inBlock, Exit.then]); refine bodyPost_ret (results3 rfl (S.resA 3 rfl rfl (by kernel_rfl)) (S.resA 4 rfl rfl (by kernel_rfl)) (res_tmp rfl)) rfl ?_
        exact ⟨rfl, S.below⟩
end Go.Proofs.YtcnfionnnpnplaaGreatDoor
