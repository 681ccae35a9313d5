import Derived.Test.YtnkngclfbmcmhaaW7
namespace Go.Proofs.Ytnkngclfbmcmhaa
open Go.RowKit Reg Mem

def intE (x : Int) : List Value := [.int .i64 x]
theorem intE_len : ∀ x, (intE x).length = 1 := fun _ => rfl
theorem intE_one : ∀ x, ∀ u ∈ intE x, u.oneCell' = true := fun x u hu => by simp [intE] at hu; subst hu; rfl
/-- A slice reads as these numbers. -/
def IntsAt (w : World) (sv : Value) (xs : List Int) : Prop := ∃ a c, sv = .slice a xs.length c ∧ ∀ (i : Nat) x, xs[i]? = some x → ∃ R, a = some ⟨R, 0, none⟩ ∧ w.cell? ⟨R, i, none⟩ = some (.int .i64 x)
theorem IntsAt.nil (w : World) : IntsAt w (.slice none 0 0) [] := ⟨none, 0, rfl, fun i x h => by simp at h⟩
theorem IntsAt.own {E lo : Nat} {w : World} {v : Value} {xs : List Int} (h : Owns E intE 1 lo w v xs) : IntsAt w v xs := by
  obtain ⟨a, c, e⟩ := h.form
  refine ⟨a, c, e, fun i x hx => ?_⟩
  obtain ⟨R, cap, cur, e2, hO⟩ := h.some (by have := (List.getElem?_eq_some_iff.1 hx).1; omega)
  rw [e2] at e
  cases e
  refine ⟨R, rfl, ?_⟩
  have := hO.cells intE_len hx 0 _ rfl
  simpa using this
theorem IntsAt.keep {S : Nat → Prop} {w w' : World} {sv : Value} {xs : List Int} (h : IntsAt w sv xs) (hK : Keep S w w') (hn : ∀ R, sv.ownBlock = some R → ¬ S R) : IntsAt w' sv xs := by
  obtain ⟨a, c, rfl, h2⟩ := h
  refine ⟨a, c, rfl, fun i x hx => ?_⟩
  obtain ⟨R, rfl, hc⟩ := h2 i x hx
  exact ⟨R, rfl, hK.cell hc (hn R rfl)⟩

def IntsRel (xs ys : List Int) (w : World) (i : Value) (wr : World) : Prop := ∃ k : Nat, i = .int .i64 k ∧ k ≤ xs.length ∧ (∀ j, j < k → xs[j]? = ys[j]?) ∧ Below w.heap.size w wr
set_option maxHeartbeats 1000000 in
set_option maxRecDepth 100000 in
theorem ints_calls (sv tv : Value) (xs ys : List Int) (w : World) (h1 : IntsAt w sv xs) (h2 : IntsAt w tv ys) (hmax : xs.length ≤ 4294967296) :
    Calls Try.prog 16 #[sv, tv] w fun e w' => e = .returned (.bool (decide (xs = ys))) ∧ Below w.heap.size w w' := by
  obtain ⟨a, c, rfl, g1⟩ := h1
  obtain ⟨b, d, rfl, g2⟩ := h2
  have G1 := Lib.hid g1
  have G2 := Lib.hid g2
  clear g1 g2
  by_cases hl : xs.length = ys.length
  · have hl2 : ((xs.length : Int) != ys.length) = false := by simp [hl]
    generalize hn : ys.length = m at *
    have HM := Lib.hid hn
    generalize hn2 : xs.length = n at *
    have HN := Lib.hid hn2
    clear hn hn2
    go_enter Try.func16, Try.ntmps16
    go_wp2
    go_loopw [5] (fun i wr => IntsRel xs ys w i wr) (fun i _ => n - (intOf i).toNat)
    case atStart => exact ⟨0, rfl, by omega, fun j hj => by omega, Below.refl _ _⟩
    case round =>
      obtain ⟨k, rfl, hk, heq, hb⟩ := hrel
      have HE := Lib.hid heq
      have HB := Lib.hid hb
      rw [HN.out] at hk
      have hkm : (k : Int) < 18446744073709551616 := by omega
      clear heq hb
      by_cases hkn : k < n
      · obtain ⟨x, hx⟩ : ∃ x, xs[k]? = some x := ⟨_, List.getElem?_eq_getElem (by rw [HN.out]; exact hkn)⟩
        obtain ⟨y, hy⟩ : ∃ x, ys[k]? = some x := ⟨_, List.getElem?_eq_getElem (by rw [HM.out]; omega)⟩
        obtain ⟨R, rfl, hcx⟩ := G1.out k x hx
        obtain ⟨T, rfl, hcy⟩ := G2.out k y hy
        have hcx' := (HB.out.cell (p := ⟨R, k, none⟩) (World.block_lt_of_cell? w _ hcx)).trans hcx
        have hcy' := (HB.out.cell (p := ⟨T, k, none⟩) (World.block_lt_of_cell? w _ hcy)).trans hcy
        have hki : (k : Int) < n := by omega
        have hkmm : (k : Int) < m := by omega
        have HX := Lib.hid hx
        have HY := Lib.hid hy
        clear hcx hcy hx hy
        by_cases hxy : x = y
        · subst hxy
          go_wp2_with first
            | ((with_reducible refine tot_done ?ht ?_); (case ht => rfl))
            | ((with_reducible refine wp_region_text ?hm ?hb ?_); (case hm => kernel_rfl); (case hb => decide +kernel))
          go_roundw
          case rel =>
            refine ⟨k + 1, by go_num, by rw [HN.out]; omega, fun j hj => ?_, HB.out.drew⟩
            by_cases hjk : j = k
            · subst hjk; rw [HX.out, HY.out]
            · exact HE.out j (by omega)
          case measure => simp [intOf]; omega
        · have hxy2 : (x != y) = true := by simpa using hxy
          go_wp2_with first
            | ((with_reducible refine tot_done ?ht ?_); (case ht => rfl))
            | ((with_reducible refine wp_region_text ?hm ?hb ?_); (case hm => kernel_rfl); (case hb => decide +kernel))
          go_ret
          refine ⟨ret_bool ?_, HB.out.drew⟩
          rw [eq_comm, decide_eq_false_iff_not]
          rintro rfl
          rw [HX.out] at HY
          exact hxy (Option.some.inj HY.out)
      · obtain rfl : n = k := by omega
        clear hkn hk
        go_wp2
        go_ret
        refine ⟨ret_bool ?_, HB.out⟩
        rw [eq_comm, decide_eq_true_eq]
        refine List.ext_getElem? fun j => ?_
        by_cases hj : j < n
        · exact HE.out j hj
        · rw [List.getElem?_eq_none (by rw [HN.out]; omega), List.getElem?_eq_none (by rw [HM.out]; omega)]
  · have hl2 : ((xs.length : Int) != ys.length) = true := by simp; omega
    have hne : decide (xs = ys) = false := by simp; rintro rfl; exact hl rfl
    rw [hne]
    generalize xs.length = n at *
    generalize ys.length = m at *
    go_enter Try.func16, Try.ntmps16
    go_wp2
    go_ret
    exact ⟨rfl, Below.refl _ _⟩

theorem hs_top {lo : Nat} {F : Nat → Prop} {w : World} {B : Nat} {r : Row} {s : List Row} (h : HS lo F w B (r :: s)) : ∃ R cap, w.cell? ⟨B, 0, none⟩ = some (.slice (some ⟨R, 0, none⟩) (s.length + 1) cap) ∧ w.cell? ⟨R, 0, none⟩ = some (.int .i64 r.key.at_) := by
  obtain ⟨M, v, rows, hH, hB, hM, hR, hF, ho, hp, hs⟩ := h
  have hlen : rows.length = s.length + 1 := hp.length_eq
  obtain ⟨m, hm⟩ : ∃ m, rows[0]? = some m := ⟨_, List.getElem?_eq_getElem (by omega)⟩
  have hh := head_of ho hp hs hm
  cases hh
  obtain ⟨R, cap, cur, rfl, hO⟩ := hH.own.some (by omega)
  refine ⟨R, cap, by rw [cell_of hH.cell, ← hlen]; rfl, ?_⟩
  have := hO.cells hcells hm 0 _ rfl
  simpa using this
theorem hs_empty {lo : Nat} {F : Nat → Prop} {w : World} {B : Nat} (h : HS lo F w B []) : ∃ a cap, w.cell? ⟨B, 0, none⟩ = some (.slice a 0 cap) := by
  obtain ⟨M, v, rows, hH, hB, hM, hR, hF, ho, hp, hs⟩ := h
  obtain rfl := hp.eq_nil
  obtain ⟨a0, cap, rfl⟩ := hH.own.form
  exact ⟨a0, cap, by rw [cell_of hH.cell]; rfl⟩
theorem own_bound {α : Type} {E : TypeId} {enc : α → List Value} {k lo : Nat} {w : World} {v : Value} {xs : List α} (h : Owns E enc k lo w v xs) : ∀ R, v.ownBlock = some R → R < w.heap.size ∧ lo ≤ R := by
  intro R hR
  rcases h.2 with ⟨e, _⟩ | ⟨g, cap, cur, e, hl, hg, _⟩
  · rw [e] at hR; simp [Value.ownBlock] at hR
  · rw [e] at hR; simp only [Value.ownBlock, Option.some.injEq] at hR
    subst hR
    exact ⟨(Array.getElem?_eq_some_iff.1 hg).1, hl⟩
theorem own_weak {α : Type} {E : TypeId} {enc : α → List Value} {k lo lo' : Nat} {w : World} {v : Value} {xs : List α} (h : Owns E enc k lo w v xs) (hl : lo' ≤ lo) : Owns E enc k lo' w v xs := by
  refine ⟨h.1, ?_⟩
  rcases h.2 with h0 | ⟨g, cap, cur, e, hb, hr⟩
  · exact .inl h0
  · exact .inr ⟨g, cap, cur, e, Nat.le_trans hl hb, hr⟩
theorem elemInt : Elem Try.prog 31 3 1 8 := ⟨_, .int .i64 0, Try.underlying31, rfl, by kernel_rfl, by kernel_rfl, by kernel_rfl, by kernel_rfl, by omega⟩
theorem int_rd {w : World} {b : Nat} {x : Int} {E : TypeId} (h : w.heap[b]? = some (.cells #[.int .i64 x] E (0, 0))) : Rd intE w (.slice (some ⟨b, 0, none⟩) 1 1) [x] := by
  refine ⟨some ⟨b, 0, none⟩, 1, rfl, fun h => (by cases h), fun ad ha j u hu => ?_⟩
  cases ha
  rw [add_none, cell_of h, Nat.zero_add]
  rw [← hu]
  simp [flatE, intE]
def same_at (t : Int) (r : Row) : Bool := r.key.at_ == t
def slen : Value → Nat
  | .slice _ n _ => n
  | _ => 0
def BatchPost (lo : Nat) (F : Nat → Prop) (B : Nat) (r : Row) (s : List Row) (w : World) (e : Ending) (w' : World) : Prop :=
  ∃ v, e = .returned (.tuple #[.int .i64 r.key.at_, v, .int .i64 0]) ∧ Owns 3 intE 1 w.heap.size w' v (((r :: s).takeWhile (same_at r.key.at_)).map (·.v)) ∧ HKept lo F B w ((r :: s).dropWhile (same_at r.key.at_)) w'
theorem batch_none (lo : Nat) (F : Nat → Prop) (B : Nat) (w : World) (h : HS lo F w B []) :
    Calls Try.prog 15 #[.pointer (some ⟨B, 0, none⟩)] w fun e w' => e = .returned (.tuple #[.int .i64 0, .slice none 0 0, .int .i64 14]) ∧ Below w.heap.size w w' := by
  have HA : Hid (Calls Try.prog 26 #[.pointer (some ⟨B, 0, none⟩)] w fun e w'_1 => e = .returned (.tuple #[.agg #[.int .i64 0, .int .i64 0, .int .i64 0, .int .i64 0], .int .i64 0, .int .i64 14]) ∧ Below w.heap.size w w'_1) :=
      Lib.hid (hs_first lo F B [] w h)
  clear h
  go_enter Try.func15, Try.ntmps15
  go_wp2_with fail
  refine HA.out.mono ?_
  rintro e w2 ⟨rfl, hb2⟩
  have HB := Lib.hid hb2
  clear hb2
  go_wp2
  refine bodyPost_ret (v := .tuple #[.int .i64 0, .slice none 0 0, .int .i64 14]) (by simp [results, Try.results15, go_sem]) rfl ⟨rfl, ?_⟩
  exact HB.out.alloc HB.out.size _
def BatchRel (lo : Nat) (F : Nat → Prop) (B : Nat) (w : World) (b5 : Nat) (t : Int) (s : List Row) (m : Value) (wr : World) : Prop :=
  ∃ rs rest, Owns 3 intE 1 (b5 + 1) wr m (rs.map (·.v)) ∧ HS lo F wr B rest ∧ Keep F w wr ∧ s.takeWhile (same_at t) = rs ++ rest.takeWhile (same_at t) ∧ s.dropWhile (same_at t) = rest.dropWhile (same_at t) ∧
    rs.length + rest.length = s.length ∧ wr.cell? ⟨b5, 0, none⟩ = some (.int .i64 t)
set_option maxHeartbeats 1000000 in
set_option maxRecDepth 100000 in
theorem batch_some (lo : Nat) (F : Nat → Prop) (B : Nat) (r : Row) (s : List Row) (w : World) (h : HS lo F w B (r :: s)) (hmax : (r :: s).length ≤ 4294967296) :
    Calls Try.prog 15 #[.pointer (some ⟨B, 0, none⟩)] w (BatchPost lo F B r s w) := by
  obtain ⟨⟨a, b, c, d⟩, x⟩ := r
  have HA : Hid (Calls Try.prog 26 #[.pointer (some ⟨B, 0, none⟩)] w fun e w'_1 => e = .returned (.tuple #[.agg #[.int .i64 a, .int .i64 b, .int .i64 c, .int .i64 d], .int .i64 x, .int .i64 0]) ∧ Below w.heap.size w w'_1) :=
      Lib.hid (hs_first lo F B (⟨⟨a, b, c, d⟩, x⟩ :: s) w h)
  have H := Lib.hid h
  have HFB := Lib.hid h.bound
  generalize hs : (⟨⟨a, b, c, d⟩, x⟩ :: s : List Row) = s0 at *
  have HMX := Lib.hid hmax
  clear h hmax
  go_enter Try.func15, Try.ntmps15
  go_wp2_with fail
  refine HA.out.mono ?_
  rintro e w2 ⟨rfl, hb2⟩
  have HB := Lib.hid hb2
  clear hb2
  go_wp2
  go_loopw [3] (fun m wr => BatchRel lo F B w w2.heap.size a s0 m wr) (fun m _ => s0.length - slen m)
  case atStart =>
    have hK : Keep F w (w2.alloc (.cells #[.int .i64 a, .int .i64 b, .int .i64 c, .int .i64 d] 29)) := (Keep.of_below HB.out).alloc _
    exact ⟨[], s0, ⟨rfl, .inl ⟨rfl, rfl⟩⟩, H.out.keep ((Keep.of_below (S := fun _ => False) HB.out).alloc _) (fun _ _ => id), hK, rfl, rfl, by simp, by rw [cell_of (heap_alloc_new w2 _)]; rfl⟩
  case round =>
    obtain ⟨rs, rest, hO, hH, hK, htw, hdw, hlen, h5⟩ := hrel
    have h5l := World.block_lt_of_cell? wr _ h5
    have HO := Lib.hid hO
    have HH := Lib.hid hH
    have HK := Lib.hid hK
    have HTW := Lib.hid htw
    have HDW := Lib.hid hdw
    have HLEN := Lib.hid hlen
    have H5 := Lib.hid h5
    have hBl : B < wr.heap.size := (hH.bound B hH.at_).2
    obtain ⟨m0, cm, hm⟩ := hO.form
    have HM := Lib.hid hm
    rw [List.length_map] at hm
    cases rest with
    | nil =>
      obtain ⟨a0, cap, h0⟩ := hs_empty hH
      clear hO hH hK htw hdw hlen hm
      go_wp2_with first
        | ((with_reducible refine tot_done ?ht ?_); (case ht => rfl))
        | ((with_reducible refine wp_region_text ?hm ?hb ?_); (case hm => kernel_rfl); (case hb => decide +kernel))
      refine bodyPost_ret (v := .tuple #[.int .i64 a, u3, .int .i64 0]) (by simp [results, Try.results15, go_sem]) rfl ⟨u3, rfl, ?_, ?_⟩
      · rw [hs, HTW.out, List.takeWhile_nil, List.append_nil]
        exact own_weak (HO.out.keep ((Keep.refl (fun _ => False) wr).drew) (fun _ _ => id)) (by have := HB.out.size; omega)
      · rw [hs, HDW.out]
        exact ⟨HH.out.keep ((Keep.refl (fun _ => False) wr).drew) (fun _ _ => id), HK.out.drew⟩
    | cons r' rest =>
      obtain ⟨R, cap, h0, hR0⟩ := hs_top hH
      have hRl := World.block_lt_of_cell? wr _ hR0
      have hle : rest.length ≤ 4294967296 := by have := HMX.out; simp at hlen; omega
      have hle2 : (rest.length : Int) ≤ 4294967296 := by omega
      have hge : 0 ≤ (rest.length : Int) := by omega
      obtain ⟨⟨a1, b1, c1, d1⟩, x1⟩ := r'
      simp only at hR0
      have hpop := hs_pop lo F B (⟨⟨a1, b1, c1, d1⟩, x1⟩ :: rest) wr.drew (hH.keep ((Keep.refl (fun _ => False) wr).drew) (fun _ _ => id)) (by have := HMX.out; omega)
      have HP : Hid (Calls Try.prog 12 #[.pointer (some ⟨B, 0, none⟩)] wr.drew fun e w' => e = .returned (.tuple #[.agg #[.int .i64 a1, .int .i64 b1, .int .i64 c1, .int .i64 d1], .int .i64 x1, .int .i64 0]) ∧ HKept lo F B wr.drew rest w') := Lib.hid hpop
      generalize hrl : rest.length = n at h0 hle hle2 hge
      have HRL := Lib.hid hrl
      clear hpop hO hH hK htw hdw hlen hm hrl
      by_cases hat : a1 = a
      · subst hat
        go_wp2_with first
          | ((with_reducible refine tot_done ?ht ?_); (case ht => rfl))
          | ((with_reducible refine wp_region_text ?hm ?hb ?_); (case hm => kernel_rfl); (case hb => decide +kernel))
        refine HP.out.mono ?_
        rintro e w3 ⟨rfl, hH3, hK3⟩
        have hne : ∀ R, u3.ownBlock = some R → ¬ F R := fun R hR hF => by have h1 := own_bound HO.out R hR; have h2 := HFB.out R hF; have h3 := HB.out.size; omega
        have hKd : Keep F wr w3 := hK3.undrew
        have HO3 := Lib.hid (HO.out.keep hKd hne)
        have HH3 := Lib.hid hH3
        have HK3 := Lib.hid (HK.out.trans hKd (U := F) (fun _ _ h => ⟨h, h⟩))
        have H53 := Lib.hid (hKd.cell H5.out (fun hF => by have h2 := HFB.out _ hF; have h1 := HB.out.size; simp only at h2; omega))
        have hsz3 := hKd.size
        have hmx : (rs.map (·.v)).length + 1 ≤ maxLen := by have h1 := HLEN.out; have h2 := HMX.out; simp [maxLen] at h1 ⊢; omega
        have hby : ((rs.map (·.v)).length + 1) * 8 ≤ 140737488355328 := by have h1 := HLEN.out; have h2 := HMX.out; simp at h1 ⊢; omega
        have hw3 : w.heap.size ≤ w3.heap.size := HK3.out.size
        clear hH3 hK3 hKd
        go_wp2_with first
          | ((with_reducible refine tot_done ?ht ?_); (case ht => rfl))
          | ((with_reducible refine wpList_append (v := u3) (sv := .slice (some ⟨w3.heap.size + 1, 0, none⟩) 1 1) (lo := w2.heap.size + 1) (xs := rs.map (·.v)) (ys := [x1]) elemInt intE_len intE_one ?hO ?hr hmx hby ?hlo ?hx ?hy ?_); (case hx => rfl); (case hy => rfl))
        case hO => exact HO3.out.keep (((Keep.refl (fun _ => False) w3).alloc _).alloc _) (fun _ _ => id)
        case hr =>
          refine int_rd (E := 3) ?_
          have := heap_alloc_new (w3.alloc (.cells #[.int .i64 a1, .int .i64 b1, .int .i64 c1, .int .i64 d1] 29)) (.cells #[.int .i64 x1] 3)
          rw [World.size_alloc] at this
          exact this
        case hlo => simp; omega
        intro v' w4 hO4 hK4 hv4
        have hK34 : Keep (fun b => u3.ownBlock = some b) w3 w4 := (((Keep.refl (fun _ => False) w3).alloc _).alloc _).trans hK4 (fun _ _ h => ⟨id, h⟩)
        go_wp2_with first
          | ((with_reducible refine tot_done ?ht ?_); (case ht => rfl))
        go_roundw
        case rel =>
          refine ⟨rs ++ [⟨⟨a1, b1, c1, d1⟩, x1⟩], rest, ?_, HH3.out.keep hK34 (fun y hy e => hne y e hy), HK3.out.trans hK34 (fun y hy h => ⟨h, fun e => ?_⟩), ?_, ?_, ?_, hK34.cell H53.out (fun e => ?_)⟩
          · rw [List.map_append]; exact hO4
          · have := (own_bound HO.out y e).2; have := HB.out.size; omega
          · rw [HTW.out, List.takeWhile_cons_of_pos (by simp [same_at])]; simp
          · rw [HDW.out, List.dropWhile_cons_of_pos (by simp [same_at])]
          · have := HLEN.out; simp at this ⊢; omega
          · have := (own_bound HO.out _ e).2; simp only at this; omega
        case measure =>
          obtain ⟨m1, cm1, rfl⟩ := hO4.form
          have h1 := HM.out
          rw [h1]
          have := HLEN.out
          simp [slen] at this ⊢
          omega
      · have hat2 : (a1 == a) = false := by simpa using hat
        have HAT := Lib.hid hat
        clear hat
        go_wp2_with first
          | ((with_reducible refine tot_done ?ht ?_); (case ht => rfl))
          | ((with_reducible refine wp_region_text ?hm ?hb ?_); (case hm => kernel_rfl); (case hb => decide +kernel))
        refine bodyPost_ret (v := .tuple #[.int .i64 a, u3, .int .i64 0]) (by simp [results, Try.results15, go_sem]) rfl ⟨u3, rfl, ?_, ?_⟩
        · rw [hs, HTW.out, List.takeWhile_cons_of_neg (by simpa [same_at] using HAT.out), List.append_nil]
          exact own_weak (HO.out.keep ((Keep.refl (fun _ => False) wr).drew) (fun _ _ => id)) (by have := HB.out.size; omega)
        · rw [hs, HDW.out, List.dropWhile_cons_of_neg (by simpa [same_at] using HAT.out)]
          exact ⟨HH.out.keep ((Keep.refl (fun _ => False) wr).drew) (fun _ _ => id), HK.out.drew⟩
end Go.Proofs.Ytnkngclfbmcmhaa
