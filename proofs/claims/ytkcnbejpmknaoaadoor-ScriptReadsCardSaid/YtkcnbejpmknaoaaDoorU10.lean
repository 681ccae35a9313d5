import Derived.Test.YtkcnbejpmknaoaaDoorU09
/- The walk of the reference's line (chapter 21). -/
namespace Go.Proofs.YtkcnbejpmknaoaaDoor
open Go Go.RowKit Reg Mem

set_option maxRecDepth 100000 in
theorem zero_Int : zeroIs Tryd.prog 3 1 (icell 0) := ⟨_, .int .i64 0, rfl, by kernel_rfl, by kernel_rfl, rfl, by decide⟩
def outR (k : Nat) (a b z : Int) : DoE × Nat × Int :=
  if a < 0 ∨ b < 0 ∨ z < 0 then (⟨0, 0, 0⟩, 0, 15) else if 4095 < a ∨ 4095 < b ∨ 4095 < z ∨ z = 0 then (⟨0, 0, 0⟩, 0, 10) else (⟨k, a, b⟩, z.toNat, 0)
def rAt (T : List (List UInt8)) (i : Nat) : Int := match T[i]? with | some w => rnumE w | none => 0
theorem rnum_cases (l : List UInt8) : ((numE l).2 = 15 ∧ rnumE l = -1) ∨ ((numE l).2 = 10 ∧ rnumE l = 9999) ∨ ((numE l).2 = 0 ∧ rnumE l = (numE l).1 ∧ 0 ≤ rnumE l ∧ rnumE l ≤ 4095) := by
  have hle := numE_le l
  rcases numE_err l with h | h | h
  · refine .inr (.inr ⟨h, ?_, ?_, ?_⟩) <;> (unfold rnumE; rw [h]; simp) <;> omega
  · refine .inr (.inl ⟨h, ?_⟩); unfold rnumE; rw [h]; rfl
  · refine .inl ⟨h, ?_⟩; unfold rnumE; rw [h]; rfl
theorem rat_cases (T : List (List UInt8)) (i : Nat) : ((∃ w, T[i]? = some w ∧ (numE w).2 = 15) ∧ rAt T i = -1) ∨ ((∃ w, T[i]? = some w ∧ (numE w).2 = 10) ∧ rAt T i = 9999) ∨ ((∀ w, T[i]? = some w → (numE w).2 = 0) ∧ rAt T i = nthE T i ∧ 0 ≤ rAt T i ∧ rAt T i ≤ 4095) := by
  unfold rAt nthE
  cases h : T[i]? with
  | none => exact .inr (.inr ⟨fun w h => (by cases h), rfl, Int.le_refl _, by decide⟩)
  | some w =>
    rcases rnum_cases w with ⟨h1, h2⟩ | ⟨h1, h2⟩ | ⟨h1, h2, h3, h4⟩
    · exact .inl ⟨⟨w, rfl, h1⟩, h2⟩
    · exact .inr (.inl ⟨⟨w, rfl, h1⟩, h2⟩)
    · exact .inr (.inr ⟨fun x hx => (by cases hx; exact h1), h2, h3, h4⟩)
theorem nums_any15 {l : List (List UInt8)} (h : ∃ w ∈ l, (numE w).2 = 15) : numsE l = 15 := by
  obtain ⟨w, hw, e⟩ := h
  unfold numsE; rw [if_pos (List.any_eq_true.2 ⟨w, hw, by rw [e]; rfl⟩)]
theorem nums_any10 {l : List (List UInt8)} (h : ∃ w ∈ l, (numE w).2 = 10) (h2 : ∀ w ∈ l, (numE w).2 ≠ 15) : numsE l = 10 := by
  rw [nums_else h2]
  obtain ⟨w, hw, e⟩ := h
  unfold wrong10; rw [if_pos (List.any_eq_true.2 ⟨w, hw, by rw [e]; rfl⟩)]
theorem nums_none {l : List (List UInt8)} (h : ∀ w ∈ l, (numE w).2 = 0) : numsE l = 0 := by
  rw [nums_else fun w hw => by rw [h w hw]; decide]
  unfold wrong10
  rw [if_neg (by rw [List.any_eq_true]; rintro ⟨w, hw, e⟩; rw [h w hw] at e; exact absurd e (by decide))]
theorem out_line {k : Nat} {W : List UInt8} {T : List (List UInt8)} (hk : k < 4) (hT : T.length = manyE k) : lineT k W T = outR k (rAt T 0) (rAt T 1) (rnumE W) := by
  have hT2 : T.length ≤ 2 := by rw [hT]; unfold manyE; split; omega; split <;> omega
  have mem : ∀ w, w ∈ T → T[0]? = some w ∨ T[1]? = some w := fun w hw => by
    obtain ⟨i, hi, e⟩ := List.mem_iff_getElem.1 hw
    rcases (by omega : i = 0 ∨ i = 1) with rfl | rfl
    · exact .inl (by rw [List.getElem?_eq_getElem hi, e])
    · exact .inr (by rw [List.getElem?_eq_getElem hi, e])
  unfold lineT outR
  rw [if_neg (by omega)]
  rcases rnum_cases W with ⟨w1, w2⟩ | ⟨w1, w2⟩ | ⟨w1, w2, w3, w4⟩
  · rw [nums_any15 ⟨W, by simp, w1⟩, if_pos (by decide), if_pos (by omega)]
  · rcases rat_cases T 0 with ⟨⟨a, a1, a2⟩, a3⟩ | ⟨⟨a, a1, a2⟩, a3⟩ | ⟨a1, a2, a3, a4⟩
    · rw [nums_any15 ⟨a, List.mem_cons_of_mem _ (List.mem_of_getElem? a1), a2⟩, if_pos (by decide), if_pos (by omega)]
    · rcases rat_cases T 1 with ⟨⟨b, b1, b2⟩, b3⟩ | ⟨⟨b, b1, b2⟩, b3⟩ | ⟨b1, b2, b3, b4⟩
      · rw [nums_any15 ⟨b, List.mem_cons_of_mem _ (List.mem_of_getElem? b1), b2⟩, if_pos (by decide), if_pos (by omega)]
      · rw [nums_any10 ⟨W, by simp, w1⟩ (fun w hw => by
          rcases List.mem_cons.1 hw with rfl | hw
          · rw [w1]; decide
          · rcases mem w hw with h | h
            · rw [a1] at h; cases h; rw [a2]; decide
            · rw [b1] at h; cases h; rw [b2]; decide), if_pos (by decide), if_neg (by omega), if_pos (by omega)]
      · rw [nums_any10 ⟨W, by simp, w1⟩ (fun w hw => by
          rcases List.mem_cons.1 hw with rfl | hw
          · rw [w1]; decide
          · rcases mem w hw with h | h
            · rw [a1] at h; cases h; rw [a2]; decide
            · rw [b1 w h]; decide), if_pos (by decide), if_neg (by omega), if_pos (by omega)]
    · rcases rat_cases T 1 with ⟨⟨b, b1, b2⟩, b3⟩ | ⟨⟨b, b1, b2⟩, b3⟩ | ⟨b1, b2, b3, b4⟩
      · rw [nums_any15 ⟨b, List.mem_cons_of_mem _ (List.mem_of_getElem? b1), b2⟩, if_pos (by decide), if_pos (by omega)]
      · rw [nums_any10 ⟨W, by simp, w1⟩ (fun w hw => by
          rcases List.mem_cons.1 hw with rfl | hw
          · rw [w1]; decide
          · rcases mem w hw with h | h
            · rw [a1 w h]; decide
            · rw [b1] at h; cases h; rw [b2]; decide), if_pos (by decide), if_neg (by omega), if_pos (by omega)]
      · rw [nums_any10 ⟨W, by simp, w1⟩ (fun w hw => by
          rcases List.mem_cons.1 hw with rfl | hw
          · rw [w1]; decide
          · rcases mem w hw with h | h
            · rw [a1 w h]; decide
            · rw [b1 w h]; decide), if_pos (by decide), if_neg (by omega), if_pos (by omega)]
  · rcases rat_cases T 0 with ⟨⟨a, a1, a2⟩, a3⟩ | ⟨⟨a, a1, a2⟩, a3⟩ | ⟨a1, a2, a3, a4⟩
    · rw [nums_any15 ⟨a, List.mem_cons_of_mem _ (List.mem_of_getElem? a1), a2⟩, if_pos (by decide), if_pos (by omega)]
    · rcases rat_cases T 1 with ⟨⟨b, b1, b2⟩, b3⟩ | ⟨⟨b, b1, b2⟩, b3⟩ | ⟨b1, b2, b3, b4⟩
      · rw [nums_any15 ⟨b, List.mem_cons_of_mem _ (List.mem_of_getElem? b1), b2⟩, if_pos (by decide), if_pos (by omega)]
      · rw [nums_any10 ⟨a, List.mem_cons_of_mem _ (List.mem_of_getElem? a1), a2⟩ (fun w hw => by
          rcases List.mem_cons.1 hw with rfl | hw
          · rw [w1]; decide
          · rcases mem w hw with h | h
            · rw [a1] at h; cases h; rw [a2]; decide
            · rw [b1] at h; cases h; rw [b2]; decide), if_pos (by decide), if_neg (by omega), if_pos (by omega)]
      · rw [nums_any10 ⟨a, List.mem_cons_of_mem _ (List.mem_of_getElem? a1), a2⟩ (fun w hw => by
          rcases List.mem_cons.1 hw with rfl | hw
          · rw [w1]; decide
          · rcases mem w hw with h | h
            · rw [a1] at h; cases h; rw [a2]; decide
            · rw [b1 w h]; decide), if_pos (by decide), if_neg (by omega), if_pos (by omega)]
    · rcases rat_cases T 1 with ⟨⟨b, b1, b2⟩, b3⟩ | ⟨⟨b, b1, b2⟩, b3⟩ | ⟨b1, b2, b3, b4⟩
      · rw [nums_any15 ⟨b, List.mem_cons_of_mem _ (List.mem_of_getElem? b1), b2⟩, if_pos (by decide), if_pos (by omega)]
      · rw [nums_any10 ⟨b, List.mem_cons_of_mem _ (List.mem_of_getElem? b1), b2⟩ (fun w hw => by
          rcases List.mem_cons.1 hw with rfl | hw
          · rw [w1]; decide
          · rcases mem w hw with h | h
            · rw [a1 w h]; decide
            · rw [b1] at h; cases h; rw [b2]; decide), if_pos (by decide), if_neg (by omega), if_pos (by omega)]
      · rw [nums_none (fun w hw => by
          rcases List.mem_cons.1 hw with rfl | hw
          · exact w1
          · rcases mem w hw with h | h
            · exact a1 w h
            · exact b1 w h), if_neg (by decide), if_neg (show ¬ (rAt T 0 < 0 ∨ rAt T 1 < 0 ∨ rnumE W < 0) by omega)]
        by_cases hz : (numE W).1 = 0
        · rw [if_pos hz, if_pos (by omega)]
        · rw [if_neg hz, if_neg (by omega), a2, b2, w2]; simp
theorem x_num {t : List UInt8} (h : t.head? = some 120) : rnumE t = -1 := by
  apply rnum_form
  apply num_form
  refine .inr (all_not (k := 0) (x := 120) (by rw [← List.head?_eq_getElem?]; exact h) (by decide))
theorem name_kind {w0 : List UInt8} {k : Nat} (hk : k < 4) : nameI (k : Int) = w0 ↔ kindE w0 = k := by
  rcases (by omega : k = 0 ∨ k = 1 ∨ k = 2 ∨ k = 3) with rfl | rfl | rfl | rfl
  all_goals
    constructor
    · intro h; subst h; rfl
    · intro h
      unfold kindE at h
      repeat' split at h
      all_goals first | omega | (rename_i h1; rw [h1]; rfl) | (rename_i h0 h1; rw [h1]; rfl) | (rename_i h00 h0 h1; rw [h1]; rfl) | (rename_i h000 h00 h0 h1; rw [h1]; rfl)
theorem many_nat {k : Nat} (hk : k < 4) : manyI (k : Int) = manyE k := by
  rcases (by omega : k = 0 ∨ k = 1 ∨ k = 2 ∨ k = 3) with rfl | rfl | rfl | rfl <;> rfl
theorem rat_x {f : List (List UInt8)} {i : Nat} {t : List UInt8} (h : f[i]? = some t) (hx : t.head? = some 120) : rAt f i = -1 := by
  unfold rAt; rw [h]; exact x_num hx
theorem last_at {f : List (List UInt8)} {t : List UInt8} {m : Nat} (h : f.getLast? = some t) (hm : f.length = m + 1) : f[m]? = some t := by
  rw [← h, List.getLast?_eq_getElem?, hm]; rfl
theorem one_num : rnumE [49] = 1 := by decide
theorem line_same {k : Nat} {f : List (List UInt8)} (hk : k < 4) (hl : f.length = manyE k) : lineT k (timesW f) (toldL f) = outR k (rAt f 0) (rAt f 1) 1 := by
  have hm2 : manyE k ≤ 2 := by unfold manyE; split; omega; split <;> omega
  by_cases h0 : f = []
  · subst h0
    rw [x_nil.1, x_nil.2, out_line hk hl, one_num]
  · obtain ⟨t, ht⟩ : ∃ t, f.getLast? = some t := ⟨_, List.getLast?_eq_some_getLast h0⟩
    have hlp := List.length_pos_iff.2 h0
    by_cases hx : t.head? = some 120
    · obtain ⟨q1, q2⟩ := x_yes ht hx
      have hat := last_at ht (m := f.length - 1) (by omega)
      have hr := rat_x hat hx
      rw [q1, q2]
      unfold lineT outR
      rw [if_pos (.inr (by rw [List.length_dropLast]; omega)), if_pos]
      rcases (by omega : f.length - 1 = 0 ∨ f.length - 1 = 1) with e | e
      · rw [e] at hr; omega
      · rw [e] at hr; omega
    · obtain ⟨q1, q2⟩ := x_no ht hx
      rw [q1, q2, out_line hk hl, one_num]
theorem line_x {k : Nat} {f : List (List UInt8)} {t : List UInt8} (hk : k < 4) (hl : f.length = manyE k + 1) (ht : f.getLast? = some t) (hx : t.head? = some 120) :
    lineT k (timesW f) (toldL f) = outR k (rAt f.dropLast 0) (rAt f.dropLast 1) (rnumE t.tail) := by
  obtain ⟨q1, q2⟩ := x_yes ht hx
  rw [q1, q2, out_line hk (by rw [List.length_dropLast]; omega)]
theorem line_nox {k : Nat} {f : List (List UInt8)} {t : List UInt8} (hl : f.length = manyE k + 1) (ht : f.getLast? = some t) (hx : t.head? ≠ some 120) : lineT k (timesW f) (toldL f) = (⟨0, 0, 0⟩, 0, 15) := by
  obtain ⟨q1, q2⟩ := x_no ht hx
  rw [q1, q2]
  unfold lineT
  rw [if_pos (.inr (by omega))]
theorem line_else {k : Nat} {f : List (List UInt8)} (hl : f.length ≠ manyE k) (hl2 : f.length ≠ manyE k + 1) : lineT k (timesW f) (toldL f) = (⟨0, 0, 0⟩, 0, 15) := by
  unfold lineT
  rw [if_pos]
  refine .inr ?_
  unfold toldL
  split
  · rw [List.length_dropLast]
    intro e
    by_cases h0 : f.length = 0
    · rw [h0] at e hl; exact hl e
    · omega
  · exact hl
def regs (T : List (List UInt8)) (j : Nat) (z : Int) : List Int := [if 0 < j then rAt T 0 else 0, if 1 < j then rAt T 1 else 0, z]
theorem regs_at (T : List (List UInt8)) (z : Int) {j : Nat} (h : j < 2) : (regs T j z)[j]? = some 0 := by
  rcases (by omega : j = 0 ∨ j = 1) with rfl | rfl <;> rfl
theorem regs_set (T : List (List UInt8)) (z : Int) {j : Nat} {x : List UInt8} (hx : T[j]? = some x) (h : j < 2) : (regs T j z).set j (rnumE x) = regs T (j + 1) z := by
  have e : rAt T j = rnumE x := by unfold rAt; rw [hx]
  rcases (by omega : j = 0 ∨ j = 1) with rfl | rfl
  · unfold regs; rw [← e]; rfl
  · unfold regs; rw [← e]; rfl
theorem regs_all (T : List (List UInt8)) (z : Int) (h : T.length ≤ 2) : regs T T.length z = [rAt T 0, rAt T 1, z] := by
  have out : ∀ i, ¬ i < T.length → rAt T i = 0 := fun i hi => by unfold rAt; rw [List.getElem?_eq_none (by omega)]
  unfold regs
  by_cases h0 : 0 < T.length
  · rw [if_pos h0]
    by_cases h1 : 1 < T.length
    · rw [if_pos h1]
    · rw [if_neg h1, out 1 h1]
  · rw [if_neg h0, if_neg (by omega), out 0 h0, out 1 (by omega)]
def RRel (T : List (List UInt8)) (z : Int) (tn : Nat) (w : World) (i : Value) (v : Value) (bI : Nat) (A : Asn) (wr : World) : Prop :=
  ∃ j : Nat, j ≤ tn ∧ i = .int .i64 j ∧ St (fun _ => False) w wr [Sl true strcell 1 v T, Own 3 icell 1 (.slice (some ⟨bI, 0, none⟩) 3 3) (regs T j z), A]
def RwRel (w0 : List UInt8) (w : World) (what i : Value) (L : List Asn) (wr : World) : Prop :=
  ∃ (k : Nat) (q : Int), k ≤ 4 ∧ i = .int .i64 k ∧ what = .int .i64 q ∧ Hid (q = if kindE w0 < k then (kindE w0 : Int) else -1) ∧ St (fun _ => False) w wr L
set_option maxRecDepth 100000 in
set_option maxHeartbeats 16000000 in
theorem rline_calls (l : List UInt8) (w : World) (hn : l.length ≤ 65536) :
    Calls Tryd.prog 16 #[strV l] w fun e w' => e = .returned (.tuple #[.agg #[.int .i64 (lineE (wordsOf l)).1.what, .int .i64 (lineE (wordsOf l)).1.a, .int .i64 (lineE (wordsOf l)).1.b], .int .i64 (lineE (wordsOf l)).2.1, .int .i64 (lineE (wordsOf l)).2.2]) ∧ Below w.heap.size w w' := by
  have S : St (fun _ => False) w w [] := St.init _ w
  have hh : ((splitGo 35 [] l).headD []).length ≤ l.length := by
    obtain ⟨x, r, e⟩ := split_cons 35 l []
    rw [e]
    have := split_size 35 l [] x (by rw [e]; exact List.mem_cons_self)
    simpa using this
  have HW : Hid (wordsOf l = wordsGo [] ((splitGo 35 [] l).headD [])) := Lib.hid rfl
  have HWS : Hid (∀ x ∈ wordsOf l, x.length ≤ 65536) := Lib.hid fun x hx => by have h9 := words_size _ [] x hx; simp only [List.length_nil] at h9; omega
  have HWN : Hid (∀ x ∈ wordsOf l, x ≠ []) := Lib.hid fun x hx => words_ne _ _ x hx
  have HWL : Hid ((wordsOf l).length ≤ 65537) := Lib.hid (by have := words_len ((splitGo 35 [] l).headD []) []; rw [HW.out]; omega)
  have HC := Lib.hid (fun w => rsplit_calls l 35 w (by omega))
  obtain ⟨l1, r1, hsp⟩ := split_cons 35 l []
  rw [hsp] at HC HW hh
  rw [List.headD_cons] at HW hh
  have HF := Lib.hid (fun w => rfields_calls l1 w (by omega))
  rw [← HW.out] at HF
  generalize wordsOf l = ws at *
  have H00 : Hid ((l1 :: r1)[0]? = some l1) := Lib.hid rfl
  generalize hsq : l1 :: r1 = sq at *
  have hsl : 0 < sq.length := by rw [← hsq]; simp
  clear HW hh hsp hsq
  go_enter Tryd.func16, Tryd.ntmps16
  go_upto_region 1 with first | ((with_reducible apply wps_alloca (E := 39) S); (case hz => exact Tryd.zeroValue39); clear S; intro bz wz S)
  go_upto_region 2 with first | (go_at_call 15; refine Calls.mono (HC.out _) ?_; rintro e wz ⟨aw, cw, rfl, T⟩; replace S := S.join T rfl; clear T; obtain ⟨Rs, cs, eqs⟩ := sown_hd 0 S rfl hsl; simp only [Value.slice.injEq] at eqs; obtain ⟨rfl, _, rfl⟩ := eqs; simp only [List.cons_append, List.nil_append] at S) | ((with_reducible apply wps_load_own strcells S 0 (hj := H00.out) (q := 0) (u := strV l1)); (case hx | hi => rfl); (case hn => omega); (case hu => rfl); (case hT => decide +kernel)) | (go_at_call 33; refine Calls.mono (HF.out _) ?_; rintro e wz ⟨aw, cw, rfl, T⟩; replace S := S.join T rfl; clear T; simp only [List.cons_append, List.nil_append] at S)
  replace S := (S.freeze true 0 strcells rfl).pick [0, 2] rfl
  simp only [List.set_cons_zero, pick, nth] at S
  cases ws with
  | nil =>
    as_aux_lemma =>
      go_wp2_with first | ((with_reducible apply wps_storea (T := 39) S 1 (vs := [.int .i64 0, .int .i64 0, .int .i64 0]) (m := 3)); (case hx | hy | hi | hm | h1 => rfl); (case hn => exact Nat.le_of_ble_eq_true rfl); (case hT => decide +kernel); clear S; intro wz S; simp only [List.set_cons_zero, List.set_cons_succ, setAll, List.setIfInBounds_toArray] at S)
      (try simp only [Exit.inBlock, Exit.then]); refine bodyPost_ret (results3 rfl (S.resA 1 rfl rfl (by kernel_rfl)) (res_tmp rfl) (res_tmp rfl)) rfl ?_
      exact ⟨rfl, S.below⟩
  | cons w0 f =>
    obtain ⟨Rw, ow, rfl⟩ : ∃ R o, aw = some ⟨R, o, none⟩ := (S.sl 0 rfl).elim fun F h => h.head (by simp)
    have hfl : f.length ≤ 65536 := by have := HWL.out; simp at this; omega
    have hne : (((w0 :: f).length : Int) == 0) = false := by rw [beq_eq_false_iff_ne]; simp; omega
    have H0 : Hid ((w0 :: f)[0]? = some w0) := Lib.hid rfl
    have HL : Hid ((w0 :: f).length = f.length + 1) := Lib.hid (by simp)
    have HTK : Hid (((w0 :: f).take (f.length + 1)).drop 1 = f) := Lib.hid (by rw [List.take_of_length_le (by simp)]; rfl)
    rw [HL.out] at hne S ⊢
    obtain ⟨wn, HWN1⟩ : ∃ n, Hid (f.length + 1 = n) := ⟨_, Lib.hid rfl⟩
    rw [HWN1.out] at hne S HTK ⊢
    have hwn1 : wn ≤ f.length + 1 := by have := HWN1.out; omega
    have hwn2 : f.length + 1 ≤ wn := by have := HWN1.out; omega
    clear HL
    go_upto_region 6 with first | ((with_reducible apply wps_load S 1); (case hx | hi | hu => rfl); (case hT => decide +kernel))
    go_loopw [6, 7] (fun what i wr => RwRel w0 w what i _ wr) (fun _ i _ => 4 - (intOf i).toNat)
    case atStart => exact ⟨0, -1, by omega, rfl, rfl, Lib.hid (by rw [if_neg (by omega)]), S⟩
    case round =>
      clear S
      obtain ⟨k, q, hk, rfl, rfl, HQ, S⟩ := hrel
      by_cases hk4 : k < 4
      · have hk5 : (k : Int) < 4 := by omega
        have HNM := Lib.hid (fun w => rname_calls (k : Int) w)
        by_cases hq : nameI (k : Int) = w0
        · have HQ2 : Hid ((k : Int) = if kindE w0 < k + 1 then (kindE w0 : Int) else -1) := Lib.hid (by rw [(name_kind hk4).1 hq, if_pos (by omega)])
          have HN0 := Lib.hid hq
          clear hq
          generalize nameI (k : Int) = nm at *
          go_upto_region 8 with first | ((with_reducible apply wps_load S 0); (case hx | hi | hu => rfl); (case hT => decide +kernel))
          (refine wp_region_w (soft := [0, 1, 2, 3, 4, 5]) S ?hm ?hB ?_); (case hm => kernel_rfl); (case hB => decide +kernel); clear S
          iterate 6
            (with_reducible apply softs_cons)
            (case hw =>
              (with_reducible apply soft_of); (case hi => rfl)
              intro T wz S
              simp only [List.cons_append, List.nil_append] at S
              go_wp2_with first | (go_at_call 24; refine Calls.mono (HNM.out _) ?_; rintro e wz ⟨rfl, hE⟩; replace S := S.ext (Keep.of_below hE); clear hE) | ((with_reducible apply wps_load_el S 0 (hj := H0.out) (q := 0) (u := strV w0)); (case hx | hi => rfl); (case hn => omega); (case hu => rfl); (case hT => decide +kernel)) | ((with_reducible apply wps_seql (T := 9)); (case hx | hy => rfl); (case hb => exact decide_eq_true HN0.out)) | ((with_reducible refine tot_done ?ht ?_); (case ht => kernel_rfl))
              exact ⟨rfl, S⟩)
            (case hs => exact ⟨_, rfl, by kernel_rfl⟩)
          refine softs_nil ?_
          (with_reducible apply W_done); (case hn => rfl); (case hr => decide +kernel)
          intro wz S
          simp only [List.append_nil] at S
          go_wp2_with first | ((with_reducible apply wps_load S 0); (case hx | hi | hu => rfl); (case hT => decide +kernel))
          go_roundw
          case rel => exact ⟨k + 1, k, by omega, by go_num, rfl, HQ2, S⟩
          case measure => first | (simp [intOf]; done) | (simp [intOf]; omega)
        · have HQ2 : Hid (q = if kindE w0 < k + 1 then (kindE w0 : Int) else -1) := Lib.hid (by
            rw [HQ.out]
            have h1 : ¬ kindE w0 = k := fun e => hq ((name_kind hk4).2 e)
            by_cases h2 : kindE w0 < k
            · rw [if_pos h2, if_pos (by omega)]
            · rw [if_neg h2, if_neg (by omega)])
          have HN0 := Lib.hid hq
          clear hq
          generalize nameI (k : Int) = nm at *
          go_upto_region 8 with first | ((with_reducible apply wps_load S 0); (case hx | hi | hu => rfl); (case hT => decide +kernel))
          (refine wp_region_w (soft := [0, 1, 2, 3, 4, 5]) S ?hm ?hB ?_); (case hm => kernel_rfl); (case hB => decide +kernel); clear S
          iterate 6
            (with_reducible apply softs_cons)
            (case hw =>
              (with_reducible apply soft_of); (case hi => rfl)
              intro T wz S
              simp only [List.cons_append, List.nil_append] at S
              go_wp2_with first | (go_at_call 24; refine Calls.mono (HNM.out _) ?_; rintro e wz ⟨rfl, hE⟩; replace S := S.ext (Keep.of_below hE); clear hE) | ((with_reducible apply wps_load_el S 0 (hj := H0.out) (q := 0) (u := strV w0)); (case hx | hi => rfl); (case hn => omega); (case hu => rfl); (case hT => decide +kernel)) | ((with_reducible apply wps_seql (T := 9)); (case hx | hy => rfl); (case hb => exact decide_eq_false HN0.out)) | ((with_reducible refine tot_done ?ht ?_); (case ht => kernel_rfl))
              exact ⟨rfl, S⟩)
            (case hs => exact ⟨_, rfl, by kernel_rfl⟩)
          refine softs_nil ?_
          (with_reducible apply W_done); (case hn => rfl); (case hr => decide +kernel)
          intro wz S
          simp only [List.append_nil] at S
          go_wp2_with first | ((with_reducible apply wps_load S 0); (case hx | hi | hu => rfl); (case hT => decide +kernel))
          go_roundw
          case rel => exact ⟨k + 1, q, by omega, by go_num, rfl, HQ2, S⟩
          case measure => first | (simp [intOf]; done) | (simp [intOf]; omega)
      · have hk6 : ¬ ((k : Int) < 4) := by omega
        have hkq := HQ.out
        clear HQ
        by_cases h4 : kindE w0 = 4
        · have HR : Hid (lineE (w0 :: f) = (⟨0, 0, 0⟩, 0, 15)) := Lib.hid (by rw [line_cons, h4]; rfl)
          have hq : q = -1 := by rw [hkq, if_neg (by omega)]
          subst hq
          clear hkq h4
          as_aux_lemma =>
            go_wp2_with first | ((with_reducible apply wps_storea (T := 39) S 1 (vs := [.int .i64 0, .int .i64 0, .int .i64 0]) (m := 3)); (case hx | hy | hi | hm | h1 => rfl); (case hn => exact Nat.le_of_ble_eq_true rfl); (case hT => decide +kernel); clear S; intro wz S; simp only [List.set_cons_zero, List.set_cons_succ, setAll, List.setIfInBounds_toArray] at S)
            (try simp only [Exit.inBlock, Exit.then]); refine bodyPost_ret (results3 rfl (S.resA 1 rfl rfl (by kernel_rfl)) (res_tmp rfl) (res_tmp rfl)) rfl ?_
            rw [HR.out]
            exact ⟨rfl, S.below⟩
        · obtain ⟨kd, hkd⟩ : ∃ n, kindE w0 = n := ⟨_, rfl⟩
          have hle := kind_le w0
          have hkd4 : kd < 4 := by omega
          have hq : q = (kd : Int) := by rw [hkq, if_pos (by omega), hkd]
          subst hq
          have HQ0 : Hid (lineE (w0 :: f) = lineT kd (timesW f) (toldL f)) := Lib.hid (by rw [line_cons, hkd])
          have HMC := Lib.hid (fun w => rmany_calls (kd : Int) w)
          rw [many_nat hkd4] at HMC
          have hm2 : manyE kd ≤ 2 := by unfold manyE; split; omega; split <;> omega
          have HME : Hid (manyE kd = manyE kd) := Lib.hid rfl
          have hk0 : ¬ ((kd : Int) < 0) := by omega
          have HK4 := Lib.hid hkd4
          clear hkq h4 hkd hle
          have H2Z : Hid (([0, 0, 0] : List Int)[2]? = some 0) := Lib.hid rfl
          go_upto_region 15 with first | ((with_reducible apply wps_slice (E := 9) S 0 (l := 1) (u := wn)); (case hx | hi => rfl); (case hT => exact Tryd.underlying40); (case hE => intro w; kernel_rfl); (case hlo | hhi => first | exact .inr rfl | exact .inl ⟨rfl, rfl⟩); (case h1 | h2 => first | omega | (simp; omega)); clear S; intro az nz cz hnz S) | ((with_reducible apply wps_make icells Tryd.underlying71 _ zero_Int S (n := 3)); (case hx | hy => rfl); (case hn => omega); clear S; intro bz wz S) | ((with_reducible apply wps_store_own icells S 0 (hj := H2Z.out) (e' := (1 : Int)) (q := 0)); (case hx => rfl); (case hn => omega); (case hi | hy | h1 | he => rfl); (case hq => decide); (case hT => decide +kernel); clear S; intro wz S; simp only [List.set_cons_zero] at S)
          obtain rfl : nz = f.length := by rw [hnz.out]; omega
          rw [HTK.out, show ([0, 0, 0] : List Int).set 2 1 = [0, 0, 1] from rfl] at S
          replace S := S.pick [1, 0, 3] rfl
          simp only [pick, nth] at S
          obtain ⟨mn, hmn⟩ : ∃ n, manyE kd = n := ⟨_, rfl⟩
          have HMN := Lib.hid hmn
          rw [hmn] at HMC hm2
          clear hmn HME
          by_cases hl1 : f.length = mn + 1
          · obtain ⟨t, ht⟩ : ∃ t, f.getLast? = some t := ⟨_, List.getLast?_eq_some_getLast (by intro e; rw [e] at hl1; simp at hl1)⟩
            have hat := last_at ht hl1
            have HAT := Lib.hid hat
            have hmem : t ∈ w0 :: f := List.mem_cons_of_mem _ (List.mem_of_getElem? hat)
            have htl : 1 ≤ t.length := List.length_pos_iff.2 (HWN.out t hmem)
            have hfm : f.length = manyE kd + 1 := by rw [HMN.out]; exact hl1
            have hts := HWS.out t hmem
            obtain ⟨Rf, of_, rfl⟩ : ∃ R o, az = some ⟨R, o, none⟩ := (S.sl 0 rfl).elim fun F h => h.head (by omega)
            have hmm : mn ≤ f.length := by omega
            by_cases hx : t.head? = some 120
            · have HLX := Lib.hid (HQ0.out.trans (line_x hkd4 hfm ht hx))
              have HDL : Hid ((f.take mn).drop 0 = f.dropLast) := Lib.hid (by rw [List.drop_zero, List.dropLast_eq_take, hl1]; rfl)
              have HX0 : Hid (t[0]? = some 120) := Lib.hid (by rw [← List.head?_eq_getElem?]; exact hx)
              have HTW : Hid (t.drop 1 = t.tail) := Lib.hid List.drop_one
              have htt : t.tail.length ≤ 4294967295 := by rw [List.length_tail]; omega
              have HRN := Lib.hid (fun w => rnum_calls t.tail w htt)
              have HDN : Hid (f.dropLast.length = mn) := Lib.hid (by rw [List.length_dropLast, hl1]; rfl)
              have HSD : Hid (∀ x ∈ f.dropLast, x.length ≤ 4294967295) := Lib.hid (fun x hx => by have := HWS.out x (List.mem_cons_of_mem _ (List.dropLast_subset _ hx)); omega)
              rw [hl1] at S ⊢
              clear hl1 ht hat hmem hfm hx HQ0 htt
              generalize t.tail = W at *
              generalize rnumE W = z at *
              have H2O : Hid (([0, 0, 1] : List Int)[2]? = some 1) := Lib.hid rfl
              go_upto_region 18 with first | (go_at_call 25; refine Calls.mono (HMC.out _) ?_; rintro e wz ⟨rfl, hE⟩; replace S := S.ext (Keep.of_below hE); clear hE) | ((with_reducible apply wps_load_el S 0 (hj := HAT.out) (q := 0) (u := strV t)); (case hx | hi => rfl); (case hn => omega); (case hu => rfl); (case hT => decide +kernel)) | ((with_reducible apply wps_sidx (T := 9)); (case hx | hy => rfl); (case hb => exact HX0.out); (case h0 => omega); (case hT => exact Tryd.underlying9); (case hz => rfl)) | ((with_reducible apply wps_sfrom (i := 1)); (case hx | hlo => rfl); (case hT => exact Tryd.underlying9); (case h1 => omega); (case hm => exact HTW.out)) | (go_at_call 34; refine Calls.mono (HRN.out _) ?_; rintro e wz ⟨rfl, hE⟩; replace S := S.ext (Keep.of_below hE); clear hE) | ((with_reducible apply wps_store_own icells S 1 (hj := H2O.out) (e' := z) (q := 0)); (case hx => rfl); (case hn => omega); (case hi | hy | h1 | he => rfl); (case hq => decide); (case hT => decide +kernel); clear S; intro wz S; simp only [List.set_cons_succ, List.set_cons_zero] at S) | ((with_reducible apply wps_slice (E := 9) S 0 (l := 0) (u := mn)); (case hx | hi => rfl); (case hT => exact Tryd.underlying40); (case hE => intro w; kernel_rfl); (case hlo | hhi => first | exact .inr rfl | exact .inl ⟨rfl, rfl⟩); (case h1 | h2 => first | omega | (simp; omega)); clear S; intro az nz cz hnz S)
              obtain rfl : nz = mn := by rw [hnz.out]; omega
              generalize nz = tn at *
              rw [HDL.out] at S
              replace S := S.pick [0, 2, 3] rfl
              simp only [pick, nth] at S
              obtain ⟨T, hT⟩ : ∃ T : List (List UInt8), T = f.dropLast := ⟨_, rfl⟩
              rw [← hT] at HLX S
              have HQ := HLX
              have HT : Hid (T.length = tn) := Lib.hid (by rw [hT]; exact HDN.out)
              have HSZ2 : Hid (∀ x ∈ T, x.length ≤ 4294967295) := Lib.hid (by rw [hT]; exact HSD.out)
              clear hT HDN HSD HLX HDL
              go_wp2_with first | (go_at_call 25; refine Calls.mono (HMC.out _) ?_; rintro e wz ⟨rfl, hE⟩; replace S := S.ext (Keep.of_below hE); clear hE)
              -- T: thing 0 (.slice az tn cz); the ints: thing 1 ([0, 0, z]); the result: thing 2
              obtain ⟨HTl, htn2⟩ : Hid (T.length = tn) ∧ tn ≤ 2 := ⟨HT, by omega⟩
              go_loopw [9] (fun i wr => RRel T z tn w i _ bz _ wr) (fun i _ => tn - (intOf i).toNat)
              case atStart => exact ⟨0, by omega, rfl, S⟩
              case round =>
                clear S
                obtain ⟨j, hj, rfl, S⟩ := hrel
                by_cases hlt : j < tn
                · have hlt2 : (j : Int) < (tn : Nat) := by omega
                  obtain ⟨x, hx⟩ : ∃ x, T[j]? = some x := ⟨_, List.getElem?_eq_getElem (by rw [HTl.out]; exact hlt)⟩
                  have HX := Lib.hid hx
                  have HN := Lib.hid (fun w => rnum_calls x w (HSZ2.out x (List.mem_of_getElem? hx)))
                  have hj2 : j < 2 := by omega
                  have HG : Hid ((regs T j z)[j]? = some 0) := Lib.hid (regs_at T z hj2)
                  have HS := Lib.hid (regs_set T z hx hj2)
                  obtain ⟨Rt, ot, rfl⟩ : ∃ R o, az = some ⟨R, o, none⟩ := (S.sl 0 rfl).elim fun F h => h.head (by rw [HTl.out]; omega)
                  clear hx
                  generalize rnumE x = rx at *
                  generalize regs T j z = xs at *
                  go_wp2_with first | ((with_reducible apply wps_load_el S 0 (hj := HX.out) (q := 0) (u := strV x)); (case hx | hi => rfl); (case hn => omega); (case hu => rfl); (case hT => decide +kernel)) | (go_at_call 34; refine Calls.mono (HN.out _) ?_; rintro e wz ⟨rfl, hE⟩; replace S := S.ext (Keep.of_below hE); clear hE) | ((with_reducible apply wps_store_own icells S 1 (hj := HG.out) (e' := rx) (q := 0)); (case hx => rfl); (case hn => omega); (case hi | hy | h1 | he => rfl); (case hq => decide); (case hT => decide +kernel); clear S; intro wz S; simp only [List.set_cons_succ, List.set_cons_zero] at S)
                  go_roundw
                  case rel => exact ⟨j + 1, by omega, by go_num, by rw [← HS.out]; exact S⟩
                  case measure => first | (simp [intOf]; done) | (simp [intOf]; omega)
                · obtain rfl : j = tn := by omega
                  rw [show regs T j z = [rAt T 0, rAt T 1, z] from (by rw [← HTl.out]; exact regs_all T z (by rw [HTl.out]; omega))] at S
                  have HQ2 := HQ.out
                  generalize rAt T 0 = ra at *
                  generalize rAt T 1 = rb at *
                  have HA : Hid ([ra, rb, z][0]? = some ra) := Lib.hid rfl
                  have HB : Hid ([ra, rb, z][1]? = some rb) := Lib.hid rfl
                  have HZ : Hid ([ra, rb, z][2]? = some z) := Lib.hid rfl
                  by_cases hneg : ra < 0 ∨ rb < 0 ∨ z < 0
                  · have HR : Hid (lineE (w0 :: f) = (⟨0, 0, 0⟩, 0, 15)) := Lib.hid (by rw [HQ2]; unfold outR; rw [if_pos hneg])
                    clear HQ2
                    have hng : ra < 0 ∨ (¬ ra < 0 ∧ rb < 0) ∨ (¬ ra < 0 ∧ ¬ rb < 0 ∧ z < 0) := by omega
                    clear hneg
                    rcases hng with c1 | ⟨c1, c2⟩ | ⟨c1, c2, c3⟩
                    all_goals
                      go_wp2_with first | ((with_reducible apply wps_load_own icells S 1 (hj := HA.out) (q := 0) (u := .int .i64 ra)); (case hx | hi => rfl); (case hn => omega); (case hu => rfl); (case hT => decide +kernel)) | ((with_reducible apply wps_load_own icells S 1 (hj := HB.out) (q := 0) (u := .int .i64 rb)); (case hx | hi => rfl); (case hn => omega); (case hu => rfl); (case hT => decide +kernel)) | ((with_reducible apply wps_load_own icells S 1 (hj := HZ.out) (q := 0) (u := .int .i64 _)); (case hx | hi => rfl); (case hn => omega); (case hu => rfl); (case hT => decide +kernel)) | ((with_reducible apply wps_storea (T := 39) S 2 (vs := [.int .i64 0, .int .i64 0, .int .i64 0]) (m := 3)); (case hx | hy | hi | hm | h1 => rfl); (case hn => exact Nat.le_of_ble_eq_true rfl); (case hT => decide +kernel); clear S; intro wz S; simp only [List.set_cons_zero, List.set_cons_succ, setAll, List.setIfInBounds_toArray] at S)
                      (try simp only [Exit.inBlock, Exit.then]); refine bodyPost_ret (results3 rfl (S.resA 2 rfl rfl (by kernel_rfl)) (res_tmp rfl) (res_tmp rfl)) rfl ?_
                      rw [HR.out]
                      exact ⟨rfl, S.below⟩
                  · by_cases hbig : 4095 < ra ∨ 4095 < rb ∨ 4095 < z ∨ z = 0
                    · have HR : Hid (lineE (w0 :: f) = (⟨0, 0, 0⟩, 0, 10)) := Lib.hid (by rw [HQ2]; unfold outR; rw [if_neg hneg, if_pos hbig])
                      clear HQ2
                      have d1 : ¬ ra < 0 := by omega
                      have d2 : ¬ rb < 0 := by omega
                      have d3 : ¬ z < 0 := by omega
                      have hng : 4095 < ra ∨ (¬ 4095 < ra ∧ 4095 < rb) ∨ (¬ 4095 < ra ∧ ¬ 4095 < rb ∧ 4095 < z) ∨ (¬ 4095 < ra ∧ ¬ 4095 < rb ∧ ¬ 4095 < z ∧ (z == 0) = true) := by
                        simp only [beq_iff_eq]; omega
                      clear hneg hbig
                      rcases hng with c1 | ⟨c1, c2⟩ | ⟨c1, c2, c3⟩ | ⟨c1, c2, c3, c4⟩
                      all_goals
                        go_wp2_with first | ((with_reducible apply wps_load_own icells S 1 (hj := HA.out) (q := 0) (u := .int .i64 ra)); (case hx | hi => rfl); (case hn => omega); (case hu => rfl); (case hT => decide +kernel)) | ((with_reducible apply wps_load_own icells S 1 (hj := HB.out) (q := 0) (u := .int .i64 rb)); (case hx | hi => rfl); (case hn => omega); (case hu => rfl); (case hT => decide +kernel)) | ((with_reducible apply wps_load_own icells S 1 (hj := HZ.out) (q := 0) (u := .int .i64 _)); (case hx | hi => rfl); (case hn => omega); (case hu => rfl); (case hT => decide +kernel)) | ((with_reducible apply wps_storea (T := 39) S 2 (vs := [.int .i64 0, .int .i64 0, .int .i64 0]) (m := 3)); (case hx | hy | hi | hm | h1 => rfl); (case hn => exact Nat.le_of_ble_eq_true rfl); (case hT => decide +kernel); clear S; intro wz S; simp only [List.set_cons_zero, List.set_cons_succ, setAll, List.setIfInBounds_toArray] at S)
                        (try simp only [Exit.inBlock, Exit.then]); refine bodyPost_ret (results3 rfl (S.resA 2 rfl rfl (by kernel_rfl)) (res_tmp rfl) (res_tmp rfl)) rfl ?_
                        rw [HR.out]
                        exact ⟨rfl, S.below⟩
                    · have HR : Hid (lineE (w0 :: f) = (⟨kd, ra, rb⟩, (z).toNat, 0)) := Lib.hid (by rw [HQ2]; unfold outR; rw [if_neg hneg, if_neg hbig])
                      clear HQ2
                      have HZN : Hid (((z).toNat : Int) = z) := Lib.hid (by omega)
                      have d1 : ¬ ra < 0 := by omega
                      have d2 : ¬ rb < 0 := by omega
                      have d3 : ¬ z < 0 := by omega
                      have c1 : ¬ 4095 < ra := by omega
                      have c2 : ¬ 4095 < rb := by omega
                      have c3 : ¬ 4095 < z := by omega
                      have c4 : (z == 0) = false := by rw [beq_eq_false_iff_ne]; omega
                      clear hneg hbig
                      go_upto_region 28 with first | ((with_reducible apply wps_load_own icells S 1 (hj := HA.out) (q := 0) (u := .int .i64 ra)); (case hx | hi => rfl); (case hn => omega); (case hu => rfl); (case hT => decide +kernel)) | ((with_reducible apply wps_load_own icells S 1 (hj := HB.out) (q := 0) (u := .int .i64 rb)); (case hx | hi => rfl); (case hn => omega); (case hu => rfl); (case hT => decide +kernel)) | ((with_reducible apply wps_load_own icells S 1 (hj := HZ.out) (q := 0) (u := .int .i64 z)); (case hx | hi => rfl); (case hn => omega); (case hu => rfl); (case hT => decide +kernel))
                      replace S := S.pick [1, 2] rfl
                      simp only [pick, nth] at S
                      clear d1 d2 d3 c1 c2 c3 c4 hlt hj
                      (refine wp_region_wt (soft := [0, 1, 2, 3, 4, 5, 6, 7, 8, 9, 10]) (L := [_]) (T := [_]) S ?hm ?hB ?_); (case hm => kernel_rfl); (case hB => decide +kernel); clear S
                      iterate 11
                        (with_reducible apply softs_cons)
                        (case hw =>
                          (with_reducible apply soft_of); (case hi => rfl)
                          intro T wz S
                          simp only [List.cons_append, List.nil_append] at S
                          go_wp2_with first | ((with_reducible apply wps_load_own icells S 0 (hj := HA.out) (q := 0) (u := .int .i64 ra)); (case hx | hi => rfl); (case hn => omega); (case hu => rfl); (case hT => decide +kernel)) | ((with_reducible apply wps_load_own icells S 0 (hj := HB.out) (q := 0) (u := .int .i64 rb)); (case hx | hi => rfl); (case hn => omega); (case hu => rfl); (case hT => decide +kernel)) | ((with_reducible apply wps_load_own icells S 0 (hj := HZ.out) (q := 0) (u := .int .i64 z)); (case hx | hi => rfl); (case hn => omega); (case hu => rfl); (case hT => decide +kernel)) | ((with_reducible refine tot_done ?ht ?_); (case ht => kernel_rfl))
                          exact ⟨rfl, S⟩)
                        (case hs => exact ⟨_, rfl, by kernel_rfl⟩)
                      refine softs_nil ?_
                      (with_reducible apply W_hard1 (i := 11)); (case hn => rfl); (case hr => decide +kernel)
                      intro wz S
                      (with_reducible apply hard_of); (case hi => rfl)
                      simp only [List.cons_append, List.nil_append] at S
                      go_wp2_with first | ((with_reducible apply wps_storea (T := 39) S 1 (vs := [.int .i64 kd, .int .i64 ra, .int .i64 rb]) (m := 3)); (case hx | hy | hi | hm | h1 => rfl); (case hn => exact Nat.le_of_ble_eq_true rfl); (case hT => decide +kernel); clear S; intro wz S; simp only [List.set_cons_zero, List.set_cons_succ, setAll, List.setIfInBounds_toArray] at S) | ((with_reducible refine tot_done ?ht ?_); (case ht => kernel_rfl))
                      refine ⟨_, S, ?_⟩
                      clear S
                      (refine W_mid (f := 0) (soft := [12, 13]) rfl ?hB ?_); (case hB => decide +kernel)
                      iterate 2
                        (with_reducible apply softs_cons)
                        (case hw =>
                          (with_reducible apply soft_of); (case hi => rfl)
                          intro T wz S
                          simp only [List.cons_append, List.nil_append] at S
                          go_wp2_with first | ((with_reducible refine tot_done ?ht ?_); (case ht => kernel_rfl))
                          exact ⟨rfl, S⟩)
                        (case hs => exact ⟨_, rfl, by kernel_rfl⟩)
                      refine softs_nil ?_
                      (with_reducible apply W_done); (case hn => rfl); (case hr => decide +kernel)
                      intro wz S
                      repeat (first | simp only at S | simp only [pick] at S | simp only [nth] at S | simp only [List.set_cons_succ] at S | simp only [List.set_cons_zero] at S | simp only [List.setIfInBounds_toArray] at S | simp only [setAll] at S | simp only [List.cons_append] at S | simp only [List.nil_append] at S | simp only [List.append_nil] at S)
                      go_wp2_with first | ((with_reducible apply wps_load S 0); (case hx | hi | hu => rfl); (case hT => decide +kernel))
                      (try simp only [Exit.inBlock, Exit.then]); refine bodyPost_ret (results3 rfl (S.resA 1 rfl rfl (by kernel_rfl)) (res_tmp rfl) (res_tmp rfl)) rfl ?_
                      rw [HR.out]
                      refine ⟨?_, S.below⟩
                      show Ending.returned _ = _
                      simp only
                      rw [HZN.out]
                      rfl
            · have HR : Hid (lineE (w0 :: f) = (⟨0, 0, 0⟩, 0, 15)) := Lib.hid (HQ0.out.trans (line_nox hfm ht hx))
              obtain ⟨x0, hx0⟩ : ∃ x, t[0]? = some x := ⟨_, List.getElem?_eq_getElem (by omega)⟩
              have hx0n : ((x0.toNat : Int) == 120) = false := by
                have e := u8_is x0 120 (by omega)
                rw [show ((120 : Int)) = ((120 : Nat) : Int) from rfl, e, beq_eq_false_iff_ne]
                intro e2; apply hx; rw [List.head?_eq_getElem?, hx0, e2]; rfl
              have HX0 := Lib.hid hx0
              have hne2 : (((mn : Int) + 1) != (mn : Int)) = true := by rw [bne_iff_ne]; omega
              rw [hl1] at S ⊢
              clear hl1 ht hat hmem hfm hx HQ0 hx0
              go_wp2_with first | ((with_reducible apply wps_load_el S 0 (hj := HAT.out) (q := 0) (u := strV t)); (case hx | hi => rfl); (case hn => omega); (case hu => rfl); (case hT => decide +kernel)) | ((with_reducible apply wps_sidx (T := 9)); (case hx | hy => rfl); (case hb => exact HX0.out); (case h0 => omega); (case hT => exact Tryd.underlying9); (case hz => rfl)) | (go_at_call 25; refine Calls.mono (HMC.out _) ?_; rintro e wz ⟨rfl, hE⟩; replace S := S.ext (Keep.of_below hE); clear hE) | ((with_reducible apply wps_storea (T := 39) S 2 (vs := [.int .i64 0, .int .i64 0, .int .i64 0]) (m := 3)); (case hx | hy | hi | hm | h1 => rfl); (case hn => exact Nat.le_of_ble_eq_true rfl); (case hT => decide +kernel); clear S; intro wz S; simp only [List.set_cons_zero, List.set_cons_succ, setAll, List.setIfInBounds_toArray] at S)
              (try simp only [Exit.inBlock, Exit.then]); refine bodyPost_ret (results3 rfl (S.resA 2 rfl rfl (by kernel_rfl)) (res_tmp rfl) (res_tmp rfl)) rfl ?_
              rw [HR.out]
              exact ⟨rfl, S.below⟩
          · have hnl : ((f.length : Int) == (mn : Int) + 1) = false := by rw [beq_eq_false_iff_ne]; omega
            by_cases hl2 : f.length = mn
            · have HQ : Hid (lineE (w0 :: f) = outR kd (rAt f 0) (rAt f 1) 1) := Lib.hid (HQ0.out.trans (line_same hkd4 (by rw [HMN.out]; exact hl2)))
              have HT : Hid (f.length = mn) := Lib.hid hl2
              have HSZ0 : Hid (∀ x ∈ f, x.length ≤ 4294967295) := Lib.hid (fun x hx => by have := HWS.out x (List.mem_cons_of_mem _ hx); omega)
              have hnl2 : ((mn : Int) == (mn : Int) + 1) = false := by rw [beq_eq_false_iff_ne]; omega
              rw [hl2] at S ⊢
              clear hnl hl1 hl2 HQ0
              go_upto_region 18 with first | go_skip | (go_at_call 25; refine Calls.mono (HMC.out _) ?_; rintro e wz ⟨rfl, hE⟩; replace S := S.ext (Keep.of_below hE); clear hE)
              obtain ⟨T, hT⟩ : ∃ T : List (List UInt8), T = f := ⟨_, rfl⟩
              rw [← hT] at S
              replace HQ : Hid (lineE (w0 :: f) = outR kd (rAt T 0) (rAt T 1) 1) := by rw [hT]; exact HQ
              replace HT : Hid (T.length = mn) := by rw [hT]; exact HT
              have HSZ2 : Hid (∀ x ∈ T, x.length ≤ 4294967295) := by rw [hT]; exact HSZ0
              clear hT HSZ0
              generalize mn = tn at *
              go_wp2_with first | (go_at_call 25; refine Calls.mono (HMC.out _) ?_; rintro e wz ⟨rfl, hE⟩; replace S := S.ext (Keep.of_below hE); clear hE)
              obtain ⟨z, hz⟩ : ∃ z : Int, z = 1 := ⟨_, rfl⟩
              rw [← hz] at S
              replace HQ : Hid (lineE (w0 :: f) = outR kd (rAt T 0) (rAt T 1) z) := by rw [hz]; exact HQ
              clear hz
              -- T: thing 0 (.slice az tn cz); the ints: thing 1 ([0, 0, z]); the result: thing 2
              obtain ⟨HTl, htn2⟩ : Hid (T.length = tn) ∧ tn ≤ 2 := ⟨HT, by omega⟩
              go_loopw [9] (fun i wr => RRel T z tn w i _ bz _ wr) (fun i _ => tn - (intOf i).toNat)
              case atStart => exact ⟨0, by omega, rfl, S⟩
              case round =>
                clear S
                obtain ⟨j, hj, rfl, S⟩ := hrel
                by_cases hlt : j < tn
                · have hlt2 : (j : Int) < (tn : Nat) := by omega
                  obtain ⟨x, hx⟩ : ∃ x, T[j]? = some x := ⟨_, List.getElem?_eq_getElem (by rw [HTl.out]; exact hlt)⟩
                  have HX := Lib.hid hx
                  have HN := Lib.hid (fun w => rnum_calls x w (HSZ2.out x (List.mem_of_getElem? hx)))
                  have hj2 : j < 2 := by omega
                  have HG : Hid ((regs T j z)[j]? = some 0) := Lib.hid (regs_at T z hj2)
                  have HS := Lib.hid (regs_set T z hx hj2)
                  obtain ⟨Rt, ot, rfl⟩ : ∃ R o, az = some ⟨R, o, none⟩ := (S.sl 0 rfl).elim fun F h => h.head (by rw [HTl.out]; omega)
                  clear hx
                  generalize rnumE x = rx at *
                  generalize regs T j z = xs at *
                  go_wp2_with first | ((with_reducible apply wps_load_el S 0 (hj := HX.out) (q := 0) (u := strV x)); (case hx | hi => rfl); (case hn => omega); (case hu => rfl); (case hT => decide +kernel)) | (go_at_call 34; refine Calls.mono (HN.out _) ?_; rintro e wz ⟨rfl, hE⟩; replace S := S.ext (Keep.of_below hE); clear hE) | ((with_reducible apply wps_store_own icells S 1 (hj := HG.out) (e' := rx) (q := 0)); (case hx => rfl); (case hn => omega); (case hi | hy | h1 | he => rfl); (case hq => decide); (case hT => decide +kernel); clear S; intro wz S; simp only [List.set_cons_succ, List.set_cons_zero] at S)
                  go_roundw
                  case rel => exact ⟨j + 1, by omega, by go_num, by rw [← HS.out]; exact S⟩
                  case measure => first | (simp [intOf]; done) | (simp [intOf]; omega)
                · obtain rfl : j = tn := by omega
                  rw [show regs T j z = [rAt T 0, rAt T 1, z] from (by rw [← HTl.out]; exact regs_all T z (by rw [HTl.out]; omega))] at S
                  have HQ2 := HQ.out
                  generalize rAt T 0 = ra at *
                  generalize rAt T 1 = rb at *
                  have HA : Hid ([ra, rb, z][0]? = some ra) := Lib.hid rfl
                  have HB : Hid ([ra, rb, z][1]? = some rb) := Lib.hid rfl
                  have HZ : Hid ([ra, rb, z][2]? = some z) := Lib.hid rfl
                  by_cases hneg : ra < 0 ∨ rb < 0 ∨ z < 0
                  · have HR : Hid (lineE (w0 :: f) = (⟨0, 0, 0⟩, 0, 15)) := Lib.hid (by rw [HQ2]; unfold outR; rw [if_pos hneg])
                    clear HQ2
                    have hng : ra < 0 ∨ (¬ ra < 0 ∧ rb < 0) ∨ (¬ ra < 0 ∧ ¬ rb < 0 ∧ z < 0) := by omega
                    clear hneg
                    rcases hng with c1 | ⟨c1, c2⟩ | ⟨c1, c2, c3⟩
                    all_goals
                      go_wp2_with first | ((with_reducible apply wps_load_own icells S 1 (hj := HA.out) (q := 0) (u := .int .i64 ra)); (case hx | hi => rfl); (case hn => omega); (case hu => rfl); (case hT => decide +kernel)) | ((with_reducible apply wps_load_own icells S 1 (hj := HB.out) (q := 0) (u := .int .i64 rb)); (case hx | hi => rfl); (case hn => omega); (case hu => rfl); (case hT => decide +kernel)) | ((with_reducible apply wps_load_own icells S 1 (hj := HZ.out) (q := 0) (u := .int .i64 _)); (case hx | hi => rfl); (case hn => omega); (case hu => rfl); (case hT => decide +kernel)) | ((with_reducible apply wps_storea (T := 39) S 2 (vs := [.int .i64 0, .int .i64 0, .int .i64 0]) (m := 3)); (case hx | hy | hi | hm | h1 => rfl); (case hn => exact Nat.le_of_ble_eq_true rfl); (case hT => decide +kernel); clear S; intro wz S; simp only [List.set_cons_zero, List.set_cons_succ, setAll, List.setIfInBounds_toArray] at S)
                      (try simp only [Exit.inBlock, Exit.then]); refine bodyPost_ret (results3 rfl (S.resA 2 rfl rfl (by kernel_rfl)) (res_tmp rfl) (res_tmp rfl)) rfl ?_
                      rw [HR.out]
                      exact ⟨rfl, S.below⟩
                  · by_cases hbig : 4095 < ra ∨ 4095 < rb ∨ 4095 < z ∨ z = 0
                    · have HR : Hid (lineE (w0 :: f) = (⟨0, 0, 0⟩, 0, 10)) := Lib.hid (by rw [HQ2]; unfold outR; rw [if_neg hneg, if_pos hbig])
                      clear HQ2
                      have d1 : ¬ ra < 0 := by omega
                      have d2 : ¬ rb < 0 := by omega
                      have d3 : ¬ z < 0 := by omega
                      have hng : 4095 < ra ∨ (¬ 4095 < ra ∧ 4095 < rb) ∨ (¬ 4095 < ra ∧ ¬ 4095 < rb ∧ 4095 < z) ∨ (¬ 4095 < ra ∧ ¬ 4095 < rb ∧ ¬ 4095 < z ∧ (z == 0) = true) := by
                        simp only [beq_iff_eq]; omega
                      clear hneg hbig
                      rcases hng with c1 | ⟨c1, c2⟩ | ⟨c1, c2, c3⟩ | ⟨c1, c2, c3, c4⟩
                      all_goals
                        go_wp2_with first | ((with_reducible apply wps_load_own icells S 1 (hj := HA.out) (q := 0) (u := .int .i64 ra)); (case hx | hi => rfl); (case hn => omega); (case hu => rfl); (case hT => decide +kernel)) | ((with_reducible apply wps_load_own icells S 1 (hj := HB.out) (q := 0) (u := .int .i64 rb)); (case hx | hi => rfl); (case hn => omega); (case hu => rfl); (case hT => decide +kernel)) | ((with_reducible apply wps_load_own icells S 1 (hj := HZ.out) (q := 0) (u := .int .i64 _)); (case hx | hi => rfl); (case hn => omega); (case hu => rfl); (case hT => decide +kernel)) | ((with_reducible apply wps_storea (T := 39) S 2 (vs := [.int .i64 0, .int .i64 0, .int .i64 0]) (m := 3)); (case hx | hy | hi | hm | h1 => rfl); (case hn => exact Nat.le_of_ble_eq_true rfl); (case hT => decide +kernel); clear S; intro wz S; simp only [List.set_cons_zero, List.set_cons_succ, setAll, List.setIfInBounds_toArray] at S)
                        (try simp only [Exit.inBlock, Exit.then]); refine bodyPost_ret (results3 rfl (S.resA 2 rfl rfl (by kernel_rfl)) (res_tmp rfl) (res_tmp rfl)) rfl ?_
                        rw [HR.out]
                        exact ⟨rfl, S.below⟩
                    · have HR : Hid (lineE (w0 :: f) = (⟨kd, ra, rb⟩, (z).toNat, 0)) := Lib.hid (by rw [HQ2]; unfold outR; rw [if_neg hneg, if_neg hbig])
                      clear HQ2
                      have HZN : Hid (((z).toNat : Int) = z) := Lib.hid (by omega)
                      have d1 : ¬ ra < 0 := by omega
                      have d2 : ¬ rb < 0 := by omega
                      have d3 : ¬ z < 0 := by omega
                      have c1 : ¬ 4095 < ra := by omega
                      have c2 : ¬ 4095 < rb := by omega
                      have c3 : ¬ 4095 < z := by omega
                      have c4 : (z == 0) = false := by rw [beq_eq_false_iff_ne]; omega
                      clear hneg hbig
                      go_upto_region 28 with first | ((with_reducible apply wps_load_own icells S 1 (hj := HA.out) (q := 0) (u := .int .i64 ra)); (case hx | hi => rfl); (case hn => omega); (case hu => rfl); (case hT => decide +kernel)) | ((with_reducible apply wps_load_own icells S 1 (hj := HB.out) (q := 0) (u := .int .i64 rb)); (case hx | hi => rfl); (case hn => omega); (case hu => rfl); (case hT => decide +kernel)) | ((with_reducible apply wps_load_own icells S 1 (hj := HZ.out) (q := 0) (u := .int .i64 z)); (case hx | hi => rfl); (case hn => omega); (case hu => rfl); (case hT => decide +kernel))
                      replace S := S.pick [1, 2] rfl
                      simp only [pick, nth] at S
                      clear d1 d2 d3 c1 c2 c3 c4 hlt hj
                      (refine wp_region_wt (soft := [0, 1, 2, 3, 4, 5, 6, 7, 8, 9, 10]) (L := [_]) (T := [_]) S ?hm ?hB ?_); (case hm => kernel_rfl); (case hB => decide +kernel); clear S
                      iterate 11
                        (with_reducible apply softs_cons)
                        (case hw =>
                          (with_reducible apply soft_of); (case hi => rfl)
                          intro T wz S
                          simp only [List.cons_append, List.nil_append] at S
                          go_wp2_with first | ((with_reducible apply wps_load_own icells S 0 (hj := HA.out) (q := 0) (u := .int .i64 ra)); (case hx | hi => rfl); (case hn => omega); (case hu => rfl); (case hT => decide +kernel)) | ((with_reducible apply wps_load_own icells S 0 (hj := HB.out) (q := 0) (u := .int .i64 rb)); (case hx | hi => rfl); (case hn => omega); (case hu => rfl); (case hT => decide +kernel)) | ((with_reducible apply wps_load_own icells S 0 (hj := HZ.out) (q := 0) (u := .int .i64 z)); (case hx | hi => rfl); (case hn => omega); (case hu => rfl); (case hT => decide +kernel)) | ((with_reducible refine tot_done ?ht ?_); (case ht => kernel_rfl))
                          exact ⟨rfl, S⟩)
                        (case hs => exact ⟨_, rfl, by kernel_rfl⟩)
                      refine softs_nil ?_
                      (with_reducible apply W_hard1 (i := 11)); (case hn => rfl); (case hr => decide +kernel)
                      intro wz S
                      (with_reducible apply hard_of); (case hi => rfl)
                      simp only [List.cons_append, List.nil_append] at S
                      go_wp2_with first | ((with_reducible apply wps_storea (T := 39) S 1 (vs := [.int .i64 kd, .int .i64 ra, .int .i64 rb]) (m := 3)); (case hx | hy | hi | hm | h1 => rfl); (case hn => exact Nat.le_of_ble_eq_true rfl); (case hT => decide +kernel); clear S; intro wz S; simp only [List.set_cons_zero, List.set_cons_succ, setAll, List.setIfInBounds_toArray] at S) | ((with_reducible refine tot_done ?ht ?_); (case ht => kernel_rfl))
                      refine ⟨_, S, ?_⟩
                      clear S
                      (refine W_mid (f := 0) (soft := [12, 13]) rfl ?hB ?_); (case hB => decide +kernel)
                      iterate 2
                        (with_reducible apply softs_cons)
                        (case hw =>
                          (with_reducible apply soft_of); (case hi => rfl)
                          intro T wz S
                          simp only [List.cons_append, List.nil_append] at S
                          go_wp2_with first | ((with_reducible refine tot_done ?ht ?_); (case ht => kernel_rfl))
                          exact ⟨rfl, S⟩)
                        (case hs => exact ⟨_, rfl, by kernel_rfl⟩)
                      refine softs_nil ?_
                      (with_reducible apply W_done); (case hn => rfl); (case hr => decide +kernel)
                      intro wz S
                      repeat (first | simp only at S | simp only [pick] at S | simp only [nth] at S | simp only [List.set_cons_succ] at S | simp only [List.set_cons_zero] at S | simp only [List.setIfInBounds_toArray] at S | simp only [setAll] at S | simp only [List.cons_append] at S | simp only [List.nil_append] at S | simp only [List.append_nil] at S)
                      go_wp2_with first | ((with_reducible apply wps_load S 0); (case hx | hi | hu => rfl); (case hT => decide +kernel))
                      (try simp only [Exit.inBlock, Exit.then]); refine bodyPost_ret (results3 rfl (S.resA 1 rfl rfl (by kernel_rfl)) (res_tmp rfl) (res_tmp rfl)) rfl ?_
                      rw [HR.out]
                      refine ⟨?_, S.below⟩
                      show Ending.returned _ = _
                      simp only
                      rw [HZN.out]
                      rfl
            · have HR : Hid (lineE (w0 :: f) = (⟨0, 0, 0⟩, 0, 15)) := Lib.hid (HQ0.out.trans (line_else (by rw [HMN.out]; exact hl2) (by rw [HMN.out]; exact hl1)))
              have hne2 : ((f.length : Int) != (mn : Int)) = true := by rw [bne_iff_ne]; omega
              clear hl1 hl2 HQ0
              go_wp2_with first | (go_at_call 25; refine Calls.mono (HMC.out _) ?_; rintro e wz ⟨rfl, hE⟩; replace S := S.ext (Keep.of_below hE); clear hE) | ((with_reducible apply wps_storea (T := 39) S 2 (vs := [.int .i64 0, .int .i64 0, .int .i64 0]) (m := 3)); (case hx | hy | hi | hm | h1 => rfl); (case hn => exact Nat.le_of_ble_eq_true rfl); (case hT => decide +kernel); clear S; intro wz S; simp only [List.set_cons_zero, List.set_cons_succ, setAll, List.setIfInBounds_toArray] at S)
              (try simp only [Exit.inBlock, Exit.then]); refine bodyPost_ret (results3 rfl (S.resA 2 rfl rfl (by kernel_rfl)) (res_tmp rfl) (res_tmp rfl)) rfl ?_
              rw [HR.out]
              exact ⟨rfl, S.below⟩
end Go.Proofs.YtkcnbejpmknaoaaDoor
