import Derived.Test.YtmjljoaakdocaaaGreatDoorY04
import Derived.Laws.DeepNot64
/- The walk of strings.FieldsFunc at the script's blanks (chapter 21). -/
namespace Go.Proofs.YtmjljoaakdocaaaGreatDoor
open Go Go.RowKit Reg Mem

def spcell (x : Nat × Nat) : List Value := [.int .i64 x.1, .int .i64 x.2]
theorem spcells : ∀ x, (spcell x).length = 2 := fun _ => rfl
theorem spone : ∀ x, ∀ u ∈ spcell x, u.oneCell' = true := fun x u hu => by
  simp only [spcell, List.mem_cons, List.not_mem_nil, or_false] at hu; rcases hu with rfl | rfl <;> rfl
set_option maxRecDepth 100000 in
theorem elem_Spn : Elem Tryz.prog 286 288 2 16 := ⟨_, .agg #[.int .i64 0, .int .i64 0], Tryz.underlying286, rfl, by kernel_rfl, by kernel_rfl, by kernel_rfl, by kernel_rfl, by omega⟩
set_option maxRecDepth 100000 in
theorem zero_Spn : zeroIs Tryz.prog 288 2 (spcell (0, 0)) := ⟨_, .agg #[.int .i64 0, .int .i64 0], rfl, by kernel_rfl, by kernel_rfl, rfl, by decide⟩
set_option maxRecDepth 100000 in
theorem zero_Str : zeroIs Tryz.prog 9 1 (strcell []) := ⟨_, .string ⟨#[]⟩, rfl, by kernel_rfl, by kernel_rfl, rfl, by decide⟩
set_option maxRecDepth 100000 in
theorem sep_calls (x : Nat) (w : World) : Calls Tryz.prog 118 #[.int .i32 x] w fun e w' => e = .returned (.bool (sepR x)) ∧ Below w.heap.size w w' := by
  have S := St.init (fun _ => False) w
  have key : (((x : Int) == 32) = true ∧ sepR x = true) ∨ (((x : Int) == 32) = false ∧ ((x : Int) == 9) = true ∧ sepR x = true) ∨ (((x : Int) == 32) = false ∧ ((x : Int) == 9) = false ∧ ((x : Int) == 13) = true ∧ sepR x = true) ∨ (((x : Int) == 32) = false ∧ ((x : Int) == 9) = false ∧ ((x : Int) == 13) = false ∧ sepR x = false) := by
    unfold sepR
    simp only [beq_iff_eq, beq_eq_false_iff_ne, Bool.or_eq_true, Bool.or_eq_false_iff]
    omega
  rcases key with ⟨c1, c4⟩ | ⟨c1, c2, c4⟩ | ⟨c1, c2, c3, c4⟩ | ⟨c1, c2, c3, c4⟩
  all_goals
    have HR := Lib.hid c4
    clear c4
    go_enter Tryz.func118, Tryz.ntmps118
    go_wp2_with first | go_skip | ((with_reducible refine wpList_skip ?hw ?_); (case hw => with_unfolding_all rfl); simp only [Act.put, List.setIfInBounds_toArray, List.set_cons_succ, List.set_cons_zero]) | ((with_reducible refine tot_done ?ht ?_); (case ht => kernel_rfl))
    go_ret
    rw [HR.out]
    exact ⟨rfl, S.below⟩
theorem dec_fit (s : ByteArray) (pos : Nat) (h : pos < s.size) : 1 ≤ (Utf8.decode s pos).2 ∧ pos + (Utf8.decode s pos).2 ≤ s.size := by
  by_cases h8 : (s[pos]'h).toNat < 128
  · rw [decode_ascii s pos h h8]; exact ⟨Nat.le_refl _, h⟩
  · exact ⟨(decode_high s pos h (by omega)).2, (rune_high s pos h (by omega)).1⟩
theorem not64 (a : Nat) (h : a < 9223372036854775808) : bits BinOp.xor IntKind.i64 (if IntKind.i64.signed = true then -1 else 9223372036854775807) (a : Int) = -1 - (a : Int) := i64_not a h
def StZ (st : Option Nat) (pos : Nat) (z : Int) : Prop := (st = none ∧ z < 0 ∧ -9223372036854775808 ≤ z) ∨ ∃ a : Nat, st = some a ∧ z = a ∧ a ≤ pos
def FfRel (b : Nat) (s : ByteArray) (w : World) (sv start : Value) (wr : World) : Prop :=
  ∃ (pos f : Nat) (acc : List (Nat × Nat)) (st : Option Nat) (z : Int), pos ≤ s.size ∧ start = .int .i64 z ∧ s.size - pos ≤ f ∧ Hid (StZ st pos z) ∧ Hid (Lib.spansFromP sepR s f pos st acc = Lib.spansFromP sepR s s.size 0 none []) ∧
    Hid (∀ x ∈ acc, x.1 ≤ x.2 ∧ x.2 ≤ pos) ∧ acc.length ≤ pos ∧ St (fun _ => False) w wr [IterA b s pos, Own 288 spcell 2 sv acc]
theorem sown_hd {α : Type} {E : TypeId} {enc : α → List Value} {k : Nat} {v : Value} {xs : List α} {G : Nat → Prop} {w0 w : World} {L : List Asn} (i : Nat) (S : St G w0 w L) (hi : L[i]? = some (Own E enc k v xs)) (h0 : 0 < xs.length) : ∃ R c, v = .slice (some ⟨R, 0, none⟩) xs.length c := by
  obtain ⟨F1, h1, _⟩ := S.get hi
  obtain ⟨R, c, cur, e, _⟩ := h1.some (by omega)
  exact ⟨R, c, e⟩
def pieceL (l : List UInt8) (x : Nat × Nat) : List UInt8 := (l.drop x.1).take (x.2 - x.1)
def FfRel2 (sv : Value) (R : Nat) (l : List UInt8) (SP : List (Nat × Nat)) (w : World) (i : Value) (wr : World) : Prop :=
  ∃ k : Nat, k ≤ SP.length ∧ i = .int .i64 k ∧ St (fun _ => False) w wr [Own 9 strcell 1 (.slice (some ⟨R, 0, none⟩) SP.length SP.length) ((SP.take k).map (pieceL l) ++ List.replicate (SP.length - k) []), Own 288 spcell 2 sv SP]
theorem piece_at (l : List UInt8) {SP : List (Nat × Nat)} {k : Nat} (h : k < SP.length) : ((SP.take k).map (pieceL l) ++ List.replicate (SP.length - k) [])[k]? = some [] := by
  have hl : ((SP.take k).map (pieceL l)).length = k := by simp; omega
  rw [List.getElem?_append_right (by omega), List.getElem?_replicate, if_pos (by omega)]
theorem piece_set (l : List UInt8) {SP : List (Nat × Nat)} {k : Nat} {x : Nat × Nat} (hx : SP[k]? = some x) : ((SP.take k).map (pieceL l) ++ List.replicate (SP.length - k) []).set k (pieceL l x) = (SP.take (k + 1)).map (pieceL l) ++ List.replicate (SP.length - (k + 1)) [] := by
  have hk := (List.getElem?_eq_some_iff.1 hx).1
  have hl : ((SP.take k).map (pieceL l)).length = k := by simp; omega
  rw [List.set_append_right _ _ (by omega), hl, Nat.sub_self, show SP.length - k = (SP.length - (k + 1)) + 1 by omega, List.replicate_succ, List.set_cons_zero, List.take_add_one, hx, List.map_append]
  simp
theorem spans_step (s : ByteArray) (f pos : Nat) (st : Option Nat) (acc : List (Nat × Nat)) (h : pos < s.size) : Lib.spansFromP sepR s (f + 1) pos st acc =
    if sepR (Utf8.decode s pos).1 = true then Lib.spansFromP sepR s f (pos + (Utf8.decode s pos).2) none (match st with | some a => acc ++ [(a, pos)] | none => acc)
    else Lib.spansFromP sepR s f (pos + (Utf8.decode s pos).2) (some (st.getD pos)) acc := by
  conv => lhs; unfold Lib.spansFromP
  rw [if_pos h]
  split <;> cases st <;> rfl
theorem iter_pos {b : Nat} {s : ByteArray} {pos : Nat} {w : World} {F : Nat → Prop} (h : (IterA b s pos).at_ w F) : w.iterPos b = pos := by
  unfold World.iterPos; rw [h.1]
theorem spans_list (l : List UInt8) : (Lib.closeSpans (str l) (Lib.spansFromP sepR (str l) (str l).size 0 none [])).map (pieceL l) = wordsGo [] l := by
  have h := spans_words (str l) (str l).size 0 none [] (by omega) (by omega) (by simp)
  rw [str_data] at h
  have e : pieceL l = fun x => ((str l).extract x.1 x.2).data.toList := by
    funext x; rw [Lib.extract_data, str_data]; rfl
  rw [e, h]; rfl
set_option maxRecDepth 100000 in
set_option maxHeartbeats 8000000 in
theorem ff_calls (l : List UInt8) (w : World) (hn : l.length ≤ 2147483647) : Calls Tryz.prog 117 #[strV l, .func (.func 118) #[] #[]] w fun e w' =>
    ∃ a cp, e = .returned (.slice a (wordsGo [] l).length cp) ∧ St (fun _ => False) w w' [Own 9 strcell 1 (.slice a (wordsGo [] l).length cp) (wordsGo [] l)] := by
  have S := St.init (fun _ => False) w
  obtain ⟨s, hs⟩ : ∃ s, s = str l := ⟨_, rfl⟩
  have HSV : Hid (strV l = .string s) := Lib.hid (by rw [hs]; rfl)
  have HSZ : Hid (s.size = l.length) := Lib.hid (by rw [hs]; exact str_size l)
  have hn2 : s.size ≤ 2147483647 := by rw [HSZ.out]; exact hn
  have HSL := Lib.hid (spans_list l)
  rw [← hs] at HSL
  clear hs
  go_enter Tryz.func117, Tryz.ntmps117
  go_wp2_with first | ((with_reducible apply wps_makecap (n := 32) (T := 286) Tryz.underlying286 (0, 0) zero_Spn S); (case hx | hy => rfl); (case hn => omega); clear S; intro bz wz S) | ((with_reducible apply wps_rangestr Tryz.underlying9 S); (case hx => exact HSV.out); clear S; intro bi wz S) | ((with_reducible refine tot_done ?ht ?_); (case ht => kernel_rfl)) | ((with_reducible apply wps_alloca (E := 288) S); (case hz => exact Tryz.zeroValue288); clear S; intro bz wz S) | ((with_reducible apply wps_load S 0); (case hx | hi | hu => rfl); (case hT => decide +kernel)) | ((with_reducible apply wps_loada (T := 288) (k := 2) S 0); (case hx | hi => rfl); (case hk => exact Nat.le_of_ble_eq_true rfl); (case hT => decide +kernel))
  simp only [Act.put, List.setIfInBounds_toArray, List.set_cons_succ, List.set_cons_zero]
  go_loopw [5, 6] (fun sv start wr => FfRel bi s w sv start wr) (fun _ _ wr => s.size - wr.iterPos bi)
  case atStart => exact ⟨0, s.size, [], none, -1, Nat.zero_le _, rfl, by omega, Lib.hid (.inl ⟨rfl, by decide, by decide⟩), Lib.hid rfl, Lib.hid (by simp), by simp, S⟩
  case round =>
    clear S
    obtain ⟨pos, f, acc, st, z, hpos, rfl, hf, HZ, HE, HA, hal, S⟩ := hrel
    have hip : wr.iterPos bi = pos := (S.get (i := 0) rfl).elim fun _ h => iter_pos h
    by_cases hlt : pos < s.size
    · obtain ⟨d1, d2⟩ := dec_fit s pos hlt
      obtain ⟨f, rfl⟩ : ∃ g, f = g + 1 := ⟨f - 1, by omega⟩
      have hf2 : s.size - (pos + (Utf8.decode s pos).2) ≤ f := by omega
      have hu := spans_step s f pos st acc hlt
      have hA2 : ∀ x ∈ acc, x.1 ≤ x.2 ∧ x.2 ≤ pos + (Utf8.decode s pos).2 := fun x hx => by have := HA.out x hx; omega
      have hal2 : acc.length ≤ pos + (Utf8.decode s pos).2 := by omega
      have hsc := Lib.hid (fun w => sep_calls (Utf8.decode s pos).1 w)
      have HD := Lib.hid (And.intro d1 d2)
      have HF := Lib.hid hf2
      have HA2 := Lib.hid hA2
      have HAL := Lib.hid hal2
      have HIP := Lib.hid hip
      clear hf hf2 hA2 hal2 d1 d2 hip
      have hal3 : acc.length < 4294967296 := by omega
      cases hsep : sepR (Utf8.decode s pos).1 with
      | true =>
        rw [hsep, if_pos rfl] at hu
        rw [hsep] at hsc
        rcases HZ.out with ⟨rfl, z1, z2⟩ | ⟨a, rfl, rfl, z1⟩
        · have HN := Lib.hid (hu.symm.trans HE.out)
          have c1 : ¬ (0 ≤ z) := by omega
          clear hu hsep
          go_wp2_with first | ((with_reducible apply wps_next S 0); (case hi => rfl); (case h => exact hlt); (case hx => rfl); clear S; intro wz S; simp only [List.set_cons_zero] at S) | (go_at_call 118; refine Calls.mono (hsc.out _) ?_; rintro e wz ⟨rfl, hE⟩; replace S := S.ext (Keep.of_below hE); clear hE) | ((with_reducible refine tot_done ?ht ?_); (case ht => kernel_rfl)) | ((with_reducible apply wps_alloca (E := 288) S); (case hz => exact Tryz.zeroValue288); clear S; intro bz wz S) | ((with_reducible apply wps_load S 0); (case hx | hi | hu => rfl); (case hT => decide +kernel)) | ((with_reducible apply wps_loada (T := 288) (k := 2) S 0); (case hx | hi => rfl); (case hk => exact Nat.le_of_ble_eq_true rfl); (case hT => decide +kernel))
          go_roundw
          case rel => exact ⟨_, f, acc, none, z, HD.out.2, rfl, HF.out, Lib.hid (.inl ⟨rfl, z1, z2⟩), Lib.hid HN.out, HA2, HAL.out, S⟩
          case measure =>
            have hq := (S.get (i := 0) rfl).elim fun _ h => iter_pos h
            have := HD.out.1
            rw [hq, HIP.out]; omega
        · have HN := Lib.hid (hu.symm.trans HE.out)
          have HA3 : Hid (∀ x ∈ acc ++ [(a, pos)], x.1 ≤ x.2 ∧ x.2 ≤ pos + (Utf8.decode s pos).2) := Lib.hid fun x hx => by
            rcases List.mem_append.1 hx with h | h
            · exact HA2.out x h
            · simp at h; subst h; exact ⟨z1, by simp⟩
          have c1 : (0 : Int) ≤ a := by omega
          have c2 : (a : Int) ≤ 4294967296 := by omega
          clear hu hsep
          go_wp2_with first | ((with_reducible apply wps_next S 0); (case hi => rfl); (case h => exact hlt); (case hx => rfl); clear S; intro wz S; simp only [List.set_cons_zero] at S) | (go_at_call 118; refine Calls.mono (hsc.out _) ?_; rintro e wz ⟨rfl, hE⟩; replace S := S.ext (Keep.of_below hE); clear hE) | ((with_reducible apply wps_build1a (T := 286) (E := 288) S); (case hx => rfl); (case hr => intro w; kernel_rfl); clear S; intro bz wz S) | ((with_reducible apply wps_append1 elem_Spn spcells spone (by decide) S 2 (j := 0) (e := (a, pos))); (case hx | hy | hi | hj | he => rfl); (case hl => first | omega | (simp; omega)); clear S; intro az nz cz wz hnz S; simp only [List.set_cons_succ, List.set_cons_zero] at S) | ((with_reducible refine tot_done ?ht ?_); (case ht => kernel_rfl)) | ((with_reducible apply wps_alloca (E := 288) S); (case hz => exact Tryz.zeroValue288); clear S; intro bz wz S) | ((with_reducible apply wps_load S 0); (case hx | hi | hu => rfl); (case hT => decide +kernel)) | ((with_reducible apply wps_loada (T := 288) (k := 2) S 0); (case hx | hi => rfl); (case hk => exact Nat.le_of_ble_eq_true rfl); (case hT => decide +kernel))
          rw [show bits BinOp.xor IntKind.i64 (if IntKind.i64.signed = true then -1 else 9223372036854775807) (a : Int) = -1 - (a : Int) from not64 a (by omega)]
          go_roundw
          case rel => exact ⟨_, f, acc ++ [(a, pos)], none, _, HD.out.2, rfl, HF.out, Lib.hid (.inl ⟨rfl, by omega, by omega⟩), Lib.hid HN.out, HA3, by simp; have := HD.out.1; omega, S.pick [1, 2] rfl⟩
          case measure =>
            have hq := (S.get (i := 1) rfl).elim fun _ h => iter_pos h
            have := HD.out.1
            rw [hq, HIP.out]; omega
      | false =>
        rw [hsep, if_neg (by decide)] at hu
        rw [hsep] at hsc
        rcases HZ.out with ⟨rfl, z1, z2⟩ | ⟨a, rfl, rfl, z1⟩
        · have HN := Lib.hid (hu.symm.trans HE.out)
          have c1 : z < 0 := by omega
          clear hu hsep
          go_wp2_with first | ((with_reducible apply wps_next S 0); (case hi => rfl); (case h => exact hlt); (case hx => rfl); clear S; intro wz S; simp only [List.set_cons_zero] at S) | (go_at_call 118; refine Calls.mono (hsc.out _) ?_; rintro e wz ⟨rfl, hE⟩; replace S := S.ext (Keep.of_below hE); clear hE) | ((with_reducible refine tot_done ?ht ?_); (case ht => kernel_rfl)) | ((with_reducible apply wps_alloca (E := 288) S); (case hz => exact Tryz.zeroValue288); clear S; intro bz wz S) | ((with_reducible apply wps_load S 0); (case hx | hi | hu => rfl); (case hT => decide +kernel)) | ((with_reducible apply wps_loada (T := 288) (k := 2) S 0); (case hx | hi => rfl); (case hk => exact Nat.le_of_ble_eq_true rfl); (case hT => decide +kernel))
          go_roundw
          case rel => exact ⟨_, f, acc, some pos, _, HD.out.2, rfl, HF.out, Lib.hid (.inr ⟨pos, rfl, rfl, by omega⟩), Lib.hid HN.out, HA2, HAL.out, S⟩
          case measure =>
            have hq := (S.get (i := 0) rfl).elim fun _ h => iter_pos h
            have := HD.out.1
            rw [hq, HIP.out]; omega
        · have HN := Lib.hid (hu.symm.trans HE.out)
          have c1 : ¬ ((a : Int) < 0) := by omega
          clear hu hsep
          go_wp2_with first | ((with_reducible apply wps_next S 0); (case hi => rfl); (case h => exact hlt); (case hx => rfl); clear S; intro wz S; simp only [List.set_cons_zero] at S) | (go_at_call 118; refine Calls.mono (hsc.out _) ?_; rintro e wz ⟨rfl, hE⟩; replace S := S.ext (Keep.of_below hE); clear hE) | ((with_reducible refine tot_done ?ht ?_); (case ht => kernel_rfl)) | ((with_reducible apply wps_alloca (E := 288) S); (case hz => exact Tryz.zeroValue288); clear S; intro bz wz S) | ((with_reducible apply wps_load S 0); (case hx | hi | hu => rfl); (case hT => decide +kernel)) | ((with_reducible apply wps_loada (T := 288) (k := 2) S 0); (case hx | hi => rfl); (case hk => exact Nat.le_of_ble_eq_true rfl); (case hT => decide +kernel))
          go_roundw
          case rel => exact ⟨_, f, acc, some a, _, HD.out.2, rfl, HF.out, Lib.hid (.inr ⟨a, rfl, rfl, by omega⟩), Lib.hid HN.out, HA2, HAL.out, S⟩
          case measure =>
            have hq := (S.get (i := 0) rfl).elim fun _ h => iter_pos h
            have := HD.out.1
            rw [hq, HIP.out]; omega
    · have hq : Lib.spansFromP sepR s s.size 0 none [] = (acc, st) := by rw [← HE.out, Lib.spansFromP_end _ _ _ _ _ _ hlt]
      have hps : pos = s.size := by omega
      have hsz := HSZ.out
      have hsp := HSL.out
      rw [hq] at hsp
      rcases HZ.out with ⟨rfl, z1, z2⟩ | ⟨a, rfl, rfl, z1⟩
      · have HSP : Hid (wordsGo [] l = acc.map (pieceL l)) := Lib.hid (by rw [← hsp]; rfl)
        have HA3 : Hid (∀ x ∈ acc, x.1 ≤ x.2 ∧ x.2 ≤ l.length) := Lib.hid fun x hx => by have := HA.out x hx; omega
        have c1 : ¬ (0 ≤ z) := by omega
        have hal2 : acc.length ≤ 4294967296 := by omega
        obtain ⟨aq, cq, rfl, _⟩ := (S.ownsl spcells 1 rfl).elim fun _ h => h.form
        clear hq HZ HA hip hf hal HE hps hsz hsp HSL hn2
        go_wp2_with first | ((with_reducible apply wps_nextend S 0); (case hi => rfl); (case h => exact hlt); (case hx => rfl)) | ((with_reducible apply wps_make strcells Tryz.underlying174 _ zero_Str S (n := acc.length)); (case hx | hy => rfl); (case hn => omega); clear S; intro bz wz S) | ((with_reducible refine tot_done ?ht ?_); (case ht => kernel_rfl)) | ((with_reducible apply wps_alloca (E := 288) S); (case hz => exact Tryz.zeroValue288); clear S; intro bz wz S) | ((with_reducible apply wps_load S 0); (case hx | hi | hu => rfl); (case hT => decide +kernel)) | ((with_reducible apply wps_loada (T := 288) (k := 2) S 0); (case hx | hi => rfl); (case hk => exact Nat.le_of_ble_eq_true rfl); (case hT => decide +kernel))
        go_loopw [49] (fun i wr => FfRel2 (.slice aq acc.length cq) bz l acc w i wr) (fun i _ => (acc).length - (intOf i).toNat)
        case atStart =>
          refine ⟨0, Nat.zero_le _, rfl, ?_⟩
          rw [List.take_zero, List.map_nil, List.nil_append, Nat.sub_zero]
          exact S.pick [0, 2] rfl
        case round =>
          clear S
          obtain ⟨k, hk, rfl, S⟩ := hrel
          by_cases hkt : k < (acc).length
          · have hkt2 : (k : Int) < (acc).length := by omega
            obtain ⟨x, hx⟩ : ∃ x, (acc)[k]? = some x := ⟨_, List.getElem?_eq_getElem hkt⟩
            have HX := Lib.hid hx
            obtain ⟨x1, x2⟩ := HA3.out x (List.mem_of_getElem? hx)
            have HP := Lib.hid (piece_at l hkt)
            have HS := Lib.hid (piece_set l hx)
            have hle : ((((acc).take k).map (pieceL l) ++ List.replicate ((acc).length - k) [])).length = (acc).length := by simp; omega
            have HLE := Lib.hid hle
            obtain ⟨Rq, cq2, eq⟩ := sown_hd 1 S rfl (by omega)
            simp only [Value.slice.injEq] at eq
            obtain ⟨rfl, _, rfl⟩ := eq
            clear hx hle
            generalize ((acc).take k).map (pieceL l) ++ List.replicate ((acc).length - k) [] = xs at *
            go_wp2_with first | ((with_reducible apply wps_loada_own spcells S 1 (hj := HX.out) (q := 0) (vs := [.int .i64 x.1, .int .i64 x.2]) (m := 2)); (case hx | hi => rfl); (case hn => omega); (case hm | hv => rfl); (case hT => decide +kernel)) | ((with_reducible apply wps_load_own spcells S 1 (hj := HX.out) (q := 0) (u := .int .i64 x.1)); (case hx | hi => rfl); (case hn => omega); (case hu => rfl); (case hT => decide +kernel)) | ((with_reducible apply wps_load_own spcells S 1 (hj := HX.out) (q := 1) (u := .int .i64 x.2)); (case hx | hi => rfl); (case hn => omega); (case hu => rfl); (case hT => decide +kernel)) | ((with_reducible apply wps_alloca (E := 288) S); (case hz => exact Tryz.zeroValue288); clear S; intro bq wz S) | ((with_reducible apply wps_storea (T := 288) S 0 (vs := [.int .i64 x.1, .int .i64 x.2]) (m := 2)); (case hx | hy | hi | hm | h1 => rfl); (case hn => exact Nat.le_of_ble_eq_true rfl); (case hT => decide +kernel); clear S; intro wz S; simp only [List.set_cons_zero, List.set_cons_succ, setAll, List.setIfInBounds_toArray] at S) | ((with_reducible apply wps_load S 0); (case hx | hi | hu => rfl); (case hT => decide +kernel)) | ((with_reducible apply wps_ssub (i := x.1) (j := x.2)); (case hx | hlo | hhi => rfl); (case hT => exact Tryz.underlying9); (case h1 | h2 => omega)) | ((with_reducible apply wps_store_own strcells S 1 (hj := HP.out) (e' := (pieceL l x)) (q := 0)); (case hx => rfl); (case hn => omega); (case hi | hy | h1 | he => rfl); (case hq => decide); (case hT => decide +kernel); clear S; intro wz S; simp only [List.set_cons_succ, List.set_cons_zero] at S) | ((with_reducible refine tot_done ?ht ?_); (case ht => kernel_rfl)) | ((with_reducible apply wps_alloca (E := 288) S); (case hz => exact Tryz.zeroValue288); clear S; intro bz wz S) | ((with_reducible apply wps_load S 0); (case hx | hi | hu => rfl); (case hT => decide +kernel)) | ((with_reducible apply wps_loada (T := 288) (k := 2) S 0); (case hx | hi => rfl); (case hk => exact Nat.le_of_ble_eq_true rfl); (case hT => decide +kernel))
            go_roundw
            case rel => exact ⟨k + 1, by omega, by go_num, by rw [← HS.out]; exact S.pick [1, 2] rfl⟩
            case measure => first | (simp [intOf]; done) | (simp [intOf]; omega)
          · obtain rfl : k = (acc).length := by omega
            rw [List.take_length, Nat.sub_self, List.replicate_zero, List.append_nil, ← HSP.out] at S
            have HLW : Hid ((wordsGo [] l).length = (acc).length) := Lib.hid (by rw [HSP.out, List.length_map])
            go_wp2_with first | ((with_reducible refine tot_done ?ht ?_); (case ht => kernel_rfl)) | ((with_reducible apply wps_alloca (E := 288) S); (case hz => exact Tryz.zeroValue288); clear S; intro bz wz S) | ((with_reducible apply wps_load S 0); (case hx | hi | hu => rfl); (case hT => decide +kernel)) | ((with_reducible apply wps_loada (T := 288) (k := 2) S 0); (case hx | hi => rfl); (case hk => exact Nat.le_of_ble_eq_true rfl); (case hT => decide +kernel))
            go_ret
            rw [HLW.out]
            exact ⟨_, _, rfl, S.pick [0] rfl⟩
      · have HSP : Hid (wordsGo [] l = (acc ++ [(a, l.length)]).map (pieceL l)) := Lib.hid (by rw [← hsp, ← hsz]; rfl)
        have HA3 : Hid (∀ x ∈ acc ++ [(a, l.length)], x.1 ≤ x.2 ∧ x.2 ≤ l.length) := Lib.hid fun x hx => by
          rcases List.mem_append.1 hx with h | h
          · have := HA.out x h; omega
          · simp at h; subst h; exact ⟨by simp only; omega, Nat.le_refl _⟩
        have c1 : (0 : Int) ≤ a := by omega
        have hal2 : acc.length < 4294967296 := by omega
        have hal3 : (acc ++ [(a, l.length)]).length ≤ 4294967296 := by simp; omega
        clear hq HZ HA hip hf hal HE hps hsz hsp HSL hn2
        go_upto_region 14 with first | ((with_reducible apply wps_nextend S 0); (case hi => rfl); (case h => exact hlt); (case hx => rfl)) | ((with_reducible apply wps_slen (T := 9)); (case hx => rfl); (case hT => exact Tryz.underlying9)) | ((with_reducible apply wps_build1a (T := 286) (E := 288) S); (case hx => rfl); (case hr => intro w; kernel_rfl); clear S; intro bz wz S) | ((with_reducible apply wps_append1 elem_Spn spcells spone (by decide) S 2 (j := 0) (e := (a, l.length))); (case hx | hy | hi | hj | he => rfl); (case hl => first | omega | (simp; omega)); clear S; intro az nz cz wz hnz S; simp only [List.set_cons_succ, List.set_cons_zero] at S) | ((with_reducible refine tot_done ?ht ?_); (case ht => kernel_rfl)) | ((with_reducible apply wps_alloca (E := 288) S); (case hz => exact Tryz.zeroValue288); clear S; intro bz wz S) | ((with_reducible apply wps_load S 0); (case hx | hi | hu => rfl); (case hT => decide +kernel)) | ((with_reducible apply wps_loada (T := 288) (k := 2) S 0); (case hx | hi => rfl); (case hk => exact Nat.le_of_ble_eq_true rfl); (case hT => decide +kernel))
        obtain rfl : nz = (acc ++ [(a, l.length)]).length := by rw [hnz.out]; simp
        replace S := S.pick [1, 2] rfl
        simp only [pick, nth] at S
        clear hal2
        generalize acc ++ [(a, l.length)] = SP at *
        go_wp2_with first | ((with_reducible apply wps_make strcells Tryz.underlying174 _ zero_Str S (n := SP.length)); (case hx | hy => rfl); (case hn => omega); clear S; intro bz wz S) | ((with_reducible refine tot_done ?ht ?_); (case ht => kernel_rfl)) | ((with_reducible apply wps_alloca (E := 288) S); (case hz => exact Tryz.zeroValue288); clear S; intro bz wz S) | ((with_reducible apply wps_load S 0); (case hx | hi | hu => rfl); (case hT => decide +kernel)) | ((with_reducible apply wps_loada (T := 288) (k := 2) S 0); (case hx | hi => rfl); (case hk => exact Nat.le_of_ble_eq_true rfl); (case hT => decide +kernel))
        go_loopw [49] (fun i wr => FfRel2 (.slice az SP.length cz) bz l SP w i wr) (fun i _ => (SP).length - (intOf i).toNat)
        case atStart =>
          refine ⟨0, Nat.zero_le _, rfl, ?_⟩
          rw [List.take_zero, List.map_nil, List.nil_append, Nat.sub_zero]
          exact S.pick [0, 2] rfl
        case round =>
          clear S
          obtain ⟨k, hk, rfl, S⟩ := hrel
          by_cases hkt : k < (SP).length
          · have hkt2 : (k : Int) < (SP).length := by omega
            obtain ⟨x, hx⟩ : ∃ x, (SP)[k]? = some x := ⟨_, List.getElem?_eq_getElem hkt⟩
            have HX := Lib.hid hx
            obtain ⟨x1, x2⟩ := HA3.out x (List.mem_of_getElem? hx)
            have HP := Lib.hid (piece_at l hkt)
            have HS := Lib.hid (piece_set l hx)
            have hle : ((((SP).take k).map (pieceL l) ++ List.replicate ((SP).length - k) [])).length = (SP).length := by simp; omega
            have HLE := Lib.hid hle
            obtain ⟨Rq, cq2, eq⟩ := sown_hd 1 S rfl (by omega)
            simp only [Value.slice.injEq] at eq
            obtain ⟨rfl, _, rfl⟩ := eq
            clear hx hle
            generalize ((SP).take k).map (pieceL l) ++ List.replicate ((SP).length - k) [] = xs at *
            go_wp2_with first | ((with_reducible apply wps_loada_own spcells S 1 (hj := HX.out) (q := 0) (vs := [.int .i64 x.1, .int .i64 x.2]) (m := 2)); (case hx | hi => rfl); (case hn => omega); (case hm | hv => rfl); (case hT => decide +kernel)) | ((with_reducible apply wps_load_own spcells S 1 (hj := HX.out) (q := 0) (u := .int .i64 x.1)); (case hx | hi => rfl); (case hn => omega); (case hu => rfl); (case hT => decide +kernel)) | ((with_reducible apply wps_load_own spcells S 1 (hj := HX.out) (q := 1) (u := .int .i64 x.2)); (case hx | hi => rfl); (case hn => omega); (case hu => rfl); (case hT => decide +kernel)) | ((with_reducible apply wps_alloca (E := 288) S); (case hz => exact Tryz.zeroValue288); clear S; intro bq wz S) | ((with_reducible apply wps_storea (T := 288) S 0 (vs := [.int .i64 x.1, .int .i64 x.2]) (m := 2)); (case hx | hy | hi | hm | h1 => rfl); (case hn => exact Nat.le_of_ble_eq_true rfl); (case hT => decide +kernel); clear S; intro wz S; simp only [List.set_cons_zero, List.set_cons_succ, setAll, List.setIfInBounds_toArray] at S) | ((with_reducible apply wps_load S 0); (case hx | hi | hu => rfl); (case hT => decide +kernel)) | ((with_reducible apply wps_ssub (i := x.1) (j := x.2)); (case hx | hlo | hhi => rfl); (case hT => exact Tryz.underlying9); (case h1 | h2 => omega)) | ((with_reducible apply wps_store_own strcells S 1 (hj := HP.out) (e' := (pieceL l x)) (q := 0)); (case hx => rfl); (case hn => omega); (case hi | hy | h1 | he => rfl); (case hq => decide); (case hT => decide +kernel); clear S; intro wz S; simp only [List.set_cons_succ, List.set_cons_zero] at S) | ((with_reducible refine tot_done ?ht ?_); (case ht => kernel_rfl)) | ((with_reducible apply wps_alloca (E := 288) S); (case hz => exact Tryz.zeroValue288); clear S; intro bz wz S) | ((with_reducible apply wps_load S 0); (case hx | hi | hu => rfl); (case hT => decide +kernel)) | ((with_reducible apply wps_loada (T := 288) (k := 2) S 0); (case hx | hi => rfl); (case hk => exact Nat.le_of_ble_eq_true rfl); (case hT => decide +kernel))
            go_roundw
            case rel => exact ⟨k + 1, by omega, by go_num, by rw [← HS.out]; exact S.pick [1, 2] rfl⟩
            case measure => first | (simp [intOf]; done) | (simp [intOf]; omega)
          · obtain rfl : k = (SP).length := by omega
            rw [List.take_length, Nat.sub_self, List.replicate_zero, List.append_nil, ← HSP.out] at S
            have HLW : Hid ((wordsGo [] l).length = (SP).length) := Lib.hid (by rw [HSP.out, List.length_map])
            go_wp2_with first | ((with_reducible refine tot_done ?ht ?_); (case ht => kernel_rfl)) | ((with_reducible apply wps_alloca (E := 288) S); (case hz => exact Tryz.zeroValue288); clear S; intro bz wz S) | ((with_reducible apply wps_load S 0); (case hx | hi | hu => rfl); (case hT => decide +kernel)) | ((with_reducible apply wps_loada (T := 288) (k := 2) S 0); (case hx | hi => rfl); (case hk => exact Nat.le_of_ble_eq_true rfl); (case hT => decide +kernel))
            go_ret
            rw [HLW.out]
            exact ⟨_, _, rfl, S.pick [0] rfl⟩
end Go.Proofs.YtmjljoaakdocaaaGreatDoor
