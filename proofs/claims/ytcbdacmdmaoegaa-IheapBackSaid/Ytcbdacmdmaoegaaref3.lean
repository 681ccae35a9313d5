import Derived.Test.YtcbdacmdmaoegaaHe8
namespace Go.Proofs.Ytcbdacmdmaoegaa
open Go.RowKit Reg Mem

theorem less_calls (a b c d a' b' c' d' : Int) (w : World) :
    Calls Try.prog 39 #[.agg #[.int .i64 a, .int .i64 b, .int .i64 c, .int .i64 d], .agg #[.int .i64 a', .int .i64 b', .int .i64 c', .int .i64 d']] w fun e w' => e = .returned (.bool (Key.lt ⟨a, b, c, d⟩ ⟨a', b', c', d'⟩)) ∧ Below w.heap.size w w' := by
  have S := St.init (fun _ => False) w
  go_enter Try.func39, Try.ntmps39
  go_wp2_with first
    | ((with_reducible refine tot_done ?ht ?_); (case ht => kernel_rfl))
    | ((with_reducible apply wps_boxa S); (case hx => rfl); clear S; intro bz wz S)
    | ((with_reducible apply wps_box1 (v := .int _ _) S); (case hx => rfl); (case h1 => rfl); clear S; intro bz wz S)
    | ((with_reducible apply wps_box1 (v := .bool _) S); (case hx => rfl); (case h1 => rfl); clear S; intro bz wz S)
    | ((with_reducible apply wps_box1 (v := .slice _ _ _) S); (case hx => rfl); (case h1 => rfl); clear S; intro bz wz S)
    | ((with_reducible apply wps_box1 (v := .pointer _) S); (case hx => rfl); (case h1 => rfl); clear S; intro bz wz S)
    | ((with_reducible apply wps_box1 (v := .map _) S); (case hx => rfl); (case h1 => rfl); clear S; intro bz wz S)
    | ((with_reducible apply wps_box1 (v := .string _) S); (case hx => rfl); (case h1 => rfl); clear S; intro bz wz S)
    | ((with_reducible apply wps_box1 (v := .func _ _ _) S); (case hx => rfl); (case h1 => rfl); clear S; intro bz wz S)
    | ((with_reducible apply wps_load S 0); (case hx => rfl); (case hi => rfl); (case hT => decide +kernel); (case hu => rfl))
    | ((with_reducible apply wps_load S 1); (case hx => rfl); (case hi => rfl); (case hT => decide +kernel); (case hu => rfl))
    | ((with_reducible apply wps_load S 2); (case hx => rfl); (case hi => rfl); (case hT => decide +kernel); (case hu => rfl))
    | ((with_reducible apply wps_load S 3); (case hx => rfl); (case hi => rfl); (case hT => decide +kernel); (case hu => rfl))
  all_goals go_ret
  all_goals refine ⟨ret_bool ?_, S.below⟩
  · exact lt1 ‹_›
  · exact lt2 ‹_› ‹_›
  · exact lt3 ‹_› ‹_› ‹_›
  · exact lt4 ‹_› ‹_› ‹_›
/-- The reference's heap. -/
def refH (sh : Bool) (B : Nat) (ts : List Row) : Asn := exs sh fun v => sep sh (Blk sh B #[v] 42) (Sl sh Row.cells 5 v ts)
def rAt (ts : List Row) (k : Key) : Int := match ts.findIdx? (fun x => x.key = k) with | some i => (i : Int) | none => -1
theorem key_ceqs (k l : Key) : ceqs k.cells l.cells = decide (k = l) := by
  obtain ⟨a1, a2, a3, a4⟩ := k; obtain ⟨b1, b2, b3, b4⟩ := l
  simp only [Key.cells, ceqs, ceq, Bool.and_true, Key.mk.injEq]
  rw [Bool.eq_iff_iff]; simp
theorem rAt_at {ts : List Row} {k : Key} {j : Nat} {x : Row} (h : ts[j]? = some x) (hk : x.key = k) (hne : ∀ (q : Nat) r, q < j → ts[q]? = some r → r.key ≠ k) : rAt ts k = j := by
  obtain ⟨hl, he⟩ := List.getElem?_eq_some_iff.1 h
  have : ts.findIdx? (fun x => x.key = k) = some j := by
    rw [List.findIdx?_eq_some_iff_getElem]
    exact ⟨hl, by rw [he]; simpa using hk, fun q hq => by simpa using hne q _ hq (List.getElem?_eq_getElem (by omega))⟩
  simp [rAt, this]
theorem rAt_none {ts : List Row} {k : Key} (hne : ∀ (q : Nat) r, q < ts.length → ts[q]? = some r → r.key ≠ k) : rAt ts k = -1 := by
  have : ts.findIdx? (fun x => x.key = k) = none := by
    rw [List.findIdx?_eq_none_iff]
    intro x hx
    obtain ⟨q, hq, rfl⟩ := List.mem_iff_getElem.1 hx
    simpa using hne q _ hq (List.getElem?_eq_getElem hq)
  simp [rAt, this]
theorem rcells : ∀ r : Row, r.cells.length = 5 := fun _ => rfl
def AtRel (bk B : Nat) (kc : Array Value) (a : Option Addr) (c : Nat) (ts : List Row) (k : Key) (w : World) (i : Value) (wr : World) : Prop :=
  ∃ j : Nat, j ≤ ts.length ∧ i = .int .i64 j ∧ (∀ (q : Nat) r, q < j → ts[q]? = some r → r.key ≠ k) ∧ St (fun _ => False) w wr [Blk false bk kc 28, Blk true B #[.slice a ts.length c] 42, Sl true Row.cells 5 (.slice a ts.length c) ts]
set_option maxRecDepth 100000 in
theorem at_calls (B : Nat) (ts : List Row) (a b c d : Int) (w : World) (F : Nat → Prop) (h : (refH false B ts).at_ w F) (hn : ts.length ≤ 4294967296) :
    Calls Try.prog 41 #[.pointer (some ⟨B, 0, none⟩), .agg #[.int .i64 a, .int .i64 b, .int .i64 c, .int .i64 d]] w fun e w' => e = .returned (.int .i64 (rAt ts ⟨a, b, c, d⟩)) ∧ Below w.heap.size w w' := by
  have S : St (fun _ => False) w w [refH true B ts] := (St.init _ w).share rfl rfl h
  obtain ⟨v, S⟩ := S.open_exs (fun _ => rfl)
  replace S := S.open_sep rfl rfl
  obtain ⟨F1, hs⟩ := S.sl 1 rfl
  obtain ⟨ad, cp, rfl, _⟩ := hs.form
  clear hs
  go_enter Try.func41, Try.ntmps41
  go_wp2_with first
    | ((with_reducible refine tot_done ?ht ?_); (case ht => kernel_rfl))
    | ((with_reducible apply wps_text S); (case hm => kernel_rfl); (case hB => decide +kernel); clear S; intro wz S)
    | ((with_reducible apply wps_boxa S); (case hx => rfl); clear S; intro bz wz S)
    | ((with_reducible apply wps_box1 (v := .int _ _) S); (case hx => rfl); (case h1 => rfl); clear S; intro bz wz S)
    | ((with_reducible apply wps_box1 (v := .bool _) S); (case hx => rfl); (case h1 => rfl); clear S; intro bz wz S)
    | ((with_reducible apply wps_box1 (v := .slice _ _ _) S); (case hx => rfl); (case h1 => rfl); clear S; intro bz wz S)
    | ((with_reducible apply wps_box1 (v := .pointer _) S); (case hx => rfl); (case h1 => rfl); clear S; intro bz wz S)
    | ((with_reducible apply wps_box1 (v := .map _) S); (case hx => rfl); (case h1 => rfl); clear S; intro bz wz S)
    | ((with_reducible apply wps_box1 (v := .string _) S); (case hx => rfl); (case h1 => rfl); clear S; intro bz wz S)
    | ((with_reducible apply wps_box1 (v := .func _ _ _) S); (case hx => rfl); (case h1 => rfl); clear S; intro bz wz S)
    | ((with_reducible apply wps_load S 0); (case hx => rfl); (case hi => rfl); (case hT => decide +kernel); (case hu => rfl))
    | ((with_reducible apply wps_loada (T := 28) (k := 4) S 0); (case hx => rfl); (case hi => rfl); (case hT => decide +kernel); (case hk => exact Nat.le_of_ble_eq_true rfl))
    | ((with_reducible apply wps_load S 1); (case hx => rfl); (case hi => rfl); (case hT => decide +kernel); (case hu => rfl))
    | ((with_reducible apply wps_loada (T := 28) (k := 4) S 1); (case hx => rfl); (case hi => rfl); (case hT => decide +kernel); (case hk => exact Nat.le_of_ble_eq_true rfl))
    | ((with_reducible apply wps_load S 2); (case hx => rfl); (case hi => rfl); (case hT => decide +kernel); (case hu => rfl))
    | ((with_reducible apply wps_loada (T := 28) (k := 4) S 2); (case hx => rfl); (case hi => rfl); (case hT => decide +kernel); (case hk => exact Nat.le_of_ble_eq_true rfl))
    | ((with_reducible apply wps_load S 3); (case hx => rfl); (case hi => rfl); (case hT => decide +kernel); (case hu => rfl))
    | ((with_reducible apply wps_loada (T := 28) (k := 4) S 3); (case hx => rfl); (case hi => rfl); (case hT => decide +kernel); (case hk => exact Nat.le_of_ble_eq_true rfl))
  go_loopw [5] (fun i wr => AtRel bz B _ ad cp ts ⟨a, b, c, d⟩ w i wr) (fun i _ => ts.length - (intOf i).toNat)
  case atStart => exact ⟨0, Nat.zero_le _, rfl, fun q r h => by omega, S⟩
  case round =>
    clear S
    obtain ⟨j, hj, rfl, hne, S⟩ := hrel
    have Hne := Lib.hid hne
    clear hne
    by_cases hlt : j < ts.length
    · obtain ⟨x, hx⟩ : ∃ x, ts[j]? = some x := ⟨_, List.getElem?_eq_getElem hlt⟩
      obtain ⟨R, o, rfl⟩ : ∃ R o, ad = some ⟨R, o, none⟩ := (S.sl 2 rfl).elim fun F h => h.head (by omega)
      have Hx := Lib.hid hx
      clear hx
      have hlt2 : (j : Int) < ts.length := by omega
      by_cases hk : x.key = ⟨a, b, c, d⟩
      · have Hk := Lib.hid (show ceqs x.key.cells (Key.cells ⟨a, b, c, d⟩) = true by rw [key_ceqs]; simpa using hk)
        have Hk2 := Lib.hid hk
        clear hk
        go_wp2_with first
          | ((with_reducible apply wps_loada_el S 2 (hj := Hx.out) (q := 0) (vs := [.int .i64 x.key.at_, .int .i64 x.key.src, .int .i64 x.key.sent, .int .i64 x.key.no]) (m := 4)); (case hx => rfl); (case hT => decide +kernel); (case hi => rfl); (case hn => omega); (case hm => rfl); (case hv => rfl))
          | ((with_reducible apply wpList_eql_agg (t := 28) (ks := [.int .i64, .int .i64, .int .i64, .int .i64]) (b := true)); (case hx => rfl); (case hy => rfl); (case hl => kernel_rfl); (case ha => kernel_rfl); (case hg => kernel_rfl); (case hfx => rfl); (case hfy => rfl); (case hb => exact Hk.out))
          | ((with_reducible refine tot_done ?ht ?_); (case ht => kernel_rfl))
          | ((with_reducible apply wps_text S); (case hm => kernel_rfl); (case hB => decide +kernel); clear S; intro wz S)
          | ((with_reducible apply wps_load S 0); (case hx => rfl); (case hi => rfl); (case hT => decide +kernel); (case hu => rfl))
          | ((with_reducible apply wps_loada (T := 28) (k := 4) S 0); (case hx => rfl); (case hi => rfl); (case hT => decide +kernel); (case hk => exact Nat.le_of_ble_eq_true rfl))
          | ((with_reducible apply wps_load S 1); (case hx => rfl); (case hi => rfl); (case hT => decide +kernel); (case hu => rfl))
          | ((with_reducible apply wps_loada (T := 28) (k := 4) S 1); (case hx => rfl); (case hi => rfl); (case hT => decide +kernel); (case hk => exact Nat.le_of_ble_eq_true rfl))
          | ((with_reducible apply wps_load S 2); (case hx => rfl); (case hi => rfl); (case hT => decide +kernel); (case hu => rfl))
          | ((with_reducible apply wps_loada (T := 28) (k := 4) S 2); (case hx => rfl); (case hi => rfl); (case hT => decide +kernel); (case hk => exact Nat.le_of_ble_eq_true rfl))
          | ((with_reducible apply wps_load S 3); (case hx => rfl); (case hi => rfl); (case hT => decide +kernel); (case hu => rfl))
          | ((with_reducible apply wps_loada (T := 28) (k := 4) S 3); (case hx => rfl); (case hi => rfl); (case hT => decide +kernel); (case hk => exact Nat.le_of_ble_eq_true rfl))
        go_ret
        exact ⟨ret_int (rAt_at Hx.out Hk2.out Hne.out).symm, S.below⟩
      · have Hk := Lib.hid (show ceqs x.key.cells (Key.cells ⟨a, b, c, d⟩) = false by rw [key_ceqs]; simpa using hk)
        have Hk2 := Lib.hid hk
        clear hk
        go_wp2_with first
          | ((with_reducible apply wps_loada_el S 2 (hj := Hx.out) (q := 0) (vs := [.int .i64 x.key.at_, .int .i64 x.key.src, .int .i64 x.key.sent, .int .i64 x.key.no]) (m := 4)); (case hx => rfl); (case hT => decide +kernel); (case hi => rfl); (case hn => omega); (case hm => rfl); (case hv => rfl))
          | ((with_reducible apply wpList_eql_agg (t := 28) (ks := [.int .i64, .int .i64, .int .i64, .int .i64]) (b := false)); (case hx => rfl); (case hy => rfl); (case hl => kernel_rfl); (case ha => kernel_rfl); (case hg => kernel_rfl); (case hfx => rfl); (case hfy => rfl); (case hb => exact Hk.out))
          | ((with_reducible refine tot_done ?ht ?_); (case ht => kernel_rfl))
          | ((with_reducible apply wps_text S); (case hm => kernel_rfl); (case hB => decide +kernel); clear S; intro wz S)
          | ((with_reducible apply wps_load S 0); (case hx => rfl); (case hi => rfl); (case hT => decide +kernel); (case hu => rfl))
          | ((with_reducible apply wps_loada (T := 28) (k := 4) S 0); (case hx => rfl); (case hi => rfl); (case hT => decide +kernel); (case hk => exact Nat.le_of_ble_eq_true rfl))
          | ((with_reducible apply wps_load S 1); (case hx => rfl); (case hi => rfl); (case hT => decide +kernel); (case hu => rfl))
          | ((with_reducible apply wps_loada (T := 28) (k := 4) S 1); (case hx => rfl); (case hi => rfl); (case hT => decide +kernel); (case hk => exact Nat.le_of_ble_eq_true rfl))
          | ((with_reducible apply wps_load S 2); (case hx => rfl); (case hi => rfl); (case hT => decide +kernel); (case hu => rfl))
          | ((with_reducible apply wps_loada (T := 28) (k := 4) S 2); (case hx => rfl); (case hi => rfl); (case hT => decide +kernel); (case hk => exact Nat.le_of_ble_eq_true rfl))
          | ((with_reducible apply wps_load S 3); (case hx => rfl); (case hi => rfl); (case hT => decide +kernel); (case hu => rfl))
          | ((with_reducible apply wps_loada (T := 28) (k := 4) S 3); (case hx => rfl); (case hi => rfl); (case hT => decide +kernel); (case hk => exact Nat.le_of_ble_eq_true rfl))
        go_roundw
        case rel =>
          refine ⟨j + 1, by omega, by go_num, fun q r hq hr => ?_, S⟩
          by_cases e : q = j
          · subst e; rw [Hx.out] at hr; cases hr; exact Hk2.out
          · exact Hne.out q r (by omega) hr
        case measure => simp [intOf]; omega
    · obtain rfl : j = ts.length := by omega
      go_wp2_with first
        | ((with_reducible refine tot_done ?ht ?_); (case ht => kernel_rfl))
        | ((with_reducible apply wps_text S); (case hm => kernel_rfl); (case hB => decide +kernel); clear S; intro wz S)
        | ((with_reducible apply wps_load S 0); (case hx => rfl); (case hi => rfl); (case hT => decide +kernel); (case hu => rfl))
        | ((with_reducible apply wps_loada (T := 28) (k := 4) S 0); (case hx => rfl); (case hi => rfl); (case hT => decide +kernel); (case hk => exact Nat.le_of_ble_eq_true rfl))
        | ((with_reducible apply wps_load S 1); (case hx => rfl); (case hi => rfl); (case hT => decide +kernel); (case hu => rfl))
        | ((with_reducible apply wps_loada (T := 28) (k := 4) S 1); (case hx => rfl); (case hi => rfl); (case hT => decide +kernel); (case hk => exact Nat.le_of_ble_eq_true rfl))
        | ((with_reducible apply wps_load S 2); (case hx => rfl); (case hi => rfl); (case hT => decide +kernel); (case hu => rfl))
        | ((with_reducible apply wps_loada (T := 28) (k := 4) S 2); (case hx => rfl); (case hi => rfl); (case hT => decide +kernel); (case hk => exact Nat.le_of_ble_eq_true rfl))
        | ((with_reducible apply wps_load S 3); (case hx => rfl); (case hi => rfl); (case hT => decide +kernel); (case hu => rfl))
        | ((with_reducible apply wps_loada (T := 28) (k := 4) S 3); (case hx => rfl); (case hi => rfl); (case hT => decide +kernel); (case hk => exact Nat.le_of_ble_eq_true rfl))
      go_ret
      exact ⟨ret_int (rAt_none Hne.out).symm, S.below⟩
theorem rone : ∀ r : Row, ∀ u ∈ r.cells, u.oneCell' = true := fun _ => by simp [Row.cells, Value.oneCell']
set_option maxRecDepth 100000 in
theorem elem_Thing : Elem Try.prog 40 57 5 40 := ⟨_, .agg #[.int .i64 0, .int .i64 0, .int .i64 0, .int .i64 0, .int .i64 0], Try.underlying40, rfl, by kernel_rfl, by kernel_rfl, by kernel_rfl, by kernel_rfl, by omega⟩
theorem less_is (a b c d a' b' c' d' : Int) (w : World) {x : Bool} (h : Key.lt ⟨a, b, c, d⟩ ⟨a', b', c', d'⟩ = x) :
    Calls Try.prog 39 #[.agg #[.int .i64 a, .int .i64 b, .int .i64 c, .int .i64 d], .agg #[.int .i64 a', .int .i64 b', .int .i64 c', .int .i64 d']] w fun e w' => e = .returned (.bool x) ∧ Below w.heap.size w w' := by
  rw [← h]; exact less_calls _ _ _ _ _ _ _ _ _
def rins (ts : List Row) (r : Row) : List Row := ts.takeWhile (fun x => x.key.lt r.key) ++ r :: ts.dropWhile (fun x => x.key.lt r.key)
def rpush (ts : List Row) (r : Row) : Int × List Row := if r.key ∈ ts.map (·.key) then (13, ts) else (0, rins ts r)
def RPushRel (F : Nat → Prop) (bk B : Nat) (kc : Array Value) (ad : Option Addr) (c : Nat) (ts : List Row) (k : Key) (w : World) (out i : Value) (wr : World) : Prop :=
  ∃ j : Nat, j ≤ ts.length ∧ i = .int .i64 j ∧ (∀ (q : Nat) r, q < j → ts[q]? = some r → r.key.lt k = true) ∧
    St F w wr [Mem.Own 57 Row.cells 5 out (ts.take j), Blk false B #[.slice ad ts.length c] 42, Sl false Row.cells 5 (.slice ad ts.length c) ts, Blk false bk kc 28]
def RPushPost (F : Nat → Prop) (B : Nat) (ts : List Row) (r : Row) (w : World) (e : Ending) (w' : World) : Prop := e = .returned (.int .i64 (rpush ts r).1) ∧ St F w w' [refH false B (rpush ts r).2]
theorem take_snoc {α : Type} {s : List α} {k : Nat} {r : α} (hr : s[k]? = some r) : s.take (k + 1) = s.take k ++ [r] := by
  obtain ⟨h1, h2⟩ := List.getElem?_eq_some_iff.1 hr
  rw [← h2]
  exact (List.take_append_getElem h1).symm
theorem rins_at {ts : List Row} {r : Row} {j : Nat} (h : ∀ (q : Nat) x, q < j → ts[q]? = some x → x.key.lt r.key = true) (h2 : ∀ x, ts[j]? = some x → x.key.lt r.key = false) : rins ts r = ts.take j ++ r :: ts.drop j := by
  induction ts generalizing j with
  | nil => simp [rins]
  | cons a l ih =>
    cases j with
    | zero =>
      have := h2 a rfl
      simp [rins, this]
    | succ j =>
      have ha := h 0 a (by omega) rfl
      have := ih (j := j) (fun q x hq hx => h (q + 1) x (by omega) (by simpa using hx)) (fun x hx => h2 x (by simpa using hx))
      simp only [rins] at this ⊢
      simp [ha, this]
theorem rAt_neg {ts : List Row} {k : Key} (h : k ∉ ts.map (·.key)) : rAt ts k = -1 := rAt_none fun _ r _ hr e => h (List.mem_map.2 ⟨r, List.mem_of_getElem? hr, e⟩)
theorem rAt_pos {ts : List Row} {k : Key} (h : k ∈ ts.map (·.key)) : 0 ≤ rAt ts k := by
  unfold rAt
  cases hf : ts.findIdx? (fun x => x.key = k) with
  | some i => simp
  | none =>
    rw [List.findIdx?_eq_none_iff] at hf
    obtain ⟨r, hr, hk⟩ := List.mem_map.1 h
    have := hf r hr
    simp [hk] at this
set_option maxHeartbeats 2000000 in
set_option maxRecDepth 100000 in
theorem rpush_calls (B : Nat) (ts : List Row) (a b c d v : Int) (w : World) (F : Nat → Prop) (h : (refH false B ts).at_ w F) (hn : ts.length ≤ 65536) :
    Calls Try.prog 30 #[.pointer (some ⟨B, 0, none⟩), .agg #[.int .i64 a, .int .i64 b, .int .i64 c, .int .i64 d], .int .i64 v] w (RPushPost F B ts ⟨⟨a, b, c, d⟩, v⟩ w) := by
  have S := St.one w h
  by_cases hin : (⟨a, b, c, d⟩ : Key) ∈ ts.map (·.key)
  · have hp := rAt_pos hin
    have Hin := Lib.hid hin
    clear hin
    go_enter Try.func30, Try.ntmps30
    go_wp2_with first
      | go_skip
      | ((with_reducible refine wpList_skip ?hw ?_); (case hw => with_unfolding_all rfl); simp only [Act.put, List.setIfInBounds_toArray, List.set_cons_succ, List.set_cons_zero])
      | (go_at_call 41; refine Calls.mono (at_calls _ _ _ _ _ _ _ _ (S.get (i := 1) rfl).choose_spec (by omega)) ?_; rintro e wz ⟨rfl, hE⟩; replace S := S.ext (Keep.of_below hE); clear hE)
      | ((with_reducible refine tot_done ?ht ?_); (case ht => kernel_rfl))
      | ((with_reducible apply wps_text S); (case hm => kernel_rfl); (case hB => decide +kernel); clear S; intro wz S)
      | ((with_reducible apply wps_boxa S); (case hx => rfl); clear S; intro bz wz S)
      | ((with_reducible apply wps_box1 (v := .int _ _) S); (case hx => rfl); (case h1 => rfl); clear S; intro bz wz S)
      | ((with_reducible apply wps_box1 (v := .bool _) S); (case hx => rfl); (case h1 => rfl); clear S; intro bz wz S)
      | ((with_reducible apply wps_box1 (v := .slice _ _ _) S); (case hx => rfl); (case h1 => rfl); clear S; intro bz wz S)
      | ((with_reducible apply wps_box1 (v := .pointer _) S); (case hx => rfl); (case h1 => rfl); clear S; intro bz wz S)
      | ((with_reducible apply wps_box1 (v := .map _) S); (case hx => rfl); (case h1 => rfl); clear S; intro bz wz S)
      | ((with_reducible apply wps_box1 (v := .string _) S); (case hx => rfl); (case h1 => rfl); clear S; intro bz wz S)
      | ((with_reducible apply wps_box1 (v := .func _ _ _) S); (case hx => rfl); (case h1 => rfl); clear S; intro bz wz S)
      | ((with_reducible apply wps_load S 0); (case hx => rfl); (case hi => rfl); (case hT => decide +kernel); (case hu => rfl))
      | ((with_reducible apply wps_loada (T := 28) (k := 4) S 0); (case hx => rfl); (case hi => rfl); (case hT => decide +kernel); (case hk => exact Nat.le_of_ble_eq_true rfl))
      | ((with_reducible apply wps_loada (T := 57) (k := 5) S 0); (case hx => rfl); (case hi => rfl); (case hT => decide +kernel); (case hk => exact Nat.le_of_ble_eq_true rfl))
      | ((with_reducible apply wps_load S 1); (case hx => rfl); (case hi => rfl); (case hT => decide +kernel); (case hu => rfl))
      | ((with_reducible apply wps_loada (T := 28) (k := 4) S 1); (case hx => rfl); (case hi => rfl); (case hT => decide +kernel); (case hk => exact Nat.le_of_ble_eq_true rfl))
      | ((with_reducible apply wps_loada (T := 57) (k := 5) S 1); (case hx => rfl); (case hi => rfl); (case hT => decide +kernel); (case hk => exact Nat.le_of_ble_eq_true rfl))
      | ((with_reducible apply wps_load S 2); (case hx => rfl); (case hi => rfl); (case hT => decide +kernel); (case hu => rfl))
      | ((with_reducible apply wps_loada (T := 28) (k := 4) S 2); (case hx => rfl); (case hi => rfl); (case hT => decide +kernel); (case hk => exact Nat.le_of_ble_eq_true rfl))
      | ((with_reducible apply wps_loada (T := 57) (k := 5) S 2); (case hx => rfl); (case hi => rfl); (case hT => decide +kernel); (case hk => exact Nat.le_of_ble_eq_true rfl))
      | ((with_reducible apply wps_load S 3); (case hx => rfl); (case hi => rfl); (case hT => decide +kernel); (case hu => rfl))
      | ((with_reducible apply wps_loada (T := 28) (k := 4) S 3); (case hx => rfl); (case hi => rfl); (case hT => decide +kernel); (case hk => exact Nat.le_of_ble_eq_true rfl))
      | ((with_reducible apply wps_loada (T := 57) (k := 5) S 3); (case hx => rfl); (case hi => rfl); (case hT => decide +kernel); (case hk => exact Nat.le_of_ble_eq_true rfl))
    go_ret
    refine ⟨?_, ?_⟩
    · rw [rpush, if_pos Hin.out]; rfl
    · rw [rpush, if_pos Hin.out]; exact S.pick [1] rfl
  · have hp := rAt_neg hin
    have Hin := Lib.hid hin
    have Hp := Lib.hid hp
    clear hin hp
    go_enter Try.func30, Try.ntmps30
    go_wp2_with first
      | go_skip
      | ((with_reducible refine wpList_skip ?hw ?_); (case hw => with_unfolding_all rfl); simp only [Act.put, List.setIfInBounds_toArray, List.set_cons_succ, List.set_cons_zero])
      | (go_at_call 41; refine Calls.mono (at_calls _ _ _ _ _ _ _ _ (S.get (i := 1) rfl).choose_spec (by omega)) ?_; rintro e wz ⟨rfl, hE⟩; rw [Hp.out]; replace S := S.ext (Keep.of_below hE); clear hE)
      | ((with_reducible refine tot_done ?ht ?_); (case ht => kernel_rfl))
      | ((with_reducible apply wps_text S); (case hm => kernel_rfl); (case hB => decide +kernel); clear S; intro wz S)
      | ((with_reducible apply wps_boxa S); (case hx => rfl); clear S; intro bz wz S)
      | ((with_reducible apply wps_box1 (v := .int _ _) S); (case hx => rfl); (case h1 => rfl); clear S; intro bz wz S)
      | ((with_reducible apply wps_box1 (v := .bool _) S); (case hx => rfl); (case h1 => rfl); clear S; intro bz wz S)
      | ((with_reducible apply wps_box1 (v := .slice _ _ _) S); (case hx => rfl); (case h1 => rfl); clear S; intro bz wz S)
      | ((with_reducible apply wps_box1 (v := .pointer _) S); (case hx => rfl); (case h1 => rfl); clear S; intro bz wz S)
      | ((with_reducible apply wps_box1 (v := .map _) S); (case hx => rfl); (case h1 => rfl); clear S; intro bz wz S)
      | ((with_reducible apply wps_box1 (v := .string _) S); (case hx => rfl); (case h1 => rfl); clear S; intro bz wz S)
      | ((with_reducible apply wps_box1 (v := .func _ _ _) S); (case hx => rfl); (case h1 => rfl); clear S; intro bz wz S)
      | ((with_reducible apply wps_load S 0); (case hx => rfl); (case hi => rfl); (case hT => decide +kernel); (case hu => rfl))
      | ((with_reducible apply wps_loada (T := 28) (k := 4) S 0); (case hx => rfl); (case hi => rfl); (case hT => decide +kernel); (case hk => exact Nat.le_of_ble_eq_true rfl))
      | ((with_reducible apply wps_loada (T := 57) (k := 5) S 0); (case hx => rfl); (case hi => rfl); (case hT => decide +kernel); (case hk => exact Nat.le_of_ble_eq_true rfl))
      | ((with_reducible apply wps_load S 1); (case hx => rfl); (case hi => rfl); (case hT => decide +kernel); (case hu => rfl))
      | ((with_reducible apply wps_loada (T := 28) (k := 4) S 1); (case hx => rfl); (case hi => rfl); (case hT => decide +kernel); (case hk => exact Nat.le_of_ble_eq_true rfl))
      | ((with_reducible apply wps_loada (T := 57) (k := 5) S 1); (case hx => rfl); (case hi => rfl); (case hT => decide +kernel); (case hk => exact Nat.le_of_ble_eq_true rfl))
      | ((with_reducible apply wps_load S 2); (case hx => rfl); (case hi => rfl); (case hT => decide +kernel); (case hu => rfl))
      | ((with_reducible apply wps_loada (T := 28) (k := 4) S 2); (case hx => rfl); (case hi => rfl); (case hT => decide +kernel); (case hk => exact Nat.le_of_ble_eq_true rfl))
      | ((with_reducible apply wps_loada (T := 57) (k := 5) S 2); (case hx => rfl); (case hi => rfl); (case hT => decide +kernel); (case hk => exact Nat.le_of_ble_eq_true rfl))
      | ((with_reducible apply wps_load S 3); (case hx => rfl); (case hi => rfl); (case hT => decide +kernel); (case hu => rfl))
      | ((with_reducible apply wps_loada (T := 28) (k := 4) S 3); (case hx => rfl); (case hi => rfl); (case hT => decide +kernel); (case hk => exact Nat.le_of_ble_eq_true rfl))
      | ((with_reducible apply wps_loada (T := 57) (k := 5) S 3); (case hx => rfl); (case hi => rfl); (case hT => decide +kernel); (case hk => exact Nat.le_of_ble_eq_true rfl))
    replace S := S.pick [1, 0] rfl
    simp only [pick, nth] at S
    obtain ⟨v0, S⟩ := S.open_exs (fun _ => rfl)
    replace S := (S.open_sep rfl rfl).nil 57 Row.cells 5
    obtain ⟨ad, cp, rfl, _⟩ := (S.sl 2 rfl).elim fun _ h => h.form
    go_loopw [7, 8] (fun out i wr => RPushRel F bz B _ ad cp ts ⟨a, b, c, d⟩ w out i wr) (fun _ i _ => ts.length - (intOf i).toNat)
    case atStart => exact ⟨0, Nat.zero_le _, rfl, fun q r h => by omega, S⟩
    case round =>
      clear S
      rename_i out _
      obtain ⟨j, hj, rfl, hlt, S⟩ := hrel
      have Hlt := Lib.hid hlt
      clear hlt
      have hjl : (ts.take j).length ≤ 65536 := by rw [List.length_take]; omega
      by_cases hjn : j < ts.length
      · obtain ⟨x, hx⟩ : ∃ x, ts[j]? = some x := ⟨_, List.getElem?_eq_getElem hjn⟩
        obtain ⟨R, o, rfl⟩ : ∃ R o, ad = some ⟨R, o, none⟩ := (S.sl 2 rfl).elim fun F h => h.head (by omega)
        have Hx := Lib.hid hx
        clear hx
        have hjn2 : (j : Int) < ts.length := by omega
        cases hk : x.key.lt ⟨a, b, c, d⟩ with
        | true =>
          have Hk := Lib.hid hk
          clear hk
          go_wp2_with first
            | go_skip
            | ((with_reducible refine wpList_skip ?hw ?_); (case hw => with_unfolding_all rfl); simp only [Act.put, List.setIfInBounds_toArray, List.set_cons_succ, List.set_cons_zero])
            | ((with_reducible apply wps_loada_el S 2 (hj := Hx.out) (q := 0) (vs := [.int .i64 x.key.at_, .int .i64 x.key.src, .int .i64 x.key.sent, .int .i64 x.key.no, .int .i64 x.v]) (m := 5)); (case hx => rfl); (case hT => decide +kernel); (case hi => rfl); (case hn => omega); (case hm => rfl); (case hv => rfl))
            | ((with_reducible apply wps_loada_el S 2 (hj := Hx.out) (q := 0) (vs := [.int .i64 x.key.at_, .int .i64 x.key.src, .int .i64 x.key.sent, .int .i64 x.key.no]) (m := 4)); (case hx => rfl); (case hT => decide +kernel); (case hi => rfl); (case hn => omega); (case hm => rfl); (case hv => rfl))
            | (go_at_call 39; refine Calls.mono (less_is _ _ _ _ _ _ _ _ _ Hk.out) ?_; rintro e wz ⟨rfl, hE⟩; replace S := S.ext (Keep.of_below hE); clear hE)
            | ((with_reducible apply wps_build1a (T := 40) (E := 57) S); (case hx => rfl); (case hr => intro w; kernel_rfl); clear S; intro bz wz S)
            | ((with_reducible apply wps_append1 elem_Thing rcells rone (by decide) S 1 (j := 0) (e := x)); (case hx => rfl); (case hy => rfl); (case hi => rfl); (case hj => rfl); (case he => rfl); (case hl => first | omega | (simp; omega)); clear S; intro az nz cz wz hnz S; simp only [List.set_cons_succ, List.set_cons_zero] at S)
            | ((with_reducible refine tot_done ?ht ?_); (case ht => kernel_rfl))
            | ((with_reducible apply wps_text S); (case hm => kernel_rfl); (case hB => decide +kernel); clear S; intro wz S)
            | ((with_reducible apply wps_load S 0); (case hx => rfl); (case hi => rfl); (case hT => decide +kernel); (case hu => rfl))
            | ((with_reducible apply wps_loada (T := 28) (k := 4) S 0); (case hx => rfl); (case hi => rfl); (case hT => decide +kernel); (case hk => exact Nat.le_of_ble_eq_true rfl))
            | ((with_reducible apply wps_loada (T := 57) (k := 5) S 0); (case hx => rfl); (case hi => rfl); (case hT => decide +kernel); (case hk => exact Nat.le_of_ble_eq_true rfl))
            | ((with_reducible apply wps_load S 1); (case hx => rfl); (case hi => rfl); (case hT => decide +kernel); (case hu => rfl))
            | ((with_reducible apply wps_loada (T := 28) (k := 4) S 1); (case hx => rfl); (case hi => rfl); (case hT => decide +kernel); (case hk => exact Nat.le_of_ble_eq_true rfl))
            | ((with_reducible apply wps_loada (T := 57) (k := 5) S 1); (case hx => rfl); (case hi => rfl); (case hT => decide +kernel); (case hk => exact Nat.le_of_ble_eq_true rfl))
            | ((with_reducible apply wps_load S 2); (case hx => rfl); (case hi => rfl); (case hT => decide +kernel); (case hu => rfl))
            | ((with_reducible apply wps_loada (T := 28) (k := 4) S 2); (case hx => rfl); (case hi => rfl); (case hT => decide +kernel); (case hk => exact Nat.le_of_ble_eq_true rfl))
            | ((with_reducible apply wps_loada (T := 57) (k := 5) S 2); (case hx => rfl); (case hi => rfl); (case hT => decide +kernel); (case hk => exact Nat.le_of_ble_eq_true rfl))
            | ((with_reducible apply wps_load S 3); (case hx => rfl); (case hi => rfl); (case hT => decide +kernel); (case hu => rfl))
            | ((with_reducible apply wps_loada (T := 28) (k := 4) S 3); (case hx => rfl); (case hi => rfl); (case hT => decide +kernel); (case hk => exact Nat.le_of_ble_eq_true rfl))
            | ((with_reducible apply wps_loada (T := 57) (k := 5) S 3); (case hx => rfl); (case hi => rfl); (case hT => decide +kernel); (case hk => exact Nat.le_of_ble_eq_true rfl))
          go_roundw
          case rel =>
            refine ⟨j + 1, by omega, by go_num, fun q r hq hr => ?_, ?_⟩
            · by_cases e : q = j
              · subst e; rw [Hx.out] at hr; cases hr; exact Hk.out
              · exact Hlt.out q r (by omega) hr
            · rw [take_snoc Hx.out]; exact S.tail
          case measure => simp [intOf]; omega
        | false =>
          have hat := rins_at (ts := ts) (r := ⟨⟨a, b, c, d⟩, v⟩) Hlt.out (fun y hy => by rw [Hx.out] at hy; cases hy; exact hk)
          have Hk := Lib.hid hk
          have Hat := Lib.hid hat
          clear hk hat
          have hdl : (ts.drop j).length ≤ 65536 := by rw [List.length_drop]; omega
          go_wp2_with first
            | go_skip
            | ((with_reducible refine wpList_skip ?hw ?_); (case hw => with_unfolding_all rfl); simp only [Act.put, List.setIfInBounds_toArray, List.set_cons_succ, List.set_cons_zero])
            | ((with_reducible apply wps_loada_el S 2 (hj := Hx.out) (q := 0) (vs := [.int .i64 x.key.at_, .int .i64 x.key.src, .int .i64 x.key.sent, .int .i64 x.key.no, .int .i64 x.v]) (m := 5)); (case hx => rfl); (case hT => decide +kernel); (case hi => rfl); (case hn => omega); (case hm => rfl); (case hv => rfl))
            | ((with_reducible apply wps_loada_el S 2 (hj := Hx.out) (q := 0) (vs := [.int .i64 x.key.at_, .int .i64 x.key.src, .int .i64 x.key.sent, .int .i64 x.key.no]) (m := 4)); (case hx => rfl); (case hT => decide +kernel); (case hi => rfl); (case hn => omega); (case hm => rfl); (case hv => rfl))
            | (go_at_call 39; refine Calls.mono (less_is _ _ _ _ _ _ _ _ _ Hk.out) ?_; rintro e wz ⟨rfl, hE⟩; replace S := S.ext (Keep.of_below hE); clear hE)
            | ((with_reducible apply wps_build1a (T := 40) (E := 57) S); (case hx => rfl); (case hr => intro w; kernel_rfl); clear S; intro bz wz S)
            | ((with_reducible apply wps_append1 elem_Thing rcells rone (by decide) S 1 (j := 0) (e := ⟨⟨a,b,c,d⟩,v⟩)); (case hx => rfl); (case hy => rfl); (case hi => rfl); (case hj => rfl); (case he => rfl); (case hl => first | omega | (simp; omega)); clear S; intro az nz cz wz hnz S; simp only [List.set_cons_succ, List.set_cons_zero] at S)
            | ((with_reducible apply wps_slice' (E := 57) S 3 (l := j) (u := ts.length)); (case hx => rfl); (case hi => rfl); (case hT => exact Try.underlying40); (case hE => intro w; kernel_rfl); (case hlo => first | exact .inr rfl | exact .inl ⟨rfl, rfl⟩); (case hhi => first | exact .inr rfl | exact .inl ⟨rfl, rfl⟩); (case h1 => first | omega | (simp; omega)); (case h2 => first | omega | (simp; omega)); clear S; intro az nz cz hnz S; simp only [List.set_cons_succ, List.set_cons_zero] at S)
            | ((with_reducible apply wps_appends elem_Thing rcells rone (by decide) S 1 (j := 3)); (case hx => rfl); (case hy => rfl); (case hi => rfl); (case hj => rfl); (case hl => first | omega | (simp; omega)); clear S; intro az nz cz wz hnz S; simp only [List.set_cons_succ, List.set_cons_zero] at S)
            | ((with_reducible apply wps_store (u := (.slice az nz cz)) S 2); (case hx => rfl); (case hy => rfl); (case hi => rfl); (case hT => decide +kernel); (case h1 => rfl); (case hn => exact Nat.le_of_ble_eq_true rfl); clear S; intro wz S; simp only [List.set_cons_succ, List.set_cons_zero, List.setIfInBounds_toArray] at S)
            | ((with_reducible refine tot_done ?ht ?_); (case ht => kernel_rfl))
            | ((with_reducible apply wps_text S); (case hm => kernel_rfl); (case hB => decide +kernel); clear S; intro wz S)
            | ((with_reducible apply wps_load S 0); (case hx => rfl); (case hi => rfl); (case hT => decide +kernel); (case hu => rfl))
            | ((with_reducible apply wps_loada (T := 28) (k := 4) S 0); (case hx => rfl); (case hi => rfl); (case hT => decide +kernel); (case hk => exact Nat.le_of_ble_eq_true rfl))
            | ((with_reducible apply wps_loada (T := 57) (k := 5) S 0); (case hx => rfl); (case hi => rfl); (case hT => decide +kernel); (case hk => exact Nat.le_of_ble_eq_true rfl))
            | ((with_reducible apply wps_load S 1); (case hx => rfl); (case hi => rfl); (case hT => decide +kernel); (case hu => rfl))
            | ((with_reducible apply wps_loada (T := 28) (k := 4) S 1); (case hx => rfl); (case hi => rfl); (case hT => decide +kernel); (case hk => exact Nat.le_of_ble_eq_true rfl))
            | ((with_reducible apply wps_loada (T := 57) (k := 5) S 1); (case hx => rfl); (case hi => rfl); (case hT => decide +kernel); (case hk => exact Nat.le_of_ble_eq_true rfl))
            | ((with_reducible apply wps_load S 2); (case hx => rfl); (case hi => rfl); (case hT => decide +kernel); (case hu => rfl))
            | ((with_reducible apply wps_loada (T := 28) (k := 4) S 2); (case hx => rfl); (case hi => rfl); (case hT => decide +kernel); (case hk => exact Nat.le_of_ble_eq_true rfl))
            | ((with_reducible apply wps_loada (T := 57) (k := 5) S 2); (case hx => rfl); (case hi => rfl); (case hT => decide +kernel); (case hk => exact Nat.le_of_ble_eq_true rfl))
            | ((with_reducible apply wps_load S 3); (case hx => rfl); (case hi => rfl); (case hT => decide +kernel); (case hu => rfl))
            | ((with_reducible apply wps_loada (T := 28) (k := 4) S 3); (case hx => rfl); (case hi => rfl); (case hT => decide +kernel); (case hk => exact Nat.le_of_ble_eq_true rfl))
            | ((with_reducible apply wps_loada (T := 57) (k := 5) S 3); (case hx => rfl); (case hi => rfl); (case hT => decide +kernel); (case hk => exact Nat.le_of_ble_eq_true rfl))
          go_ret
          refine ⟨?_, ?_⟩
          · rw [rpush, if_neg Hin.out]; rfl
          · have S2 := S.pick [2, 1] rfl
            simp only [pick, nth] at S2
            replace S2 := ((S2.freeze false 1 rcells rfl).close_sep rfl rfl).close_exs (A := fun v => sep false (Blk false B #[v] 42) (Sl false Row.cells 5 v _)) _ rfl
            rw [rpush, if_neg Hin.out, Hat.out]
            simp only [List.take_length, List.append_assoc, List.singleton_append] at S2
            exact S2
      · obtain rfl : j = ts.length := by omega
        have hat := rins_at (ts := ts) (r := ⟨⟨a, b, c, d⟩, v⟩) Hlt.out (fun y hy => by simp at hy)
        have Hat := Lib.hid hat
        clear hat
        go_wp2_with first
          | go_skip
          | ((with_reducible refine wpList_skip ?hw ?_); (case hw => with_unfolding_all rfl); simp only [Act.put, List.setIfInBounds_toArray, List.set_cons_succ, List.set_cons_zero])
          | ((with_reducible apply wps_build1a (T := 40) (E := 57) S); (case hx => rfl); (case hr => intro w; kernel_rfl); clear S; intro bz wz S)
          | ((with_reducible apply wps_append1 elem_Thing rcells rone (by decide) S 1 (j := 0) (e := ⟨⟨a,b,c,d⟩,v⟩)); (case hx => rfl); (case hy => rfl); (case hi => rfl); (case hj => rfl); (case he => rfl); (case hl => first | omega | (simp; omega)); clear S; intro az nz cz wz hnz S; simp only [List.set_cons_succ, List.set_cons_zero] at S)
          | ((with_reducible apply wps_slice' (E := 57) S 3 (l := ts.length) (u := ts.length)); (case hx => rfl); (case hi => rfl); (case hT => exact Try.underlying40); (case hE => intro w; kernel_rfl); (case hlo => first | exact .inr rfl | exact .inl ⟨rfl, rfl⟩); (case hhi => first | exact .inr rfl | exact .inl ⟨rfl, rfl⟩); (case h1 => first | omega | (simp; omega)); (case h2 => first | omega | (simp; omega)); clear S; intro az nz cz hnz S; simp only [List.set_cons_succ, List.set_cons_zero] at S)
          | ((with_reducible apply wps_appends elem_Thing rcells rone (by decide) S 1 (j := 3)); (case hx => rfl); (case hy => rfl); (case hi => rfl); (case hj => rfl); (case hl => first | omega | (simp; omega)); clear S; intro az nz cz wz hnz S; simp only [List.set_cons_succ, List.set_cons_zero] at S)
          | ((with_reducible apply wps_store (u := (.slice az nz cz)) S 2); (case hx => rfl); (case hy => rfl); (case hi => rfl); (case hT => decide +kernel); (case h1 => rfl); (case hn => exact Nat.le_of_ble_eq_true rfl); clear S; intro wz S; simp only [List.set_cons_succ, List.set_cons_zero, List.setIfInBounds_toArray] at S)
          | ((with_reducible refine tot_done ?ht ?_); (case ht => kernel_rfl))
          | ((with_reducible apply wps_text S); (case hm => kernel_rfl); (case hB => decide +kernel); clear S; intro wz S)
          | ((with_reducible apply wps_load S 0); (case hx => rfl); (case hi => rfl); (case hT => decide +kernel); (case hu => rfl))
          | ((with_reducible apply wps_loada (T := 28) (k := 4) S 0); (case hx => rfl); (case hi => rfl); (case hT => decide +kernel); (case hk => exact Nat.le_of_ble_eq_true rfl))
          | ((with_reducible apply wps_loada (T := 57) (k := 5) S 0); (case hx => rfl); (case hi => rfl); (case hT => decide +kernel); (case hk => exact Nat.le_of_ble_eq_true rfl))
          | ((with_reducible apply wps_load S 1); (case hx => rfl); (case hi => rfl); (case hT => decide +kernel); (case hu => rfl))
          | ((with_reducible apply wps_loada (T := 28) (k := 4) S 1); (case hx => rfl); (case hi => rfl); (case hT => decide +kernel); (case hk => exact Nat.le_of_ble_eq_true rfl))
          | ((with_reducible apply wps_loada (T := 57) (k := 5) S 1); (case hx => rfl); (case hi => rfl); (case hT => decide +kernel); (case hk => exact Nat.le_of_ble_eq_true rfl))
          | ((with_reducible apply wps_load S 2); (case hx => rfl); (case hi => rfl); (case hT => decide +kernel); (case hu => rfl))
          | ((with_reducible apply wps_loada (T := 28) (k := 4) S 2); (case hx => rfl); (case hi => rfl); (case hT => decide +kernel); (case hk => exact Nat.le_of_ble_eq_true rfl))
          | ((with_reducible apply wps_loada (T := 57) (k := 5) S 2); (case hx => rfl); (case hi => rfl); (case hT => decide +kernel); (case hk => exact Nat.le_of_ble_eq_true rfl))
          | ((with_reducible apply wps_load S 3); (case hx => rfl); (case hi => rfl); (case hT => decide +kernel); (case hu => rfl))
          | ((with_reducible apply wps_loada (T := 28) (k := 4) S 3); (case hx => rfl); (case hi => rfl); (case hT => decide +kernel); (case hk => exact Nat.le_of_ble_eq_true rfl))
          | ((with_reducible apply wps_loada (T := 57) (k := 5) S 3); (case hx => rfl); (case hi => rfl); (case hT => decide +kernel); (case hk => exact Nat.le_of_ble_eq_true rfl))
        go_ret
        refine ⟨?_, ?_⟩
        · rw [rpush, if_neg Hin.out]; rfl
        · have S2 := S.pick [2, 1] rfl
          simp only [pick, nth] at S2
          replace S2 := ((S2.freeze false 1 rcells rfl).close_sep rfl rfl).close_exs (A := fun v => sep false (Blk false B #[v] 42) (Sl false Row.cells 5 v _)) _ rfl
          rw [rpush, if_neg Hin.out, Hat.out]
          simp only [List.take_length, List.append_assoc, List.singleton_append] at S2
          simp only [List.take_length]
          exact S2
end Go.Proofs.Ytcbdacmdmaoegaa
