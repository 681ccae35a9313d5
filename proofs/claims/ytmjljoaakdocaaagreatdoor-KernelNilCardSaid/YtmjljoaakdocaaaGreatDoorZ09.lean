import Derived.Test.YtmjljoaakdocaaaGreatDoorZ06
import Derived.Test.YtmjljoaakdocaaaGreatDoorZ10
import Derived.Test.YtmjljoaakdocaaaGreatDoorZ04
import Derived.Maps.RangeRun
import Derived.Laws.IdiomRangeMap
/- The walks of slices.Delete and IndexFunc of packets; of the net's Take. -/
namespace Go.Proofs.YtmjljoaakdocaaaGreatDoor
open Go Go.RowKit Reg Mem

def pkz : PkE := ⟨0, 0, 0, ⟨0, ⟨⟨⟨0, 0, 0, 0⟩, 0, 0, 0⟩, false⟩, 0, 0⟩⟩
set_option maxRecDepth 100000 in
set_option maxRecDepth 100000 in
theorem zero_Pk : zeroIs Tryz.prog 100 14 (pkcell pkz) := ⟨_, .agg #[.int .i64 0, .int .i64 0, .int .i64 0, .int .i64 0, .int .i64 0, .int .i64 0, .int .i64 0, .int .i64 0, .int .i64 0, .int .i64 0, .int .i64 0, .bool false, .int .i64 0, .int .i64 0], rfl, by kernel_rfl, by kernel_rfl, rfl, by decide⟩
theorem sizePk (w : World) : (sizeOf 100).run Tryz.prog w = .ok 14 w := by kernel_rfl
def DelPPost (l : List PkE) (F : Nat → Prop) (w : World) (e : Ending) (w' : World) : Prop :=
  ∃ ad c, e = .returned (.slice ad l.length c) ∧ St F w w' [Mem.Own 100 pkcell 14 (.slice ad l.length c) l]
theorem own_fits {α : Type} {E : TypeId} {enc : α → List Value} {k : Nat} {v : Value} {l : List α} {G : Nat → Prop} {w0 w : World} {L : List Asn} (i : Nat) (S : St G w0 w L) (hi : L[i]? = some (Mem.Own E enc k v l)) : ∃ ad c, v = .slice ad l.length c ∧ l.length ≤ c ∧ (0 < l.length → ∃ R, ad = some ⟨R, 0, none⟩) := by
  obtain ⟨F1, h1⟩ := S.get hi
  obtain ⟨a, c, e1⟩ := h1.1.form
  refine ⟨a, c, e1, ?_, fun h0 => ?_⟩
  · rcases h1.1.2 with ⟨h2, h3⟩ | ⟨g, cap, cur, h2, _, _, h4, _⟩
    · rw [e1] at h2; simp only [Value.slice.injEq] at h2; omega
    · rw [e1] at h2; simp only [Value.slice.injEq] at h2; omega
  · obtain ⟨R, c2, e2⟩ := own_hdE i S hi h0
    rw [e1] at e2
    simp only [Value.slice.injEq] at e2
    exact ⟨R, e2.1⟩
set_option maxRecDepth 100000 in
set_option maxHeartbeats 8000000 in
theorem delp_calls (v : Value) (l : List PkE) (i j : Nat) (w : World) (F : Nat → Prop) (S0 : St F w w [Mem.Own 100 pkcell 14 v l]) (hij : i ≤ j) (hj : j ≤ l.length) (hn : l.length ≤ 1000000) :
    Calls Tryz.prog 171 #[v, .int .i64 i, .int .i64 j] w (DelPPost (l.take i ++ l.drop j) F w) := by
  have S := S0
  clear S0
  obtain ⟨ad, c, rfl, hlc, hR⟩ := own_fits 0 S rfl
  have hn2 : (l.length : Int) ≤ 1000000 := by omega
  rcases Nat.lt_or_eq_of_le hij with hlt | rfl
  · obtain ⟨R, rfl⟩ := hR (by omega)
    clear hR
    have hne : ((i : Int) == j) = false := by simp; omega
    have hne2 : (i == j) = false := by simp; omega
    obtain ⟨m, hm⟩ : ∃ m, m = i + (l.length - j) := ⟨_, rfl⟩
    have hmi : (m : Int) ≤ l.length := by omega
    have HLL : Hid ((l.take i ++ l.drop j).length = m) := Lib.hid (by rw [List.length_append, List.length_take, List.length_drop, hm, Nat.min_eq_left (by omega)])
    have HTK : Hid ((l.take i ++ l.drop j ++ l.drop m).take m = l.take i ++ l.drop j) := Lib.hid (List.take_left' HLL.out)
    rcases Nat.lt_or_eq_of_le hj with hjl | rfl
    · obtain ⟨cur, hcs, -, -, hcm, hct, S2⟩ := S.raw 0 rfl
      clear S
      have S := S2
      clear S2
      simp only [List.set_cons_zero] at S
      obtain ⟨us, hus⟩ : ∃ us, flatE pkcell (l.drop j) = us := ⟨_, rfl⟩
      have HUL : Hid (us.length = (l.length - j) * 14) := Lib.hid (by rw [← hus, flatE_length pkcells, List.length_drop])
      have HUS : Hid (∀ (q : Nat) v, us[q]? = some v → cur[j * 14 + q]? = some v) := Lib.hid fun q v h => flat_src pkcells hct q v (by rw [hus]; exact h)
      have HU1 : Hid (∀ v ∈ us, v.oneCell' = true) := Lib.hid (by rw [← hus]; exact flat_ones pkone)
      have HEND := Lib.hid (splice_del (n := l.length) (i := i) (j := j) pkcells rfl hij hj (by omega) hct)
      rw [hus, ← hm] at HEND
      have HFIT : Hid (i * 14 + us.length ≤ cur.size) := Lib.hid (by rw [HUL.out]; omega)
      have HL3 : Hid (l.length = (l.take i ++ l.drop j ++ l.drop m).length) := Lib.hid (by rw [List.length_append, HLL.out, List.length_drop]; omega)
      have hml : m < l.length := by omega
      have HM := Lib.hid hm
      have HRM : Hid (i + (l.length - j) ≤ c) := Lib.hid (by omega)
      have Hcs := Lib.hid hcs
      have Hcm := Lib.hid hcm
      have Hct := Lib.hid hct
      have Hus := Lib.hid hus
      clear hcs hcm hct hus
      clear hm
      go_enter Tryz.func171, Tryz.ntmps171
      go_wp2_with first | ((with_reducible apply wps_sl3 Tryz.underlying145 sizePk (n := l.length) (c := c) (l := i) (u := j) (m := l.length)); (case hx | hlo | hhi | hmx => rfl); (case h1 | h2 => omega); (case h3 => exact hlc); intro vz) | ((with_reducible apply wps_slv Tryz.underlying145 sizePk (n := l.length) (c := c) (l := 0) (u := i)); (case hx => rfl); (case hlo => exact .inl ⟨rfl, rfl⟩); (case hhi => exact .inr rfl); (case h1 | h2 | h3 => omega)) | ((with_reducible apply wps_slv Tryz.underlying145 sizePk (n := l.length) (c := c) (l := j) (u := l.length)); (case hx => rfl); (case hlo => exact .inr rfl); (case hhi => exact .inl ⟨rfl, rfl⟩); (case h1 => omega); (case h2 => exact hlc); (case h3 => omega)) | ((with_reducible apply wps_appendin elem_Pk S 0 rfl us m (u := i) (m := l.length - j) (o2 := j * 14) (c := c)); (case hx | hy => rfl); (case hn => exact HUL.out); (case hsrc => exact HUS.out); (case hnn => exact HM.out); (case hroom => exact HRM.out); (case hfit => exact HFIT.out); (case h1 => exact HU1.out); clear S; intro wz S; simp only [List.set_cons_zero] at S; replace S := S.unraw (n := l.length) (c := c) (xs := l.take i ++ l.drop j ++ l.drop m) pkcells 0 rfl (by rw [HEND.out.2]; exact Hcs.out) HL3.out hlc Hcm.out HEND.out.1; simp only [List.set_cons_zero] at S) | ((with_reducible apply wps_slv Tryz.underlying145 sizePk (n := m) (c := c) (l := m) (u := l.length)); (case hx => rfl); (case hlo | hhi => exact .inr rfl); (case h1 => omega); (case h2 => exact hlc); (case h3 => omega)) | ((with_reducible apply wps_clearTail elem_Pk pkcells pkone pkz zero_Pk S 0 (o := m * 14) (m := m) (q := l.length - m)); (case hx | hi | ho => rfl); (case hm => rw [← HL3.out]; omega); (case h0 => omega); clear S; intro wz S; simp only [List.set_cons_zero] at S) | ((with_reducible refine tot_done ?ht ?_); (case ht => kernel_rfl)) | ((with_reducible apply wps_text S); (case hm => kernel_rfl); (case hB => decide +kernel); clear S; intro wz S)
      go_ret
      replace S := S.cutOwn pkcells 0 rfl m (by rw [List.length_append, HTK.out, HLL.out]; omega)
      rw [HTK.out, List.take_left' HLL.out] at S
      exact ⟨some ⟨R, 0, none⟩, c, by rw [HLL.out]; rfl, by rw [HLL.out]; exact S.pick [0] rfl⟩
    · rw [List.drop_length, List.append_nil]
      obtain rfl : m = i := by omega
      have HTL : Hid ((l.take m).length = m) := Lib.hid (by rw [List.length_take]; omega)
      have HTT : Hid (((l.take m ++ List.replicate (l.length - m) pkz).take m) = l.take m) := Lib.hid (List.take_left' HTL.out)
      clear HTK HLL hm
      go_enter Tryz.func171, Tryz.ntmps171
      go_wp2_with first | ((with_reducible apply wps_sl3 Tryz.underlying145 sizePk (n := l.length) (c := c) (l := m) (u := l.length) (m := l.length)); (case hx | hlo | hhi | hmx => rfl); (case h1 | h2 => omega); (case h3 => exact hlc); intro vz) | ((with_reducible apply wps_slv Tryz.underlying145 sizePk (n := l.length) (c := c) (l := 0) (u := m)); (case hx => rfl); (case hlo => exact .inl ⟨rfl, rfl⟩); (case hhi => exact .inr rfl); (case h1 | h2 | h3 => omega)) | ((with_reducible apply wps_slany Tryz.underlying145 sizePk (n := l.length) (c := c) (l := l.length) (u := l.length)); (case hx => rfl); (case hlo => exact .inr rfl); (case hhi => exact .inl ⟨rfl, rfl⟩); (case h1 => omega); (case h2 => exact hlc); intro adz) | ((with_reducible apply wps_append0 elem_Pk (u := m) (c := c)); (case hx | hy => rfl); (case hm => exact Nat.sub_self _); (case hroom => omega)) | ((with_reducible apply wps_slv Tryz.underlying145 sizePk (n := m) (c := c) (l := m) (u := l.length)); (case hx => rfl); (case hlo | hhi => exact .inr rfl); (case h1 => omega); (case h2 => exact hlc); (case h3 => omega)) | ((with_reducible apply wps_clearTail elem_Pk pkcells pkone pkz zero_Pk S 0 (o := m * 14) (m := m) (q := l.length - m)); (case hx | hi | ho => rfl); (case hm | h0 => omega); clear S; intro wz S; simp only [List.set_cons_zero] at S) | ((with_reducible refine tot_done ?ht ?_); (case ht => kernel_rfl)) | ((with_reducible apply wps_text S); (case hm => kernel_rfl); (case hB => decide +kernel); clear S; intro wz S)
      go_ret
      replace S := S.cutOwn pkcells 0 rfl m (by rw [List.length_append, HTL.out]; omega)
      rw [HTT.out] at S
      exact ⟨some ⟨R, 0, none⟩, c, by rw [HTL.out]; rfl, by rw [HTL.out]; exact S.pick [0] rfl⟩
  · clear hR
    rw [List.take_append_drop]
    have hil : (i : Int) ≤ l.length := by omega
    go_enter Tryz.func171, Tryz.ntmps171
    go_wp2_with first | ((with_reducible apply wps_sl3 Tryz.underlying145 sizePk (n := l.length) (c := c) (l := i) (u := i) (m := l.length)); (case hx | hlo | hhi | hmx => rfl); (case h1 | h2 => omega); (case h3 => exact hlc); intro vz)
    go_ret
    exact ⟨ad, c, rfl, S.pick [0] rfl⟩
set_option maxRecDepth 100000 in
theorem take1_calls (b3 : Nat) (no : Int) (x : PkE) (w : World) (F : Nat → Prop) (h : (Blk true b3 #[.int .i64 no] 3).at_ w F) :
    Calls Tryz.prog 170 #[.agg #[.int .i64 x.no, .int .i64 x.from_, .int .i64 x.to_, .int .i64 x.x.kind, .int .i64 x.x.m.ev.key.at_, .int .i64 x.x.m.ev.key.src, .int .i64 x.x.m.ev.key.sent, .int .i64 x.x.m.ev.key.no, .int .i64 x.x.m.ev.dst, .int .i64 x.x.m.ev.kind, .int .i64 x.x.m.ev.data, .bool x.x.m.anti, .int .i64 x.x.no, .int .i64 x.x.at_], .pointer (some ⟨b3, 0, none⟩)] w fun e w' => e = .returned (.bool (x.no == no)) ∧ Below w.heap.size w w' := by
  have S : St (fun _ => False) w w [Blk true b3 #[.int .i64 no] 3] := (St.init _ w).share rfl rfl h
  clear h
  go_enter Tryz.func170, Tryz.ntmps170
  go_wp2_with first | ((with_reducible apply wps_boxa (E := 100) S); (case hx => rfl); clear S; intro b2 wz S) | ((with_reducible apply wps_load S 0); (case hx | hi | hu => rfl); (case hT => decide +kernel)) | ((with_reducible apply wps_load S 1); (case hx | hi | hu => rfl); (case hT => decide +kernel))
  go_ret
  exact ⟨rfl, S.below⟩
def IxRel (L : List Asn) (l : List PkE) (i : Nat) (w : World) (iv : Value) (wr : World) : Prop :=
  ∃ j : Nat, j ≤ i ∧ iv = .int .i64 j ∧ St (fun _ => False) w wr L
set_option maxRecDepth 100000 in
set_option maxHeartbeats 8000000 in
theorem idxp_calls (b3 : Nat) (v : Value) (l : List PkE) (i : Nat) (x : PkE) (hx : l[i]? = some x) (hfi : ∀ (q : Nat) y, q < i → l[q]? = some y → y.no ≠ x.no) (w : World) (F F2 : Nat → Prop) (h : (Sl true pkcell 14 v l).at_ w F) (h2 : (Blk true b3 #[.int .i64 x.no] 3).at_ w F2) (hn : l.length ≤ 1000000) :
    Calls Tryz.prog 169 #[v, .func (.func 170) #[] #[.pointer (some ⟨b3, 0, none⟩)]] w fun e w' => e = .returned (.int .i64 i) ∧ Below w.heap.size w w' := by
  have S : St (fun _ => False) w w [Sl true pkcell 14 v l, Blk true b3 #[.int .i64 x.no] 3] := ((St.init _ w).share rfl rfl h2).share (A := Sl true pkcell 14 v l) rfl rfl h
  clear h h2
  obtain ⟨ad, c, rfl, _⟩ := (S.sl 0 rfl).elim fun _ h => h.form
  have hil : i < l.length := (List.getElem?_eq_some_iff.1 hx).1
  obtain ⟨R, o, rfl⟩ : ∃ R o, ad = some ⟨R, o, none⟩ := (S.sl 0 rfl).elim fun F h => h.head (by omega)
  have hn2 : (l.length : Int) ≤ 1000000 := by omega
  have HX := Lib.hid hx
  have HF := Lib.hid hfi
  clear hx hfi
  go_enter Tryz.func169, Tryz.ntmps169
  go_wp2_with first | ((with_reducible apply wps_loada (T := 100) (k := 14) S 0); (case hx | hi => rfl); (case hk => exact Nat.le_of_ble_eq_true rfl); (case hT => decide +kernel))
  go_loopw [8] (fun iv wr => IxRel [Sl true pkcell 14 (.slice (some ⟨R, o, none⟩) l.length c) l, Blk true b3 #[.int .i64 x.no] 3] l i w iv wr) (fun iv _ => l.length - (intOf iv).toNat)
  case atStart => exact ⟨0, Nat.zero_le _, rfl, S⟩
  case round =>
    clear S
    obtain ⟨j, hj, rfl, S⟩ := hrel
    obtain ⟨y, hy⟩ : ∃ y, l[j]? = some y := ⟨_, List.getElem?_eq_getElem (by omega)⟩
    have hlt2 : (j : Int) < l.length := by omega
    have HY := Lib.hid hy
    have HH := Lib.hid fun w F h => take1_calls b3 x.no y w F h
    rcases Nat.lt_or_eq_of_le hj with hji | rfl
    · have hne : (y.no == x.no) = false := by simpa using HF.out j y hji hy
      rw [hne] at HH
      clear hy hne
      go_wp2_with first | ((with_reducible apply wps_loada_el S 0 (hj := HY.out) (q := 0) (vs := [.int .i64 y.no, .int .i64 y.from_, .int .i64 y.to_, .int .i64 y.x.kind, .int .i64 y.x.m.ev.key.at_, .int .i64 y.x.m.ev.key.src, .int .i64 y.x.m.ev.key.sent, .int .i64 y.x.m.ev.key.no, .int .i64 y.x.m.ev.dst, .int .i64 y.x.m.ev.kind, .int .i64 y.x.m.ev.data, .bool y.x.m.anti, .int .i64 y.x.no, .int .i64 y.x.at_]) (m := 14)); (case hx | hi => rfl); (case hn => omega); (case hm | hv => rfl); (case hT => decide +kernel)) | (go_at_call 170; refine Calls.mono (HH.out _ _ (S.get (i := 1) rfl).choose_spec) ?_; rintro e wz ⟨rfl, hE⟩; replace S := S.ext (Keep.of_below hE); clear hE)
      go_roundw
      case rel => exact ⟨j + 1, by omega, by go_num, S⟩
      case measure => first | (simp [intOf]; done) | (simp [intOf]; omega)
    · obtain rfl : y = x := by have := HX.out; rw [hy] at this; exact Option.some.inj this
      have hne : (y.no == y.no) = true := by simp
      rw [hne] at HH
      clear hy hne
      go_wp2_with first | ((with_reducible apply wps_loada_el S 0 (hj := HY.out) (q := 0) (vs := [.int .i64 y.no, .int .i64 y.from_, .int .i64 y.to_, .int .i64 y.x.kind, .int .i64 y.x.m.ev.key.at_, .int .i64 y.x.m.ev.key.src, .int .i64 y.x.m.ev.key.sent, .int .i64 y.x.m.ev.key.no, .int .i64 y.x.m.ev.dst, .int .i64 y.x.m.ev.kind, .int .i64 y.x.m.ev.data, .bool y.x.m.anti, .int .i64 y.x.no, .int .i64 y.x.at_]) (m := 14)); (case hx | hi => rfl); (case hn => omega); (case hm | hv => rfl); (case hT => decide +kernel)) | (go_at_call 170; refine Calls.mono (HH.out _ _ (S.get (i := 1) rfl).choose_spec) ?_; rintro e wz ⟨rfl, hE⟩; replace S := S.ext (Keep.of_below hE); clear hE)
      go_ret
      exact ⟨rfl, S.below⟩
set_option maxRecDepth 100000 in
set_option maxHeartbeats 8000000 in
theorem nettake_calls (X : Nat) (n : NetE) (i : Nat) (x : PkE) (wy : List PkE) (hx : n.way[i]? = some x) (hfi : ∀ (q : Nat) y, q < i → n.way[q]? = some y → y.no ≠ x.no) (hwy : n.way.take i ++ n.way.drop (i + 1) = wy) (hn : n.way.length ≤ 1000000) (w : World) (F : Nat → Prop) (S0 : St F w w [netA X n]) :
    Calls Tryz.prog 129 #[.pointer (some ⟨X, 0, none⟩), .int .i64 x.no] w fun e w' => e = .returned (.tuple #[.agg #[.int .i64 x.no, .int .i64 x.from_, .int .i64 x.to_, .int .i64 x.x.kind, .int .i64 x.x.m.ev.key.at_, .int .i64 x.x.m.ev.key.src, .int .i64 x.x.m.ev.key.sent, .int .i64 x.x.m.ev.key.no, .int .i64 x.x.m.ev.dst, .int .i64 x.x.m.ev.kind, .int .i64 x.x.m.ev.data, .bool x.x.m.anti, .int .i64 x.x.no, .int .i64 x.x.at_], .int .i64 0]) ∧ St F w w' [netA X ⟨n.boxes, n.next, wy⟩] := by
  obtain ⟨v, S⟩ := net_open S0
  clear S0
  have hil : i < n.way.length := (List.getElem?_eq_some_iff.1 hx).1
  have HI := Lib.hid fun b3 v w F F2 h h2 => idxp_calls b3 v n.way i x hx hfi w F F2 h h2 hn
  have HD := Lib.hid fun v w F S0 => delp_calls v n.way i (i + 1) w F S0 (by omega) (by omega) hn
  rw [hwy, show ((i + 1 : Nat) : Int) = (i : Int) + 1 from by omega] at HD
  have HX := Lib.hid hx
  have hi2 : (i : Int) < n.way.length := by omega
  have hi3 : (i : Int) < 1000000 := by omega
  have hi4 : decide ((i : Int) < 0) = false := decide_eq_false (by omega)
  clear hx hfi hwy
  obtain ⟨ad, c, rfl, _, hR⟩ := own_fits 1 S rfl
  obtain ⟨R, rfl⟩ := hR (by omega)
  clear hR
  go_enter Tryz.func129, Tryz.ntmps129
  go_wp2_with first | ((with_reducible apply wps_box1 (v := .int _ x.no) S); (case hx | h1 => rfl); clear S; intro b3 wz S) | ((with_reducible apply wps_alloca (E := 100) S); (case hz => exact Tryz.zeroValue100); clear S; intro b4 wz S) | ((with_reducible apply wps_load S 2); (case hx | hi | hu => rfl); (case hT => decide +kernel)) | (go_at_call 169; refine Calls.mono (HI.out b3 _ _ _ _ (own_sl (sh := true) pkcells (S.get (i := 3) rfl).choose_spec) (S.get (i := 1) rfl).choose_spec) ?_; rintro e wz ⟨rfl, hE⟩; replace S := S.ext (Keep.of_below hE); clear hE) | ((with_reducible apply wps_loada_own pkcells S 3 (hj := HX.out) (q := 0) (vs := [.int .i64 x.no, .int .i64 x.from_, .int .i64 x.to_, .int .i64 x.x.kind, .int .i64 x.x.m.ev.key.at_, .int .i64 x.x.m.ev.key.src, .int .i64 x.x.m.ev.key.sent, .int .i64 x.x.m.ev.key.no, .int .i64 x.x.m.ev.dst, .int .i64 x.x.m.ev.kind, .int .i64 x.x.m.ev.data, .bool x.x.m.anti, .int .i64 x.x.no, .int .i64 x.x.at_]) (m := 14)); (case hx | hi => rfl); (case hn => omega); (case hm | hv => rfl); (case hT => decide +kernel)) | ((with_reducible apply wps_storea (T := 100) S 0 (vs := [.int .i64 x.no, .int .i64 x.from_, .int .i64 x.to_, .int .i64 x.x.kind, .int .i64 x.x.m.ev.key.at_, .int .i64 x.x.m.ev.key.src, .int .i64 x.x.m.ev.key.sent, .int .i64 x.x.m.ev.key.no, .int .i64 x.x.m.ev.dst, .int .i64 x.x.m.ev.kind, .int .i64 x.x.m.ev.data, .bool x.x.m.anti, .int .i64 x.x.no, .int .i64 x.x.at_]) (m := 14)); (case hx | hy | hi | hm | h1 => rfl); (case hn => exact Nat.le_of_ble_eq_true rfl); (case hT => decide +kernel); clear S; intro wz S; simp only [List.set_cons_zero, List.set_cons_succ, setAll, List.setIfInBounds_toArray] at S) | ((with_reducible apply wps_load S 3); (case hx | hi | hu => rfl); (case hT => decide +kernel)) | (go_at_call 171; obtain ⟨Fz, hF, hBk⟩ := S.lend [4] [] [0, 1, 2, 3] rfl rfl rfl; simp only [List.cons_append, List.nil_append, pick, nth] at hF hBk; refine Calls.mono (HD.out _ _ _ hF) ?_; rintro rr wz ⟨a2, c2, rfl, T⟩; replace S := hBk _ _ T rfl; clear hBk hF T; simp only [List.cons_append, List.nil_append] at S) | ((with_reducible apply wps_store (u := (.slice a2 wy.length c2)) S 4); (case hx | hy | hi | h1 => rfl); (case hn => exact Nat.le_of_ble_eq_true rfl); (case hT => decide +kernel); clear S; intro wz S; simp only [List.set_cons_succ, List.set_cons_zero, List.setIfInBounds_toArray] at S) | ((with_reducible apply wps_loada (T := 100) (k := 14) S 1); (case hx | hi => rfl); (case hk => exact Nat.le_of_ble_eq_true rfl); (case hT => decide +kernel)) | ((with_reducible apply wps_storea (T := 100) S 2 (vs := [.int .i64 x.no, .int .i64 x.from_, .int .i64 x.to_, .int .i64 x.x.kind, .int .i64 x.x.m.ev.key.at_, .int .i64 x.x.m.ev.key.src, .int .i64 x.x.m.ev.key.sent, .int .i64 x.x.m.ev.key.no, .int .i64 x.x.m.ev.dst, .int .i64 x.x.m.ev.kind, .int .i64 x.x.m.ev.data, .bool x.x.m.anti, .int .i64 x.x.no, .int .i64 x.x.at_]) (m := 14)); (case hx | hy | hi | hm | h1 => rfl); (case hn => exact Nat.le_of_ble_eq_true rfl); (case hT => decide +kernel); clear S; intro wz S; simp only [List.set_cons_zero, List.set_cons_succ, setAll, List.setIfInBounds_toArray] at S)
  (try simp only [Exit.inBlock, Exit.then]); refine bodyPost_ret (results2 rfl (S.resA 2 rfl rfl (by kernel_rfl)) (res_tmp rfl)) rfl ?_
  exact ⟨rfl, net_close (n := ⟨n.boxes, n.next, wy⟩) (S.pick [4, 0] rfl)⟩
end Go.Proofs.YtmjljoaakdocaaaGreatDoor
/- The walks of cmp.Compare and cmp.Or at ints (beside C2). -/
namespace Go.Proofs.YtmjljoaakdocaaaGreatDoor
open Go Go.RowKit Reg Mem

set_option maxRecDepth 100000 in
theorem elem_Int : Elem Tryz.prog 92 3 1 8 := ⟨_, .int .i64 0, Tryz.underlying92, rfl, by kernel_rfl, by kernel_rfl, by kernel_rfl, by kernel_rfl, by omega⟩
set_option maxRecDepth 100000 in
theorem zero_Int : zeroIs Tryz.prog 3 1 (intE 0) := ⟨_, .int .i64 0, rfl, by kernel_rfl, by kernel_rfl, rfl, by decide⟩
theorem isNaN_calls (x : Int) (w : World) : Calls Tryz.prog 267 #[.int .i64 x] w fun r w' => r = .returned (.bool false) ∧ Below w.heap.size w w' := by
  have S := St.init (fun _ => False) w
  go_enter Tryz.func267, Tryz.ntmps267
  go_wp2_with first | ((with_reducible refine tot_done ?ht ?_); (case ht => kernel_rfl))
  go_ret
  exact ⟨by simp, S.below⟩
def icmp (x y : Int) : Int := if x < y then -1 else if y < x then 1 else 0
theorem cmpInt_calls (x y : Int) (w : World) : Calls Tryz.prog 218 #[.int .i64 x, .int .i64 y] w fun r w' => r = .returned (.int .i64 (icmp x y)) ∧ Below w.heap.size w w' := by
  have S := St.init (fun _ => False) w
  by_cases h1 : x < y
  · go_enter Tryz.func218, Tryz.ntmps218
    go_wp2_with first | (go_at_call 267; refine Calls.mono (isNaN_calls _ _) ?_; rintro e wz ⟨rfl, hE⟩; replace S := S.ext (Keep.of_below hE); clear hE)
    go_ret
    exact ⟨ret_int (by unfold icmp; rw [if_pos (by omega)]), S.below⟩
  · by_cases h2 : y < x
    · go_enter Tryz.func218, Tryz.ntmps218
      go_wp2_with first | (go_at_call 267; refine Calls.mono (isNaN_calls _ _) ?_; rintro e wz ⟨rfl, hE⟩; replace S := S.ext (Keep.of_below hE); clear hE)
      go_ret
      exact ⟨ret_int (by unfold icmp; rw [if_neg (by omega), if_pos (by omega)]), S.below⟩
    · go_enter Tryz.func218, Tryz.ntmps218
      go_wp2_with first | (go_at_call 267; refine Calls.mono (isNaN_calls _ _) ?_; rintro e wz ⟨rfl, hE⟩; replace S := S.ext (Keep.of_below hE); clear hE)
      go_ret
      exact ⟨ret_int (by unfold icmp; rw [if_neg (by omega), if_neg (by omega)]), S.below⟩
def orL : List Int → Int
  | [] => 0
  | x :: l => if x ≠ 0 then x else orL l
theorem orL_at {l : List Int} {j : Nat} {x : Int} (h : ∀ (q : Nat) y, q < j → l[q]? = some y → y = 0) (hj : l[j]? = some x) (hx : x ≠ 0) : orL l = x := by
  induction l generalizing j with
  | nil => simp at hj
  | cons a l ih =>
    cases j with
    | zero => simp at hj; subst hj; simp [orL, hx]
    | succ j =>
      have ha := h 0 a (by omega) rfl
      rw [orL, if_neg (by simp [ha])]
      exact ih (j := j) (fun q y hq hy => h (q + 1) y (by omega) (by simpa using hy)) (by simpa using hj)
theorem orL_zero {l : List Int} (h : ∀ (q : Nat) y, l[q]? = some y → y = 0) : orL l = 0 := by
  induction l with
  | nil => rfl
  | cons a l ih =>
    have ha := h 0 a rfl
    rw [orL, if_neg (by simp [ha])]
    exact ih (fun q y hy => h (q + 1) y (by simpa using hy))
def OrRel (ad : Option Addr) (c : Nat) (l : List Int) (w : World) (i : Value) (wr : World) : Prop :=
  ∃ j : Nat, j ≤ l.length ∧ i = .int .i64 j ∧ (∀ (q : Nat) y, q < j → l[q]? = some y → y = 0) ∧ St (fun _ => False) w wr [Sl true intE 1 (.slice ad l.length c) l]
theorem orInt_calls (v : Value) (l : List Int) (w : World) (F : Nat → Prop) (h : (Sl true intE 1 v l).at_ w F) (hn : l.length ≤ 4294967296) : Calls Tryz.prog 217 #[v] w fun r w' => r = .returned (.int .i64 (orL l)) ∧ Below w.heap.size w w' := by
  have S : St (fun _ => False) w w [Sl true intE 1 v l] := (St.init _ w).share rfl rfl h
  obtain ⟨F1, hs⟩ := S.sl 0 rfl
  obtain ⟨ad, cp, rfl, _⟩ := hs.form
  clear hs
  go_enter Tryz.func217, Tryz.ntmps217
  go_wp2_with first | ((with_reducible apply wps_load S 3); (case hx | hi | hu => rfl); (case hT => decide +kernel))
  go_loopw [8] (fun i wr => OrRel ad cp l w i wr) (fun i _ => l.length - (intOf i).toNat)
  case atStart => exact ⟨0, Nat.zero_le _, rfl, fun q r h => by omega, S⟩
  case round =>
    clear S
    obtain ⟨j, hj, rfl, hz, S⟩ := hrel
    have Hz := Lib.hid hz
    clear hz
    by_cases hlt : j < l.length
    · obtain ⟨x, hx⟩ : ∃ x, l[j]? = some x := ⟨_, List.getElem?_eq_getElem hlt⟩
      obtain ⟨R, o, rfl⟩ : ∃ R o, ad = some ⟨R, o, none⟩ := (S.sl 0 rfl).elim fun F h => h.head (Nat.zero_lt_of_lt hlt)
      have hlt2 : (j : Int) < l.length := by omega
      have Hx := Lib.hid hx
      clear hx
      by_cases h0 : x = 0
      · go_wp2_with first | ((with_reducible apply wps_load_el S 0 (hj := Hx.out) (q := 0) (u := .int .i64 x)); (case hx | hi => rfl); (case hn => omega); (case hu => rfl); (case hT => decide +kernel))
        go_roundw
        case rel =>
          refine ⟨j + 1, by omega, by go_num, fun q r hq hr => ?_, S⟩
          by_cases e : q = j
          · subst e; rw [Hx.out] at hr; cases hr; exact h0
          · exact Hz.out q r (by omega) hr
        case measure => simp [intOf]; omega
      · go_wp2_with first | ((with_reducible apply wps_load_el S 0 (hj := Hx.out) (q := 0) (u := .int .i64 x)); (case hx | hi => rfl); (case hn => omega); (case hu => rfl); (case hT => decide +kernel))
        go_ret
        exact ⟨ret_int (orL_at Hz.out Hx.out h0).symm, S.below⟩
    · obtain rfl : j = l.length := by omega
      go_wp2_with first | ((with_reducible apply wps_load S 3); (case hx | hi | hu => rfl); (case hT => decide +kernel))
      go_ret
      exact ⟨ret_int (orL_zero fun q y hy => Hz.out q y (List.getElem?_eq_some_iff.1 hy).1 hy).symm, S.below⟩
end Go.Proofs.YtmjljoaakdocaaaGreatDoor
/- A map whose entries are told one by one, so that it can be gone through. Over any program. -/
namespace Go.Proofs.YtmjljoaakdocaaaGreatDoor.Mem
open Go Go.RowKit Reg
open Go.ChangeMaps (setBlock)
open Go.MapKept (heap_set)
variable {P : Program} {K : TypeId} {κ : Type} [DecidableEq κ] {kv : κ → List Value}

structure Tells (P : Program) (K : TypeId) (kv : κ → List Value) (es : Array MapEntry) (clock : Nat) (l : List (κ × Value)) : Prop where
  same : es.toList.map (fun e => (e.key, e.val)) = l.map fun p => (whole P K (kv p.1), p.2)
  keys : (l.map (·.1)).Nodup
  born : (es.toList.map (·.born)).Nodup
  old : ∀ e ∈ es.toList, e.born < clock
def MapE (sh : Bool) (M : Nat) (es : Array MapEntry) (clock : Nat) : Asn where
  sh := sh
  at_ w F := w.heap[M]? = some (.map es clock) ∧ ∀ x, F x ↔ x = M
  loc h hb := ⟨(hb M ((h.2 M).2 rfl)).trans h.1, h.2⟩
  lt h b hb := by rw [(h.2 b).1 hb]; exact (Array.getElem?_eq_some_iff.1 h.1).1
def IterE (r M since : Nat) (seen : Array Nat) (c0 : Nat) : Asn where
  sh := false
  at_ w F := w.heap[r]? = some (.mapIter (some M) since seen c0) ∧ ∀ x, F x ↔ x = r
  loc h hb := ⟨(hb r ((h.2 r).2 rfl)).trans h.1, h.2⟩
  lt h b hb := by rw [(h.2 b).1 hb]; exact (Array.getElem?_eq_some_iff.1 h.1).1
def MapK (sh : Bool) (P : Program) (K : TypeId) (kv : κ → List Value) (M : Nat) (l : List (κ × Value)) : Asn where
  sh := sh
  at_ w F := (∃ es clock, w.heap[M]? = some (.map es clock) ∧ Tells P K kv es clock l) ∧ ∀ x, F x ↔ x = M
  loc h hb := ⟨let ⟨es, c, h1, h2⟩ := h.1; ⟨es, c, (hb M ((h.2 M).2 rfl)).trans h1, h2⟩, h.2⟩
  lt h b hb := by rw [(h.2 b).1 hb]; obtain ⟨es, c, h1, h2⟩ := h.1; exact (Array.getElem?_eq_some_iff.1 h1).1
def lookK (l : List (κ × Value)) (k : κ) : Option Value := (place l k 0).map (·.2)
theorem mapK_is {sh : Bool} {w : World} {F : Nat → Prop} {M : Nat} {l : List (κ × Value)} (h : (MapK sh P K kv M l).at_ w F) : MapIs P w M K kv (lookK l) := by
  obtain ⟨⟨es, c, h1, h2⟩, _⟩ := h
  exact ⟨l, ⟨es, c, h1, h2.same⟩, h2.keys, fun k => rfl⟩
theorem lookK_none {l : List (κ × Value)} {k : κ} (h : k ∉ l.map (·.1)) : lookK l k = none := by unfold lookK; rw [place_none.2 h]; rfl
theorem lookK_at {l : List (κ × Value)} {k : κ} {v : Value} {n : Nat} (hd : (l.map (·.1)).Nodup) (h : l[n]? = some (k, v)) : lookK l k = some v := by
  unfold lookK
  cases hp : place l k 0 with
  | none => exact absurd (List.mem_map.2 ⟨(k, v), List.mem_of_getElem? h, rfl⟩) (place_none.1 hp)
  | some q =>
    obtain ⟨m, u⟩ := q
    have h2 := (place_some hp).2
    simp only [Nat.sub_zero] at h2
    have e1 : (l.map (·.1))[n]? = some k := by rw [List.getElem?_map, h]; rfl
    have e2 : (l.map (·.1))[m]? = some k := by rw [List.getElem?_map, h2]; rfl
    have hn := (List.getElem?_eq_some_iff.1 e1).1
    have hm := (List.getElem?_eq_some_iff.1 e2).1
    have : n = m := (List.getElem_inj hd).1 ((List.getElem?_eq_some_iff.1 e1).2.trans (List.getElem?_eq_some_iff.1 e2).2.symm)
    subst this
    rw [h] at h2
    simp only [Option.some.injEq, Prod.mk.injEq, true_and] at h2
    rw [h2]; rfl
section
variable {w : World} {M : Nat} {T E : TypeId} {l : List (κ × Value)} {es : Array MapEntry} {clock : Nat}
theorem run_updK_new (hK : Keyed P K kv) (hT : P.underlying T = some (.map K E)) (h1 : w.heap[M]? = some (.map es clock)) (ht : Tells P K kv es clock l) (k : κ) (v : Value) (hk : k ∉ l.map (·.1)) :
    ∃ w' es' c', (Instr.mapUpdate T (.map (some M)) (whole P K (kv k)) v).run P w = .ok () w' ∧ w'.heap[M]? = some (.map es' c') ∧ Tells P K kv es' c' (l ++ [(k, v)]) ∧ Keep (fun b => b = M) w w' := by
  have hck := run_checkKey (P := P) w false 100 K hK.ks hK.layK 10000 (kv k) (by omega) (hK.fit k)
  have hfk := run_findKey hK k w es.toList l ht.same
  have hlt : M < w.heap.size := (Array.getElem?_eq_some_iff.1 h1).1
  have hset : ∀ o : Obj, (w.heap.setIfInBounds M o)[M]? = some o := fun o => by simp [hlt]
  have hp : place l k 0 = none := place_none.2 hk
  unfold Instr.mapUpdate
  simp only [Sem.run_bind, run_underlying hT, Result.andThen_ok, getObj, Sem.run, h1, hck, hfk, hp]
  simp only [setObj, Sem.run, h1]
  refine ⟨_, _, _, rfl, hset _, ⟨?_, ?_, ?_, ?_⟩, set_keep⟩
  · simp [ht.same]
  · rw [List.map_append, List.nodup_append]
    exact ⟨ht.keys, by simp, fun a ha b hb => by simp at hb; subst hb; exact fun e => hk (e ▸ ha)⟩
  · rw [Array.toList_push, List.map_append, List.nodup_append]
    refine ⟨ht.born, by simp, fun a ha b hb => ?_⟩
    obtain ⟨e, he, rfl⟩ := List.mem_map.1 ha
    have := ht.old e he
    simp at hb
    omega
  · intro e he
    rw [Array.toList_push, List.mem_append] at he
    rcases he with he | he
    · have := ht.old e he; omega
    · simp at he; subst he; simp
theorem run_updK_set (hK : Keyed P K kv) (hT : P.underlying T = some (.map K E)) (h1 : w.heap[M]? = some (.map es clock)) (ht : Tells P K kv es clock l) (k : κ) (v u : Value) (n : Nat) (hn : l[n]? = some (k, u)) :
    ∃ w' es', (Instr.mapUpdate T (.map (some M)) (whole P K (kv k)) v).run P w = .ok () w' ∧ w'.heap[M]? = some (.map es' clock) ∧ Tells P K kv es' clock (l.set n (k, v)) ∧ Keep (fun b => b = M) w w' := by
  have hck := run_checkKey (P := P) w false 100 K hK.ks hK.layK 10000 (kv k) (by omega) (hK.fit k)
  have hfk := run_findKey hK k w es.toList l ht.same
  have hlt : M < w.heap.size := (Array.getElem?_eq_some_iff.1 h1).1
  have hset : ∀ o : Obj, (w.heap.setIfInBounds M o)[M]? = some o := fun o => by simp [hlt]
  have hleaf : isAggB P K = false → (kv k).length = 1 := fun ha => (fits_length (hK.fit k)).trans (lay_leaf hK.layK ha)
  obtain ⟨e, he, hek, hev⟩ : ∃ e : MapEntry, es[n]? = some e ∧ e.key = whole P K (kv k) ∧ e.val = u := by
    have : (es.toList.map fun e => (e.key, e.val))[n]? = some (whole P K (kv k), u) := by rw [ht.same]; simp [hn]
    simp only [List.getElem?_map, Option.map_eq_some_iff, Prod.mk.injEq] at this
    obtain ⟨e, he, h5, h6⟩ := this
    exact ⟨e, by simpa using he, h5, h6⟩
  obtain ⟨m, u', hp⟩ : ∃ m u', place l k 0 = some (m, u') := by
    cases hp : place l k 0 with
    | none => exact absurd (List.mem_map.2 ⟨(k, u), List.mem_of_getElem? hn, rfl⟩) (place_none.1 hp)
    | some q => exact ⟨q.1, q.2, rfl⟩
  have h2 := (place_some hp).2
  simp only [Nat.sub_zero] at h2
  have hmn : n = m := by
    have e1 : (l.map (·.1))[n]? = some k := by rw [List.getElem?_map, hn]; rfl
    have e2 : (l.map (·.1))[m]? = some k := by rw [List.getElem?_map, h2]; rfl
    exact (List.getElem_inj ht.keys).1 ((List.getElem?_eq_some_iff.1 e1).2.trans (List.getElem?_eq_some_iff.1 e2).2.symm)
  subst hmn
  have hkey : (es[n]?.map (·.key)).getD (whole P K (kv k)) = whole P K (kv k) := by rw [he]; simpa using hek
  unfold Instr.mapUpdate
  simp only [Sem.run_bind, run_underlying hT, Result.andThen_ok, getObj, Sem.run, h1, hck, hfk, hp]
  simp only [hkey, Instr.keyThatStays, sameBits_whole (P := P) (K := K) (hK.fit k) hleaf, if_true, Sem.run_bind, Sem.run_pure, Result.andThen_ok, setObj, Sem.run, h1]
  have hlist : ∀ f : MapEntry → MapEntry, (es.modify n f).toList = es.toList.modify n f := fun f => Array.toList_modify
  refine ⟨_, _, rfl, hset _, ⟨?_, ?_, ?_, ?_⟩, set_keep⟩
  · rw [Array.toList_modify, List.map_set, ← ht.same]
    apply List.ext_getElem?
    intro j
    simp only [List.getElem?_map, List.getElem?_modify, List.getElem?_set]
    by_cases hj : n = j
    · subst hj
      have hn : n < es.toList.length := by have := (Array.getElem?_eq_some_iff.1 he).1; simpa using this
      have hn2 : n < es.size := by simpa using hn
      simp [hn2]
    · simp [hj]
  · rw [List.map_set]
    have e1 : (l.map (·.1)).set n k = l.map (·.1) := by
      apply List.ext_getElem?
      intro j
      simp only [List.getElem?_set, List.getElem?_map, List.length_map]
      by_cases hj : n = j
      · subst hj
        obtain ⟨hlt2, he2⟩ := List.getElem?_eq_some_iff.1 hn
        simp [hlt2, he2]
      · simp [hj]
    rw [e1]; exact ht.keys
  · have e1 : ∀ f : MapEntry → MapEntry, (∀ x, (f x).born = x.born) → (es.modify n f).toList.map (·.born) = es.toList.map (·.born) := fun f hf => by
      rw [Array.toList_modify]
      apply List.ext_getElem?
      intro j
      simp only [List.getElem?_map, List.getElem?_modify]
      by_cases hj : n = j
      · subst hj; cases es.toList[n]? <;> simp [hf]
      · simp [hj]
    exact Eq.mpr (congrArg List.Nodup (e1 _ (fun _ => rfl))) ht.born
  · intro x hx
    rw [Array.toList_modify] at hx
    obtain ⟨j, hj, ej⟩ := List.mem_iff_getElem.1 hx
    have hj2 : j < es.toList.length := by simpa using hj
    have hold := ht.old (es.toList[j]) (List.getElem_mem hj2)
    rw [← ej, List.getElem_modify]
    split <;> exact hold
end
section
variable {ops : Array Oper} {rest : List Oper} {a : Act} {Q : Exit → Act → World → Prop} {d : Option Tmp} {tt : TypeId} {p : String} {af : Array Edge} {gd : Option (Nat × Bool)} {x y z : Operand}
variable {G : Nat → Prop} {w0 w w' : World} {L : List Asn} {T E : TypeId} {M : Nat} {l : List (κ × Value)}
omit [DecidableEq κ] in
theorem wps_makeMapK (S : St G w0 w L) (kv : κ → List Value) (next : ∀ M w', St G w0 w' (MapK false P K kv M [] :: L) → wpList P ops Q rest (a.put d (.map (some M))) w') (hgd : gOk gd ops a = true := by with_unfolding_all rfl) :
    wpList P ops Q ({ dst := d, op := .makeMap T none, type := tt, pos := p, after := af, guard := gd } :: rest) a w :=
  wpList_ok hgd fun K' hK => by
    have hr := @run_makeMap P T w
    unfold Oper.wp execOp
    simp only [Option.map_none, hr, Sem.run_bind, Sem.run_pure, Result.andThen_ok]
    exact hK _ _ (next _ _ (S.grow (F := fun x => x = w.heap.size) (keep_alloc w _) ⟨⟨#[], 0, heap_alloc_new w _, ⟨rfl, List.nodup_nil, List.nodup_nil, fun e he => by simp at he⟩⟩, fun _ => Iff.rfl⟩ (fun _ e => Nat.le_of_eq e.symm)))
theorem wps_lookupK {sh : Bool} (hK : Keyed P K kv) (hT : P.underlying T = some (.map K E)) {zv : Value} (hz : ∀ w, (zeroValue E).run P w = .ok zv w)
    (S : St G w0 w L) (i : Nat) (hi : L[i]? = some (MapK sh P K kv M l)) (k : κ) (hx : a.eval x = .map (some M)) (hy : a.eval y = whole P K (kv k)) {v : Value} (hv : (lookK l k).getD zv = v)
    (h : wpList P ops Q rest (a.put d v) w) (hgd : gOk gd ops a = true := by with_unfolding_all rfl) : wpList P ops Q ({ dst := d, op := .lookup T x y false, type := tt, pos := p, after := af, guard := gd } :: rest) a w := by
  obtain ⟨F, hF⟩ := S.get hi
  exact wpList_lookup (hgd := hgd) hK hT hz (mapK_is hF) k hx hy hv h
theorem wps_updK_new (hK : Keyed P K kv) (hT : P.underlying T = some (.map K E)) (S : St G w0 w L) (i : Nat) (hi : L[i]? = some (MapK false P K kv M l)) (k : κ) (v : Value) (hk : k ∉ l.map (·.1))
    (hx : a.eval x = .map (some M)) (hy : a.eval y = whole P K (kv k)) (hz : a.eval z = v) (next : ∀ w', St G w0 w' (L.set i (MapK false P K kv M (l ++ [(k, v)]))) → wpList P ops Q rest (a.put d undef) w') (hgd : gOk gd ops a = true := by with_unfolding_all rfl) :
    wpList P ops Q ({ dst := d, op := .mapUpdate T x y z, type := tt, pos := p, after := af, guard := gd } :: rest) a w :=
  wpList_ok hgd fun K' hK' => by
    obtain ⟨F, hF⟩ := S.get hi
    obtain ⟨⟨es, c, h1, ht⟩, hF2⟩ := hF
    obtain ⟨w', es', c', hr, h2, h3, h4⟩ := run_updK_new hK hT h1 ht k v hk
    unfold Oper.wp execOp
    simp only [hx, hy, hz, hr, Sem.run_bind, Sem.run_pure, Result.andThen_ok]
    exact hK' _ _ (next w' (S.step hi rfl fun F hF => ⟨F, h4.mono (fun x _ h e => h ((hF.2 x).2 e)), ⟨⟨es', c', h2, h3⟩, hF.2⟩, fun _ h => .inl h⟩))
theorem wps_updK_set (hK : Keyed P K kv) (hT : P.underlying T = some (.map K E)) (S : St G w0 w L) (i : Nat) (hi : L[i]? = some (MapK false P K kv M l)) (k : κ) (v u : Value) (n : Nat) (hn : l[n]? = some (k, u))
    (hx : a.eval x = .map (some M)) (hy : a.eval y = whole P K (kv k)) (hz : a.eval z = v) (next : ∀ w', St G w0 w' (L.set i (MapK false P K kv M (l.set n (k, v)))) → wpList P ops Q rest (a.put d undef) w') (hgd : gOk gd ops a = true := by with_unfolding_all rfl) :
    wpList P ops Q ({ dst := d, op := .mapUpdate T x y z, type := tt, pos := p, after := af, guard := gd } :: rest) a w :=
  wpList_ok hgd fun K' hK' => by
    obtain ⟨F, hF⟩ := S.get hi
    obtain ⟨⟨es, c, h1, ht⟩, hF2⟩ := hF
    obtain ⟨w', es', hr, h2, h3, h4⟩ := run_updK_set hK hT h1 ht k v u n hn
    unfold Oper.wp execOp
    simp only [hx, hy, hz, hr, Sem.run_bind, Sem.run_pure, Result.andThen_ok]
    exact hK' _ _ (next w' (S.step hi rfl fun F hF => ⟨F, h4.mono (fun x _ h e => h ((hF.2 x).2 e)), ⟨⟨es', c, h2, h3⟩, hF.2⟩, fun _ h => .inl h⟩))
omit [DecidableEq κ] in
theorem wps_rangeE {sh : Bool} {es : Array MapEntry} {clock : Nat} (hT : P.underlying T = some (.map K E)) (S : St G w0 w L) (i : Nat) (hi : L[i]? = some (MapE sh M es clock)) (hx : a.eval x = .map (some M))
    (next : ∀ r w', St G w0 w' (IterE r M clock #[] clock :: L) → wpList P ops Q rest (a.put d (.pointer (some ⟨r, 0, none⟩))) w') (hgd : gOk gd ops a = true := by with_unfolding_all rfl) :
    wpList P ops Q ({ dst := d, op := .range T x, type := tt, pos := p, after := af, guard := gd } :: rest) a w :=
  wpList_ok hgd fun K' hK' => by
    obtain ⟨F, hF⟩ := S.get hi
    have hr := run_range_map w T K E M es clock hT hF.1
    unfold Oper.wp execOp
    simp only [hx, hr, Sem.run_bind, Sem.run_pure, Result.andThen_ok]
    exact hK' _ _ (next _ _ (S.grow (F := fun x => x = w.heap.size) (keep_alloc w _) ⟨heap_alloc_new w _, fun _ => Iff.rfl⟩ (fun _ e => Nat.le_of_eq e.symm)))
theorem keep_setBlock (w : World) (r : Nat) (o : Obj) : Keep (fun b => b = r) w (setBlock w r o) :=
  ⟨rfl, rfl, rfl, by simp [setBlock], fun b _ hb => by simp only [setBlock]; rw [Array.getElem?_setIfInBounds_ne (Ne.symm hb)], Nat.le_refl _⟩
theorem wps_nextE {sh : Bool} {es : Array MapEntry} {clock r c0 : Nat} {seen : Array Nat} (S : St G w0 w L) (i j : Nat) (hi : L[i]? = some (IterE r M clock seen c0)) (hj : L[j]? = some (MapE sh M es clock)) (hold : ∀ e ∈ es.toList, e.born < clock) (hc0 : clock ≤ c0)
    (hx : a.eval x = .pointer (some ⟨r, 0, none⟩))
    (hdone : (∀ e ∈ es.toList, e.born ∈ seen) → wpList P ops Q rest (a.put d (.tuple #[.bool false])) w)
    (hmore : ∀ e w', e ∈ es.toList → e.born ∉ seen → St G w0 w' (L.set i (IterE r M clock (seen.push e.born) clock)) → wpList P ops Q rest (a.put d (.tuple #[.bool true, e.key, e.val])) w') (hgd : gOk gd ops a = true := by with_unfolding_all rfl) :
    wpList P ops Q ({ dst := d, op := .next x false, type := tt, pos := p, after := af, guard := gd } :: rest) a w :=
  wpList_ok hgd fun K' hK' => by
    obtain ⟨F, hF⟩ := S.get hi
    obtain ⟨F2, hF2⟩ := S.get hj
    rcases run_next_at (P := P) w tt r M clock c0 seen es clock hF.1 hF2.1 hold hc0 with ⟨h0, hrun⟩ | ⟨e, he, w1, hal, hrun⟩
    · unfold Oper.wp execOp
      simp only [hx, hrun, Sem.run_bind, Sem.run_pure, Result.andThen_ok]
      refine hK' _ _ (hdone fun e he => ?_)
      have := all_seen es seen h0 e he
      simpa using this
    · obtain ⟨hem, hes⟩ := mem_left he
      unfold Oper.wp execOp
      simp only [hx, hrun, Sem.run_bind, Sem.run_pure, Result.andThen_ok]
      have S1 : St G w0 w1 L := by
        rcases hal with rfl | rfl
        · exact S
        · exact S.ext (keep_drew w)
      refine hK' _ _ (hmore e _ hem (by simpa using hes) (S1.step hi rfl fun F3 hF3 => ⟨F3, (keep_setBlock w1 r _).mono (fun x _ h e => h ((hF3.2 x).2 e)), ⟨?_, hF3.2⟩, fun _ h => .inl h⟩))
      exact (heap_set (o' := .mapIter (some M) clock (seen.push e.born) clock) hF3.1).1
theorem wps_entryE {sh : Bool} {es : Array MapEntry} {clock r : Nat} {seen : Array Nat} {e : MapEntry} (S : St G w0 w L) (i j : Nat) (hi : L[i]? = some (IterE r M clock (seen.push e.born) clock)) (hj : L[j]? = some (MapE sh M es clock)) (he : e ∈ es.toList) (hn : (es.toList.map (·.born)).Nodup)
    (hx : a.eval x = .pointer (some ⟨r, 0, none⟩)) (next : wpList P ops Q rest (a.put d (.tuple #[e.key, e.val])) w) (hgd : gOk gd ops a = true := by with_unfolding_all rfl) :
    wpList P ops Q ({ dst := d, op := .entry x, type := tt, pos := p, after := af, guard := gd } :: rest) a w :=
  wpList_ok hgd fun K' hK' => by
    obtain ⟨F, hF⟩ := S.get hi
    obtain ⟨F2, hF2⟩ := S.get hj
    have hr := run_entry_at (P := P) w r M clock seen es clock e hF.1 hF2.1 he hn
    unfold Oper.wp execOp
    simp only [hx, hr, Sem.run_bind, Sem.run_pure, Result.andThen_ok]
    exact hK' _ _ next
end
end Go.Proofs.YtmjljoaakdocaaaGreatDoor.Mem
/- One thing of a state is lent to a call, which hands another one back in its place. Over any program. -/
namespace Go.Proofs.YtmjljoaakdocaaaGreatDoor.Mem
open Go Go.RowKit

section
variable {G : Nat → Prop} {w0 w w' : World} {L : List Asn} {A A' : Asn} {i : Nat}
theorem St.stepAt (S : St G w0 w L) (hi : L[i]? = some A) (ho : A.sh = false) : ∃ F, A.at_ w F ∧ ∀ w' A', (∃ F', Keep F w w' ∧ A'.at_ w' F' ∧ ∀ b, F' b → F b ∨ w.heap.size ≤ b) → St G w0 w' (L.set i A') := by
  obtain ⟨Fs, hf, hd⟩ := S.ex
  refine ⟨Fs i, (hf i A hi).1, fun w' A' ⟨F', hK, hA', hF'⟩ => ?_⟩
  have hil := (List.getElem?_eq_some_iff.1 hi).1
  have hnew : ∀ b, F' b → Fs i b ∨ w.heap.size ≤ b := hF'
  have apart : ∀ j B, j ≠ i → L[j]? = some B → ∀ b, Fs j b → ¬ Fs i b := by
    intro j B hj hB b hb hb'
    rcases Nat.lt_or_gt_of_ne hj with h | h
    · rcases hd j i B A h hB hi with ⟨_, e⟩ | e
      · rw [ho] at e; cases e
      · exact e b hb hb'
    · rcases hd i j A B h hi hB with ⟨e, _⟩ | e
      · rw [ho] at e; cases e
      · exact e b hb' hb
  refine ⟨S.keep.trans hK (fun x hx hn => ⟨hn, fun hb => ?_⟩), fun j => if j = i then F' else Fs j, fun j B hj => ?_, fun j k B C hjk hj hk => ?_⟩
  · rcases (hf i A hi).2 ho x hb with h | h
    · exact hn h
    · omega
  · by_cases e : j = i
    · subst e
      rw [List.getElem?_set_self hil] at hj
      cases hj
      simp only [if_true]
      refine ⟨hA', fun _ b hb => ?_⟩
      rcases hnew b hb with h | h
      · exact (hf j A hi).2 ho b h
      · exact .inr (Nat.le_trans S.size h)
    · rw [List.getElem?_set_ne (Ne.symm e)] at hj
      simp only [if_neg e]
      exact ⟨B.loc (hf j B hj).1 (fun b hb => hK.block b (B.lt (hf j B hj).1 b hb) (apart j B e hj b hb)), (hf j B hj).2⟩
  · by_cases e : j = i
    · subst e
      have e' : k ≠ j := by omega
      rw [List.getElem?_set_ne (Ne.symm e')] at hk
      simp only [if_true, if_neg e']
      refine .inr fun b hb hb' => ?_
      rcases hnew b hb with h | h
      · exact apart k C e' hk b hb' h
      · have := C.lt (hf k C hk).1 b hb'; omega
    · rw [List.getElem?_set_ne (Ne.symm e)] at hj
      by_cases e' : k = i
      · subst e'
        simp only [if_true, if_neg e]
        refine .inr fun b hb hb' => ?_
        rcases hnew b hb' with h | h
        · exact apart j B e hj b hb h
        · have := B.lt (hf j B hj).1 b hb; omega
      · rw [List.getElem?_set_ne (Ne.symm e')] at hk
        simp only [if_neg e, if_neg e']
        exact hd j k B C hjk hj hk
theorem St.lend1 (S : St G w0 w L) (i : Nat) (hi : L[i]? = some A) (ho : A.sh = false) : ∃ F, A.at_ w F ∧ ∀ w' A', A'.sh = false → St F w w' [A'] → St G w0 w' (L.set i A') := by
  obtain ⟨F, h1, h2⟩ := S.stepAt hi ho
  refine ⟨F, h1, fun w' A' ho' T => ?_⟩
  obtain ⟨Gs, hg, _⟩ := T.ex
  obtain ⟨g1, g2⟩ := hg 0 A' rfl
  exact h2 w' A' ⟨Gs 0, T.keep, g1, g2 ho'⟩
end
end Go.Proofs.YtmjljoaakdocaaaGreatDoor.Mem
/- The master of rounds as a thing; the walks of its methods. -/
namespace Go.Proofs.YtmjljoaakdocaaaGreatDoor
open Go Go.RowKit Reg Mem

structure MaE where
  no : Int
  runs : Bool
  time : Int
  reps : List Int
def masterB (X : Nat) (m : MaE) (v : Value) : Asn := sep false (Blk false X #[.int .i64 m.no, .bool m.runs, .int .i64 m.time, v] 129) (Mem.Own 3 intE 1 v m.reps)
def masterA (X : Nat) (m : MaE) : Asn := exs false (masterB X m)
theorem master_open {G : Nat → Prop} {w0 w : World} {L : List Asn} {X : Nat} {m : MaE} (S : St G w0 w (masterA X m :: L)) : ∃ v, St G w0 w (Blk false X #[.int .i64 m.no, .bool m.runs, .int .i64 m.time, v] 129 :: Mem.Own 3 intE 1 v m.reps :: L) := by
  obtain ⟨v, S⟩ := S.open_exs (fun _ => rfl)
  exact ⟨v, S.open_sep rfl rfl⟩
theorem master_close {G : Nat → Prop} {w0 w : World} {L : List Asn} {X : Nat} {m : MaE} {v : Value} (S : St G w0 w (Blk false X #[.int .i64 m.no, .bool m.runs, .int .i64 m.time, v] 129 :: Mem.Own 3 intE 1 v m.reps :: L)) : St G w0 w (masterA X m :: L) := by
  have S2 : St G w0 w (masterB X m v :: L) := S.close_sep rfl rfl
  exact S2.close_exs (A := masterB X m) v rfl
theorem masterR {X : Nat} {m : MaE} {w : World} {F : Nat → Prop} (h : (masterA X m).at_ w F) : ∃ v, St (fun _ => False) w w [Blk true X #[.int .i64 m.no, .bool m.runs, .int .i64 m.time, v] 129, Sl true intE 1 v m.reps] := by
  obtain ⟨v, F1, F2, h1, h2, _, _⟩ := h
  refine ⟨v, ?_⟩
  have S1 : St (fun _ => False) w w [Sl true intE 1 v m.reps] := (St.init _ w).share rfl rfl (own_sl (sh := true) intE_len h2)
  exact S1.share (A := Blk true X #[.int .i64 m.no, .bool m.runs, .int .i64 m.time, v] 129) rfl rfl h1
def newMa (workers : Int) : MaE := ⟨0, false, 0, List.replicate workers.toNat 0⟩
def MNewPost (workers : Int) (w : World) (e : Ending) (w' : World) : Prop :=
  (workers < 1 ∨ workers > 8) ∧ e = .returned (.tuple #[.pointer none, .int .i64 1]) ∧ Below w.heap.size w w' ∨
  (1 ≤ workers ∧ workers ≤ 8) ∧ ∃ X, e = .returned (.tuple #[.pointer (some ⟨X, 0, none⟩), .int .i64 0]) ∧ St (fun _ => False) w w' [masterA X (newMa workers)]
set_option maxRecDepth 100000 in
theorem mnewM_calls (workers : Int) (w : World) : Calls Tryz.prog 24 #[.int .i64 workers] w (MNewPost workers w) := by
  have S := St.init (fun _ => False) w
  by_cases h1 : workers < 1
  · have f1 : decide (workers < 1) = true := decide_eq_true h1
    go_enter Tryz.func24, Tryz.ntmps24
    go_wp2_with first | ((with_reducible apply wps_box1 (v := .func _ _ _) S); (case hx | h1 => rfl); clear S; intro bz wz S)
    (try simp only [Exit.inBlock, Exit.then]); refine bodyPost_ret (results2 rfl (res_tmp rfl) (res_tmp rfl)) rfl ?_
    exact .inl ⟨.inl h1, rfl, S.below⟩
  · have f1 : decide (workers < 1) = false := decide_eq_false h1
    by_cases h2 : workers > 8
    · have f2 : decide (workers > 8) = true := decide_eq_true h2
      go_enter Tryz.func24, Tryz.ntmps24
      go_wp2_with first | ((with_reducible apply wps_box1 (v := .func _ _ _) S); (case hx | h1 => rfl); clear S; intro bz wz S)
      (try simp only [Exit.inBlock, Exit.then]); refine bodyPost_ret (results2 rfl (res_tmp rfl) (res_tmp rfl)) rfl ?_
      exact .inl ⟨.inr h2, rfl, S.below⟩
    · have f2 : decide (workers > 8) = false := decide_eq_false h2
      obtain ⟨n, rfl⟩ : ∃ n : Nat, workers = n := ⟨workers.toNat, by omega⟩
      have hb : n ≤ 8 := by omega
      go_enter Tryz.func24, Tryz.ntmps24
      go_wp2_with first | ((with_reducible apply wps_make intE_len Tryz.underlying92 _ zero_Int S (n := n)); (case hx | hy => rfl); (case hn => omega); clear S; intro bz wz S) | ((with_reducible apply wps_boxa (E := 129) S); (case hx => rfl); clear S; intro bX wz S)
      (try simp only [Exit.inBlock, Exit.then]); refine bodyPost_ret (results2 rfl (res_tmp rfl) (res_tmp rfl)) rfl ?_
      exact .inr ⟨⟨by omega, by omega⟩, bX, rfl, master_close S⟩
set_option maxRecDepth 100000 in
theorem mtime_calls (X : Nat) (m : MaE) (w : World) (F : Nat → Prop) (h : (masterA X m).at_ w F) : Calls Tryz.prog 138 #[.pointer (some ⟨X, 0, none⟩)] w fun e w' => e = .returned (.int .i64 m.time) ∧ Below w.heap.size w w' := by
  obtain ⟨v, S⟩ := masterR h
  clear h
  go_enter Tryz.func138, Tryz.ntmps138
  go_wp2_with first | ((with_reducible apply wps_load S 0); (case hx | hi | hu => rfl); (case hT => decide +kernel))
  go_ret
  exact ⟨rfl, S.below⟩
def timeB (t : Int) : Bool := decide (0 ≤ t ∧ t ≤ 1073741825)
set_option maxRecDepth 100000 in
theorem isTime_calls (t : Int) (w : World) : Calls Tryz.prog 135 #[.int .i64 t] w fun e w' => e = .returned (.bool (timeB t)) ∧ Below w.heap.size w w' := by
  have S := St.init (fun _ => False) w
  by_cases h1 : t ≥ 0
  · have f1 : decide (t ≥ 0) = true := decide_eq_true h1
    go_enter Tryz.func135, Tryz.ntmps135
    go_wp2_with first | ((with_reducible refine tot_done ?ht ?_); (case ht => kernel_rfl))
    go_ret
    exact ⟨ret_bool (by unfold timeB; rw [Bool.eq_iff_iff]; simp; omega), S.below⟩
  · have f1 : decide (t ≥ 0) = false := decide_eq_false h1
    go_enter Tryz.func135, Tryz.ntmps135
    go_wp2_with first | ((with_reducible refine tot_done ?ht ?_); (case ht => kernel_rfl))
    go_ret
    exact ⟨ret_bool (by unfold timeB; rw [Bool.eq_iff_iff]; simp; omega), S.below⟩
set_option maxRecDepth 100000 in
theorem follows_calls (n : Int) (h0 : -9223372036854775808 ≤ n) (h1 : n < 9223372036854775807) (w : World) : Calls Tryz.prog 133 #[.agg #[.int .i64 n]] w fun e w' => e = .returned (.int .i64 (n + 1)) ∧ Below w.heap.size w w' := by
  have S := St.init (fun _ => False) w
  go_enter Tryz.func133, Tryz.ntmps133
  go_wp2_with first | ((with_reducible apply wps_boxa (E := 127) S); (case hx => rfl); clear S; intro b1 wz S) | ((with_reducible apply wps_load S 0); (case hx | hi | hu => rfl); (case hT => decide +kernel))
  go_ret
  exact ⟨rfl, S.below⟩
def MbRel (X : Nat) (no time : Int) (v : Value) (n : Nat) (F : Nat → Prop) (w : World) (l : List Int) (i : Value) (wr : World) : Prop :=
  ∃ j : Nat, j ≤ n ∧ i = .int .i64 j ∧ St F w wr [Blk false X #[.int .i64 no, .bool true, .int .i64 time, v] 129, Mem.Own 3 intE 1 v (List.replicate j (-1) ++ l.drop j)]
theorem rep_set {l : List Int} {j : Nat} {x : Int} (h : l[j]? = some x) (z : Int) : (List.replicate j z ++ l.drop j).set j z = List.replicate (j + 1) z ++ l.drop (j + 1) := by
  obtain ⟨hj, e⟩ := List.getElem?_eq_some_iff.1 h
  rw [List.set_append_right _ _ (by simp), List.length_replicate, Nat.sub_self, List.drop_eq_getElem_cons hj, List.set_cons_zero, List.replicate_succ', List.append_assoc]; rfl
theorem rep_get {l : List Int} {j : Nat} {x : Int} (h : l[j]? = some x) (z : Int) : (List.replicate j z ++ l.drop j)[j]? = some x := by
  rw [List.getElem?_append_right (by simp), List.length_replicate, Nat.sub_self, List.getElem?_drop, Nat.add_zero, h]
set_option maxRecDepth 100000 in
set_option maxHeartbeats 8000000 in
theorem mbegin_calls (X : Nat) (m : MaE) (w : World) (F : Nat → Prop) (S0 : St F w w [masterA X m]) (h0 : -9223372036854775808 ≤ m.no) (h1 : m.no < 9223372036854775807) (hn : m.reps.length ≤ 8) (hr : m.runs = false) :
    Calls Tryz.prog 94 #[.pointer (some ⟨X, 0, none⟩)] w fun e w' => e = .returned (.tuple #[.int .i64 (m.no + 1), .int .i64 0]) ∧ St F w w' [masterA X ⟨m.no + 1, true, m.time, List.replicate m.reps.length (-1)⟩] := by
  obtain ⟨v, S⟩ := master_open S0
  clear S0
  have HF := Lib.hid fun w => follows_calls m.no h0 h1 w
  rw [hr] at S
  obtain ⟨ad, c, rfl, _⟩ := (S.ownsl intE_len 1 rfl).elim fun _ h => h.form
  clear hr h0 h1
  generalize hl : m.reps = l at *
  clear hl
  go_enter Tryz.func94, Tryz.ntmps94
  go_wp2_with first | ((with_reducible apply wps_load S 0); (case hx | hi | hu => rfl); (case hT => decide +kernel)) | ((with_reducible apply wps_loada (T := 127) (k := 1) S 0); (case hx | hi => rfl); (case hk => exact Nat.le_of_ble_eq_true rfl); (case hT => decide +kernel)) | (go_at_call 133; refine Calls.mono (HF.out _) ?_; rintro e wz ⟨rfl, hE⟩; replace S := S.ext (Keep.of_below hE); clear hE) | ((with_reducible apply wps_store (u := (.int .i64 (m.no + 1))) S 0); (case hx | hy | hi | h1 => rfl); (case hn => exact Nat.le_of_ble_eq_true rfl); (case hT => decide +kernel); clear S; intro wz S; simp only [List.set_cons_zero, List.setIfInBounds_toArray] at S) | ((with_reducible apply wps_store (u := (.bool true)) S 0); (case hx | hy | hi | h1 => rfl); (case hn => exact Nat.le_of_ble_eq_true rfl); (case hT => decide +kernel); clear S; intro wz S; simp only [List.set_cons_succ, List.set_cons_zero, List.setIfInBounds_toArray] at S)
  go_loopw [28] (fun i wr => MbRel X (m.no + 1) m.time (.slice ad l.length c) l.length F w l i wr) (fun i _ => l.length - (intOf i).toNat)
  case atStart => exact ⟨0, Nat.zero_le _, rfl, by simpa using S⟩
  case round =>
    clear S
    obtain ⟨j, hj, rfl, S⟩ := hrel
    by_cases hlt : j < l.length
    · obtain ⟨x, hx⟩ : ∃ x, l[j]? = some x := ⟨_, List.getElem?_eq_getElem hlt⟩
      have hll : j < (List.replicate j (-1 : Int) ++ l.drop j).length := by simp; omega
      obtain ⟨R, rfl⟩ : ∃ R, ad = some ⟨R, 0, none⟩ := by obtain ⟨R, c2, e1⟩ := own_hdE 1 S rfl (by omega); simp only [Value.slice.injEq] at e1; exact ⟨R, e1.1⟩
      have HG := Lib.hid (rep_get hx (-1))
      have HS := Lib.hid (rep_set hx (-1))
      have hlt2 : (j : Int) < l.length := by omega
      clear hx
      go_wp2_with first | ((with_reducible apply wps_load S 0); (case hx | hi | hu => rfl); (case hT => decide +kernel)) | ((with_reducible apply wps_store_own intE_len S 1 (hj := HG.out) (e' := (-1 : Int)) (q := 0)); (case hx => rfl); (case hn => omega); (case hi | hy | h1 | he => rfl); (case hq => decide); (case hT => decide +kernel); clear S; intro wz S; simp only [List.set_cons_succ, List.set_cons_zero] at S)
      rw [HS.out] at S
      go_roundw
      case rel => exact ⟨j + 1, by omega, by go_num, S⟩
      case measure => first | (simp [intOf]; done) | (simp [intOf]; omega)
    · obtain rfl : j = l.length := by omega
      have e1 : l.drop l.length = [] := List.drop_length
      rw [e1, List.append_nil] at S
      clear e1
      go_wp2_with first | ((with_reducible apply wps_load S 0); (case hx | hi | hu => rfl); (case hT => decide +kernel))
      (try simp only [Exit.inBlock, Exit.then]); refine bodyPost_ret (results2 rfl (res_tmp rfl) (res_tmp rfl)) rfl ?_
      exact ⟨rfl, master_close S⟩
end Go.Proofs.YtmjljoaakdocaaaGreatDoor
