import Derived.Test.YtjmecncebdbhdaaDoorU18
import Derived.Test.YtjmecncebdbhdaaDoorU19
import Derived.Test.YtjmecncebdbhdaaDoorU15
import Derived.Shelf.SlSortCmp.NoneTotal
import Derived.Deep.Cut
import Derived.Test.YtjmecncebdbhdaaDoorU09
/- slices.SortFunc of events by inq.Compare; the walk of a model's rules. -/
namespace Go.Proofs.YtjmecncebdbhdaaDoor
open Go Go.RowKit Reg Mem Go.Shelf Go.Sort

set_option maxRecDepth 100000 in
/-- Events sorted by inq.Compare. -/
theorem sortev_calls {G : Nat → Prop} {w0 w : World} {L : List Asn} (i : Nat) {v : Value} {l : List Event} (S : St G w0 w L) (hi : L[i]? = some (Own 52 Event.cells 7 v l)) (hn : l.length ≤ 65536) :
    Calls Tryd.prog 24 #[v, .func (.func 25) #[] #[]] w fun e w' => e = .returned (.tuple #[]) ∧ St G w0 w' (L.set i (Own 52 Event.cells 7 v (sortT l))) := by
  obtain ⟨ad, c, rfl, _⟩ := (S.ownsl ecells i hi).elim fun _ h => h.form
  by_cases h0 : l.length = 0
  · obtain rfl : l = [] := List.eq_nil_of_length_eq_zero h0
    refine Calls.mono (AnyF.slices_SortFunc_none (P := Tryd.prog) (ρ := sortEvs_ren) { sortEvs with } _ _ _ _) ?_
    rintro e wz ⟨rfl, rfl⟩
    refine ⟨rfl, ?_⟩
    have e : L.set i (Own 52 Event.cells 7 (.slice ad ([] : List Event).length c) (sortT [])) = L := by
      obtain ⟨h1, h2⟩ := List.getElem?_eq_some_iff.1 hi
      rw [show sortT [] = [] from rfl, ← h2, List.set_getElem_self]
    rw [e]
    exact S
  · obtain ⟨R, c', e⟩ := own_hd i S hi (by omega)
    simp only [Value.slice.injEq] at e
    obtain ⟨rfl, _, rfl⟩ := e
    refine Calls.mono (sortK (P := Tryd.prog) (ρ := sortEvs_ren) (i := i) (enc := Event.cells) (k := 7) sortEvs (fun w => by kernel_rfl) sizeEv ecells eone Event.tcmp swo_ev 25 #[] (fun _ _ => rfl) S hi (by omega) (fun W _ x y => icmpare_grew x y W)) ?_
    rintro e wz ⟨rfl, ys, hp2, hs2, S2⟩
    rw [sorted_ev hp2 hs2] at S2
    exact ⟨rfl, S2⟩
def RRunPost (s2 : State) (out : List Event) (w : World) (e : Ending) (w' : World) : Prop :=
  ∃ ad cp, e = .returned (.tuple #[.agg #[.int .i64 s2.n0, .int .i64 s2.n1, .int .i64 s2.n2, .int .i64 s2.n3], .slice ad out.length cp]) ∧ St (fun _ => False) w w' [Own 52 Event.cells 7 (.slice ad out.length cp) out]
theorem sortT_len (l : List Event) : (sortT l).length = l.length := (sortT_perm l).length_eq
set_option maxRecDepth 100000 in
set_option maxHeartbeats 8000000 in
theorem rrun_calls (R : Nat) (vs hs : List Value) (c : Cfg) (lp : Int) (s : State) (v : Value) (l : List Event) (w : World) (F F2 F3 : Nat → Prop) (h : (ModA true 117 R vs hs c).at_ w F) (h2 : (Sl true Event.cells 7 v l).at_ w F2) (ht : Tab.at_ w F3) (hn : l.length ≤ 65536)
    (hc : cfgE c = 0) (hat : ∀ x ∈ l, -9223372036854775808 ≤ x.key.at_) (s2 : State) (out : List Event) (hr : ruleC c lp s l = (s2, out)) :
    Calls Tryd.prog 7 #[.agg #[.pointer (some ⟨R, 0, none⟩)], .int .i64 lp, .agg #[.int .i64 s.n0, .int .i64 s.n1, .int .i64 s.n2, .int .i64 s.n3], v] w (RRunPost s2 out w) := by
  have S : St (fun _ => False) w w [ModA true 117 R vs hs c, Sl true Event.cells 7 v l, Tab] := (((St.init _ w).share rfl rfl ht).share (A := Sl true Event.cells 7 v l) rfl rfl h2).share rfl rfl h
  obtain ⟨ad, cp, rfl, _⟩ := (S.sl 1 rfl).elim fun _ h => h.form
  clear h h2 ht
  have hn2 : l.length ≤ 4294967296 := by omega
  have hsn : (sortT l).length ≤ 65536 := by rw [sortT_len]; exact hn
  obtain ⟨q, hq⟩ : ∃ q, once (sortT l) = q := ⟨_, rfl⟩
  have hqn : q.length ≤ 65536 := by rw [← hq]; exact Nat.le_trans (once_len _) hsn
  have HQ := Lib.hid hq
  have HAT : Hid (wrongE c.lps.length lp q = 0 → -9223372036854775808 ≤ atE q) := Lib.hid fun _ => by
    cases q with
    | nil => decide
    | cons x t =>
      have hx : x ∈ once (sortT l) := by rw [hq]; simp
      have hsub : (once (sortT l)).Sublist (sortT l) := once_sub _ none
      exact hat x ((sortT_perm l).mem_iff.1 (hsub.subset hx))
  have HRU : Hid ((s2, out) = if wrongE c.lps.length lp q = 0 then batchC c lp s q else (s, [])) := Lib.hid (by rw [← hr]; unfold ruleC; rw [hq])
  clear hq hat hr
  go_enter Tryd.func7, Tryd.ntmps7
  go_wp2_with first | ((with_reducible apply wps_boxa (E := 42) S); (case hx => rfl); clear S; intro b4 wz S) | ((with_reducible apply wps_boxa (E := 28) S); (case hx => rfl); clear S; intro b6 wz S) | ((with_reducible apply wps_alloca (E := 28) S); (case hz => exact Tryd.zeroValue28); clear S; intro b8 wz S) | (go_at_call 23; refine Calls.mono (clone_Ev _ _ (S.get (i := 4) rfl).choose_spec hn2) ?_; rintro e wz ⟨ad1, c1, rfl, _, T⟩; replace S := S.join T rfl; clear T; simp only [List.cons_append, List.nil_append] at S) | (go_at_call 24; refine Calls.mono (sortev_calls 0 S rfl hn) ?_; clear S; rintro e wz ⟨rfl, S⟩; simp only [List.set_cons_zero] at S) | ((with_reducible refine tot_done ?ht ?_); (case ht => kernel_rfl)) | ((with_reducible apply wps_boxa S); (case hx => rfl); clear S; intro bz wz S) | ((with_reducible apply wps_box1 (v := .int _ _) S); (case hx | h1 => rfl); clear S; intro bz wz S) | ((with_reducible apply wps_box1 (v := .bool _) S); (case hx | h1 => rfl); clear S; intro bz wz S) | ((with_reducible apply wps_box1 (v := .slice _ _ _) S); (case hx | h1 => rfl); clear S; intro bz wz S) | ((with_reducible apply wps_box1 (v := .pointer _) S); (case hx | h1 => rfl); clear S; intro bz wz S) | ((with_reducible apply wps_box1 (v := .map _) S); (case hx | h1 => rfl); clear S; intro bz wz S) | ((with_reducible apply wps_box1 (v := .string _) S); (case hx | h1 => rfl); clear S; intro bz wz S) | ((with_reducible apply wps_box1 (v := .func _ _ _) S); (case hx | h1 => rfl); clear S; intro bz wz S) | ((with_reducible apply wps_alloca (E := 28) S); (case hz => exact Tryd.zeroValue28); clear S; intro bz wz S) | ((with_reducible apply wps_load S 0); (case hx | hi | hu => rfl); (case hT => decide +kernel)) | ((with_reducible apply wps_loada (T := 28) (k := 4) S 0); (case hx | hi => rfl); (case hk => exact Nat.le_of_ble_eq_true rfl); (case hT => decide +kernel)) | ((with_reducible apply wps_load S 1); (case hx | hi | hu => rfl); (case hT => decide +kernel)) | ((with_reducible apply wps_loada (T := 28) (k := 4) S 1); (case hx | hi => rfl); (case hk => exact Nat.le_of_ble_eq_true rfl); (case hT => decide +kernel))
  obtain ⟨ss, hss⟩ : ∃ t, sortT l = t := ⟨_, rfl⟩
  rw [hss] at S HQ hsn
  have HL : Hid (l.length = ss.length) := Lib.hid (by rw [← hss, sortT_len])
  clear hss
  have HB := Lib.hid fun (v : Value) (w : World) (F F2 F3 : Nat → Prop) (h : (ModA true 117 R vs hs c).at_ w F) (h2 : (Sl true Event.cells 7 v q).at_ w F2) (ht : Tab.at_ w F3) => brun_callsW R vs hs c lp s v q w F F2 F3 h h2 ht hqn hc HAT.out
  clear hc HAT
  have hs2 : once ss = q := HQ.out
  by_cases hw : wrongE c.lps.length lp q = 0
  · have HR : Hid (batchC c lp s q = (s2, out)) := Lib.hid (by have := HRU.out; rw [if_pos hw] at this; exact this.symm)
    have HB2 : Hid (∀ (v : Value) (w : World) (F F2 F3 : Nat → Prop) (h : (ModA true 117 R vs hs c).at_ w F) (h2 : (Sl true Event.cells 7 v q).at_ w F2) (ht : Tab.at_ w F3), Calls Tryd.prog 8 #[.pointer (some ⟨R, 0, none⟩), .int .i64 lp, .agg #[.int .i64 s.n0, .int .i64 s.n1, .int .i64 s.n2, .int .i64 s.n3], v] w fun e w' =>
      ∃ ad cp, e = .returned (.tuple #[.agg #[.int .i64 s2.n0, .int .i64 s2.n1, .int .i64 s2.n2, .int .i64 s2.n3], .slice ad out.length cp, .int .i64 0]) ∧ St (fun _ => False) w w' [Own 52 Event.cells 7 (.slice ad out.length cp) out]) := Lib.hid fun v w F F2 F3 h h2 ht => (HB.out v w F F2 F3 h h2 ht).mono fun e w' hp => by
        rcases hp with ⟨h1, _⟩ | ⟨_, v, he, S⟩
        · exact absurd hw h1
        · rw [HR.out] at he S
          obtain ⟨ad, cp, rfl, _⟩ := (S.ownsl ecells 0 rfl).elim fun _ h => h.form
          exact ⟨ad, cp, he, S⟩
    clear HB hw HRU HR
    go_wp2_with first | (go_at_call 26; obtain ⟨Fz, hF, hBk⟩ := S.lend1 0 rfl rfl; refine Calls.mono (compact_calls _ _ _ _ (St.one _ hF) hsn) ?_; rintro e wz ⟨ad2, c2, rfl, T⟩; replace S := hBk _ _ rfl T; clear hBk hF T; simp only [List.set_cons_zero] at S) | ((with_reducible apply wps_load S 3); (case hx | hi | hu => rfl); (case hT => decide +kernel)) | ((with_reducible apply wps_loada (T := 28) (k := 4) S 2); (case hx | hi => rfl); (case hk => exact Nat.le_of_ble_eq_true rfl); (case hT => decide +kernel)) | (go_at_call 8; rw [hs2] at S; refine Calls.mono (HB2.out _ _ _ _ _ (S.get (i := 4) rfl).choose_spec (own_sl (sh := true) ecells (S.get (i := 0) rfl).choose_spec) (S.get (i := 6) rfl).choose_spec) ?_; rintro r wz ⟨ado, cpo, rfl, T⟩; replace S := S.join T rfl; clear T; simp only [List.cons_append, List.nil_append] at S) | ((with_reducible apply wps_alloca (E := 28) S); (case hz => exact Tryd.zeroValue28); clear S; intro b11 wz S) | ((with_reducible apply wps_storea (T := 28) S 0 (vs := [.int .i64 s2.n0, .int .i64 s2.n1, .int .i64 s2.n2, .int .i64 s2.n3]) (m := 4)); (case hx | hy | hi | hm | h1 => rfl); (case hn => exact Nat.le_of_ble_eq_true rfl); (case hT => decide +kernel); clear S; intro wz S; simp only [List.set_cons_zero, List.set_cons_succ, setAll, List.setIfInBounds_toArray] at S) | ((with_reducible apply wps_loada (T := 28) (k := 4) S 0); (case hx | hi => rfl); (case hk => exact Nat.le_of_ble_eq_true rfl); (case hT => decide +kernel)) | ((with_reducible apply wps_storea (T := 28) S 3 (vs := [.int .i64 s2.n0, .int .i64 s2.n1, .int .i64 s2.n2, .int .i64 s2.n3]) (m := 4)); (case hx | hy | hi | hm | h1 => rfl); (case hn => exact Nat.le_of_ble_eq_true rfl); (case hT => decide +kernel); clear S; intro wz S; simp only [List.set_cons_zero, List.set_cons_succ, setAll, List.setIfInBounds_toArray] at S) | ((with_reducible refine tot_done ?ht ?_); (case ht => kernel_rfl)) | ((with_reducible apply wps_alloca (E := 28) S); (case hz => exact Tryd.zeroValue28); clear S; intro bz wz S) | ((with_reducible apply wps_load S 0); (case hx | hi | hu => rfl); (case hT => decide +kernel)) | ((with_reducible apply wps_loada (T := 28) (k := 4) S 0); (case hx | hi => rfl); (case hk => exact Nat.le_of_ble_eq_true rfl); (case hT => decide +kernel))
    (try simp only [Exit.inBlock, Exit.then]); refine bodyPost_ret (results2 rfl (S.resA 3 rfl rfl (by kernel_rfl)) (res_tmp rfl)) rfl ?_
    exact ⟨_, _, rfl, S.pick [1] rfl⟩
  · obtain ⟨e0, he0⟩ : ∃ e, wrongE c.lps.length lp q = e := ⟨_, rfl⟩
    have HR : Hid (s2 = s ∧ out = []) := Lib.hid (by have := HRU.out; rw [if_neg hw] at this; simpa using this)
    have h1 : (e0 != 0) = true := by rw [← he0]; simpa using hw
    have HB2 : Hid (∀ (v : Value) (w : World) (F F2 F3 : Nat → Prop) (h : (ModA true 117 R vs hs c).at_ w F) (h2 : (Sl true Event.cells 7 v q).at_ w F2) (ht : Tab.at_ w F3), Calls Tryd.prog 8 #[.pointer (some ⟨R, 0, none⟩), .int .i64 lp, .agg #[.int .i64 s.n0, .int .i64 s.n1, .int .i64 s.n2, .int .i64 s.n3], v] w fun e w' =>
      e = .returned (.tuple #[.agg #[.int .i64 0, .int .i64 0, .int .i64 0, .int .i64 0], .slice none 0 0, .int .i64 e0]) ∧ Below w.heap.size w w') := Lib.hid fun v w F F2 F3 h h2 ht => (HB.out v w F F2 F3 h h2 ht).mono fun e w' hp => by
        rcases hp with ⟨_, he, hb⟩ | ⟨h1, _⟩
        · rw [he0] at he; exact ⟨he, hb⟩
        · exact absurd h1 hw
    clear HB hw HRU he0
    go_wp2_with first | (go_at_call 26; obtain ⟨Fz, hF, hBk⟩ := S.lend1 0 rfl rfl; refine Calls.mono (compact_calls _ _ _ _ (St.one _ hF) hsn) ?_; rintro e wz ⟨ad2, c2, rfl, T⟩; replace S := hBk _ _ rfl T; clear hBk hF T; simp only [List.set_cons_zero] at S) | ((with_reducible apply wps_load S 3); (case hx | hi | hu => rfl); (case hT => decide +kernel)) | ((with_reducible apply wps_loada (T := 28) (k := 4) S 2); (case hx | hi => rfl); (case hk => exact Nat.le_of_ble_eq_true rfl); (case hT => decide +kernel)) | (go_at_call 8; rw [hs2] at S; refine Calls.mono (HB2.out _ _ _ _ _ (S.get (i := 4) rfl).choose_spec (own_sl (sh := true) ecells (S.get (i := 0) rfl).choose_spec) (S.get (i := 6) rfl).choose_spec) ?_; rintro r wz ⟨rfl, hE⟩; replace S := S.ext (Keep.of_below hE); clear hE) | ((with_reducible apply wps_alloca (E := 28) S); (case hz => exact Tryd.zeroValue28); clear S; intro b11 wz S) | ((with_reducible apply wps_storea (T := 28) S 0 (vs := [.int .i64 0, .int .i64 0, .int .i64 0, .int .i64 0]) (m := 4)); (case hx | hy | hi | hm | h1 => rfl); (case hn => exact Nat.le_of_ble_eq_true rfl); (case hT => decide +kernel); clear S; intro wz S; simp only [List.set_cons_zero, List.set_cons_succ, setAll, List.setIfInBounds_toArray] at S) | ((with_reducible apply wps_loada (T := 28) (k := 4) S 3); (case hx | hi => rfl); (case hk => exact Nat.le_of_ble_eq_true rfl); (case hT => decide +kernel)) | ((with_reducible apply wps_storea (T := 28) S 2 (vs := [.int .i64 s.n0, .int .i64 s.n1, .int .i64 s.n2, .int .i64 s.n3]) (m := 4)); (case hx | hy | hi | hm | h1 => rfl); (case hn => exact Nat.le_of_ble_eq_true rfl); (case hT => decide +kernel); clear S; intro wz S; simp only [List.set_cons_zero, List.set_cons_succ, setAll, List.setIfInBounds_toArray] at S) | ((with_reducible refine tot_done ?ht ?_); (case ht => kernel_rfl)) | ((with_reducible apply wps_alloca (E := 28) S); (case hz => exact Tryd.zeroValue28); clear S; intro bz wz S) | ((with_reducible apply wps_load S 0); (case hx | hi | hu => rfl); (case hT => decide +kernel)) | ((with_reducible apply wps_loada (T := 28) (k := 4) S 0); (case hx | hi => rfl); (case hk => exact Nat.le_of_ble_eq_true rfl); (case hT => decide +kernel))
    (try simp only [Exit.inBlock, Exit.then]); refine bodyPost_ret (results2 rfl (S.resA 2 rfl rfl (by kernel_rfl)) (res_tmp rfl)) rfl ?_
    obtain ⟨rfl, rfl⟩ := HR.out
    exact ⟨none, 0, rfl, (S.nil 52 Event.cells 7).pick [0] rfl⟩
end Go.Proofs.YtjmecncebdbhdaaDoor
/- Lists of states; slices.Clone of them. -/
namespace Go.Proofs.YtjmecncebdbhdaaDoor
open Go Go.RowKit Reg Mem

set_option maxRecDepth 100000 in
theorem elem_Sst : Elem Tryd.prog 65 28 4 32 := ⟨_, .agg #[.int .i64 0, .int .i64 0, .int .i64 0, .int .i64 0], Tryd.underlying65, rfl, by kernel_rfl, by kernel_rfl, by kernel_rfl, by kernel_rfl, by omega⟩
end Go.Proofs.YtjmecncebdbhdaaDoor
/- A log as a thing of the state; the walks of New, Time, Len and States. -/
namespace Go.Proofs.YtjmecncebdbhdaaDoor
open Go Go.RowKit Reg Mem

/-- A log: its block, its states, and its batches. -/
def logA (X R : Nat) (g : LogE) : Asn := exs false fun p : Value × Value × List BatV =>
  sep false (pur (p.2.2.map (·.b) = g.done)) (sep false (Blk false X #[.pointer (some ⟨R, 0, none⟩), p.1, .int .i64 g.time, p.2.1] 93)
    (sep false (Own 28 State.cells 4 p.1 g.ss) (sep false (Own 77 BatV.cells 8 p.2.1 p.2.2)
      (sep false (Sls false Event.cells 7 (p.2.2.map (·.vi)) (p.2.2.map (·.b.ins))) (Sls false Event.cells 7 (p.2.2.map (·.vo)) (p.2.2.map (·.b.sent)))))))
theorem log_open {G : Nat → Prop} {w0 w : World} {L : List Asn} {X R : Nat} {g : LogE} (S : St G w0 w (logA X R g :: L)) :
    ∃ v1 v2 l, l.map (·.b) = g.done ∧ St G w0 w (Sls false Event.cells 7 (l.map (·.vi)) (l.map (·.b.ins)) :: Sls false Event.cells 7 (l.map (·.vo)) (l.map (·.b.sent)) :: Own 77 BatV.cells 8 v2 l :: Own 28 State.cells 4 v1 g.ss :: Blk false X #[.pointer (some ⟨R, 0, none⟩), v1, .int .i64 g.time, v2] 93 :: L) := by
  obtain ⟨⟨v1, v2, l⟩, S⟩ := S.open_exs (fun _ => rfl)
  obtain ⟨h1, S⟩ := (S.open_sep rfl rfl).open_pur
  exact ⟨v1, v2, l, h1, (((S.open_sep rfl rfl).swap2.open_sep rfl rfl).swap2.open_sep rfl rfl).swap2.open_sep rfl rfl⟩
theorem log_close {G : Nat → Prop} {w0 w : World} {L : List Asn} {X R : Nat} {g : LogE} {v1 v2 : Value} {l : List BatV} (hl : l.map (·.b) = g.done)
    (S : St G w0 w (Sls false Event.cells 7 (l.map (·.vi)) (l.map (·.b.ins)) :: Sls false Event.cells 7 (l.map (·.vo)) (l.map (·.b.sent)) :: Own 77 BatV.cells 8 v2 l :: Own 28 State.cells 4 v1 g.ss :: Blk false X #[.pointer (some ⟨R, 0, none⟩), v1, .int .i64 g.time, v2] 93 :: L)) : St G w0 w (logA X R g :: L) :=
  ((((((S.close_sep rfl rfl).swap2.close_sep rfl rfl).swap2.close_sep rfl rfl).swap2.close_sep rfl rfl).close_pur hl).close_sep rfl rfl).close_exs (A := fun p : Value × Value × List BatV =>
  sep false (pur (p.2.2.map (·.b) = g.done)) (sep false (Blk false X #[.pointer (some ⟨R, 0, none⟩), p.1, .int .i64 g.time, p.2.1] 93)
    (sep false (Own 28 State.cells 4 p.1 g.ss) (sep false (Own 77 BatV.cells 8 p.2.1 p.2.2)
      (sep false (Sls false Event.cells 7 (p.2.2.map (·.vi)) (p.2.2.map (·.b.ins))) (Sls false Event.cells 7 (p.2.2.map (·.vo)) (p.2.2.map (·.b.sent)))))))) (v1, v2, l) rfl
theorem logR_st {X R : Nat} {g : LogE} {w : World} {F : Nat → Prop} (h : (logA X R g).at_ w F) :
    ∃ v1 v2 l, l.map (·.b) = g.done ∧ St (fun _ => False) w w [Sls true Event.cells 7 (l.map (·.vi)) (l.map (·.b.ins)), Sls true Event.cells 7 (l.map (·.vo)) (l.map (·.b.sent)), Sl true BatV.cells 8 v2 l, Sl true State.cells 4 v1 g.ss, Blk true X #[.pointer (some ⟨R, 0, none⟩), v1, .int .i64 g.time, v2] 93] := by
  obtain ⟨⟨v1, v2, l⟩, F1, F2, ⟨h1, _⟩, ⟨F3, F4, h3, ⟨F5, F6, h5, ⟨F7, F8, h7, ⟨F9, F10, h9, h10, _, _⟩, _, _⟩, _, _⟩, _, _⟩, _, _⟩ := h
  refine ⟨v1, v2, l, h1, ?_⟩
  have S1 : St (fun _ => False) w w [Blk true X #[.pointer (some ⟨R, 0, none⟩), v1, .int .i64 g.time, v2] 93] := (St.init _ w).share rfl rfl h3
  have S2 := S1.share (A := Sl true State.cells 4 v1 g.ss) rfl rfl (own_sl (sh := true) sacells h5)
  have S3 := S2.share (A := Sl true BatV.cells 8 v2 l) rfl rfl (own_sl (sh := true) bvcells h7)
  have S4 := S3.share (A := Sls true Event.cells 7 (l.map fun x : BatV => x.vo) (l.map fun x : BatV => x.b.sent)) rfl rfl h10
  exact S4.share (A := Sls true Event.cells 7 (l.map fun x : BatV => x.vi) (l.map fun x : BatV => x.b.ins)) rfl rfl h9
def LNewRel (X R : Nat) (vs hs : List Value) (c : Cfg) (w : World) (i : Value) (wr : World) : Prop :=
  ∃ (j : Nat) (v1 : Value), j ≤ c.lps.length ∧ i = .int .i64 j ∧
    St (fun _ => False) w wr [ModA true 117 R vs hs c, Blk false X #[.pointer (some ⟨R, 0, none⟩), v1, .int .i64 0, .slice none 0 0] 93, Own 28 State.cells 4 v1 ((c.lps.take j).map (·.first))]
def LNewPost (R : Nat) (c : Cfg) (w : World) (e : Ending) (w' : World) : Prop :=
  ∃ X, e = .returned (.tuple #[.pointer (some ⟨X, 0, none⟩), .int .i64 0]) ∧ St (fun _ => False) w w' [logA X R (newL c)]
set_option maxRecDepth 100000 in
set_option maxHeartbeats 8000000 in
theorem lnew_calls (R : Nat) (vs hs : List Value) (c : Cfg) (w : World) (F : Nat → Prop) (h : (ModA true 117 R vs hs c).at_ w F) (hn : c.lps.length ≤ 32) :
    Calls Tryd.prog 11 #[.pointer (some ⟨R, 0, none⟩)] w (LNewPost R c w) := by
  have S : St (fun _ => False) w w [ModA true 117 R vs hs c] := (St.init _ w).share rfl rfl h
  clear h
  go_enter Tryd.func11, Tryd.ntmps11
  go_wp2_with first | ((with_reducible apply wps_boxa (E := 93) S); (case hx => rfl); clear S; intro bx wz S) | (go_at_call 36; refine Calls.mono (lps_calls _ _ _ _ _ _ (S.get (i := 1) rfl).choose_spec) ?_; rintro e wz ⟨rfl, hE⟩; replace S := S.ext (Keep.of_below hE); clear hE) | ((with_reducible apply wps_load S 0); (case hx | hi | hu => rfl); (case hT => decide +kernel))
  go_loopw [18] (fun i wr => LNewRel bx R vs hs c w i wr) (fun i _ => c.lps.length - (intOf i).toNat)
  case atStart =>
    exact ⟨0, .slice none 0 0, Nat.zero_le _, rfl, ((S.nil 28 State.cells 4).pick [2, 1, 0] rfl)⟩
  case round =>
    clear S
    obtain ⟨j, v1, hj, rfl, S⟩ := hrel
    by_cases hlt : j < c.lps.length
    · obtain ⟨p, hp⟩ : ∃ p, c.lps[j]? = some p := ⟨_, List.getElem?_eq_getElem hlt⟩
      have hlt2 : (j : Int) < c.lps.length := by omega
      obtain ⟨ssj, HSJ⟩ : ∃ l, Hid ((c.lps.take j).map (·.first) = l) := ⟨_, rfl⟩
      rw [HSJ.out] at S
      have htl : Hid (ssj.length = j) := Lib.hid (by rw [← HSJ.out, List.length_map, List.length_take]; omega)
      have hcl1 : ssj.length < 4294967296 := by rw [htl.out]; omega
      have HTS : Hid ((c.lps.take (j + 1)).map (·.first) = ssj ++ [p.first]) := Lib.hid (by rw [take_snoc hp, List.map_append, HSJ.out]; rfl)
      obtain ⟨a1, c1, rfl, _⟩ := (S.ownsl sacells 2 rfl).elim fun _ h => h.form
      have Hp := Lib.hid hp
      clear hp
      go_upto_region 7 with first | ((with_reducible apply wps_load S 3); (case hx | hi | hu => rfl); (case hT => decide +kernel))
      (refine wp_region_wt (soft := [0, 1, 2, 3, 5, 6, 7, 8, 10]) (L := [_]) (T := [_, _]) S ?hm ?hB ?_); (case hm => kernel_rfl); (case hB => decide +kernel); clear S
      iterate 9
        (with_reducible apply softs_cons)
        (case hw =>
          (with_reducible apply soft_of); (case hi => rfl)
          intro T wz S
          simp only [List.cons_append, List.nil_append] at S
          go_wp2_with first | ((with_reducible refine tot_done ?ht ?_); (case ht => kernel_rfl))
          exact ⟨rfl, S⟩)
        (case hs => exact ⟨_, rfl, by kernel_rfl⟩)
      refine softs_nil ?_
      (with_reducible apply W_hard2 (i := 4) (i' := 9)); (case hn => rfl); (case hr => decide +kernel)
      focus
        intro wz S
        (with_reducible apply hard_of); (case hi => rfl)
        simp only [List.cons_append, List.nil_append] at S
        go_wp2_with first | ((with_reducible refine tot_done ?ht ?_); (case ht => kernel_rfl)) | ((with_reducible apply wps_load S 1); (case hx | hi | hu => rfl); (case hT => decide +kernel))
        refine ⟨_, S, ?_⟩
        clear S
        (with_reducible apply W_hard1 (i := 9)); (case hn => rfl); (case hr => decide +kernel)
        intro wz S
        (with_reducible apply hard_of); (case hi => rfl)
        simp only [List.cons_append, List.nil_append] at S
        go_wp2_with first | ((with_reducible refine tot_done ?ht ?_); (case ht => kernel_rfl)) | ((with_reducible apply wps_load S 1); (case hx | hi | hu => rfl); (case hT => decide +kernel))
        refine ⟨_, S, ?_⟩
        clear S
        (refine W_mid (f := 5) (soft := [11]) rfl ?hB ?_); (case hB => decide +kernel)
        iterate 1
          (with_reducible apply softs_cons)
          (case hw =>
            (with_reducible apply soft_of); (case hi => rfl)
            intro T wz S
            simp only [List.cons_append, List.nil_append] at S
            go_wp2_with first | (go_at_call 37; refine Calls.mono (first_at _ _ _ _ _ _ j p (S.get (i := 0) rfl).choose_spec Hp.out) ?_; rintro e wz ⟨rfl, hE⟩; replace S := S.ext (Keep.of_below hE); clear hE) | ((with_reducible refine tot_done ?ht ?_); (case ht => kernel_rfl))
            exact ⟨rfl, S⟩)
          (case hs => exact ⟨_, rfl, by kernel_rfl⟩)
        refine softs_nil ?_
        (with_reducible apply W_hard1 (i := 12)); (case hn => rfl); (case hr => decide +kernel)
        intro wz S
        (with_reducible apply hard_of); (case hi => rfl)
        simp only [List.cons_append, List.nil_append] at S
        go_wp2_with first | ((with_reducible apply wps_build1a (T := 65) (E := 28) S); (case hx => rfl); (case hr => intro w; kernel_rfl); clear S; intro bz wz S) | ((with_reducible refine tot_done ?ht ?_); (case ht => kernel_rfl))
        refine ⟨_, S.pick [1, 2, 3, 0] rfl, ?_⟩
        clear S
        (with_reducible apply W_hard1 (i := 13)); (case hn => rfl); (case hr => decide +kernel)
        intro wz S
        (with_reducible apply hard_of); (case hi => rfl)
        simp only [List.cons_append, List.nil_append] at S
        go_wp2_with first | ((with_reducible apply wps_append1 elem_Sst sacells saone (by decide) S 2 (j := 3) (e := p.first)); (case hx | hy | hi | hj | he => rfl); (case hl => omega); clear S; intro az nz cz wz hnz S; simp only [List.set_cons_succ] at S) | ((with_reducible refine tot_done ?ht ?_); (case ht => kernel_rfl))
        refine ⟨_, S, ?_⟩
        clear S
        (refine W_mid (f := 1) (soft := [14, 15]) rfl ?hB ?_); (case hB => decide +kernel)
        iterate 2
          (with_reducible apply softs_cons)
          (case hw =>
            (with_reducible apply soft_of); (case hi => rfl)
            intro T wz S
            simp only [List.cons_append, List.nil_append] at S
            go_wp2_with first | ((with_reducible refine tot_done ?ht ?_); (case ht => kernel_rfl))
            exact ⟨rfl, S⟩)
          (case hs => exact ⟨_, rfl, by kernel_rfl⟩)
        refine softs_nil ?_
        (with_reducible apply W_hard1 (i := 16)); (case hn => rfl); (case hr => decide +kernel)
        intro wz S
        (with_reducible apply hard_of); (case hi => rfl)
        simp only [List.cons_append, List.nil_append] at S
        go_wp2_with first | ((with_reducible apply wps_store (u := (.slice az nz cz)) S 1); (case hx | hy | hi | h1 => rfl); (case hn => exact Nat.le_of_ble_eq_true rfl); (case hT => decide +kernel); clear S; intro wz S; simp only [List.set_cons_succ, List.set_cons_zero, List.setIfInBounds_toArray] at S) | ((with_reducible refine tot_done ?ht ?_); (case ht => kernel_rfl))
        refine ⟨_, S, ?_⟩
        clear S
        (with_reducible apply W_done); (case hn => rfl); (case hr => decide +kernel)
        intro wz S
        repeat (first | simp only at S | simp only [pick] at S | simp only [nth] at S | simp only [List.set_cons_succ] at S | simp only [List.set_cons_zero] at S | simp only [List.setIfInBounds_toArray] at S | simp only [setAll] at S | simp only [List.cons_append] at S | simp only [List.nil_append] at S | simp only [List.append_nil] at S)
      rotate_left 1
      focus
        intro wz S
        (with_reducible apply hard_of); (case hi => rfl)
        simp only [List.cons_append, List.nil_append] at S
        go_wp2_with first | ((with_reducible refine tot_done ?ht ?_); (case ht => kernel_rfl)) | ((with_reducible apply wps_load S 1); (case hx | hi | hu => rfl); (case hT => decide +kernel))
        refine ⟨_, S, ?_⟩
        clear S
        (refine W_mid (f := 6) (soft := [11]) rfl ?hB ?_); (case hB => decide +kernel)
        iterate 1
          (with_reducible apply softs_cons)
          (case hw =>
            (with_reducible apply soft_of); (case hi => rfl)
            intro T wz S
            simp only [List.cons_append, List.nil_append] at S
            go_wp2_with first | (go_at_call 37; refine Calls.mono (first_at _ _ _ _ _ _ j p (S.get (i := 0) rfl).choose_spec Hp.out) ?_; rintro e wz ⟨rfl, hE⟩; replace S := S.ext (Keep.of_below hE); clear hE) | ((with_reducible refine tot_done ?ht ?_); (case ht => kernel_rfl))
            exact ⟨rfl, S⟩)
          (case hs => exact ⟨_, rfl, by kernel_rfl⟩)
        refine softs_nil ?_
        (with_reducible apply W_hard2 (i := 4) (i' := 12)); (case hn => rfl); (case hr => decide +kernel)
        focus
          intro wz S
          (with_reducible apply hard_of); (case hi => rfl)
          simp only [List.cons_append, List.nil_append] at S
          go_wp2_with first | ((with_reducible refine tot_done ?ht ?_); (case ht => kernel_rfl)) | ((with_reducible apply wps_load S 1); (case hx | hi | hu => rfl); (case hT => decide +kernel))
          refine ⟨_, S, ?_⟩
          clear S
          (with_reducible apply W_hard1 (i := 12)); (case hn => rfl); (case hr => decide +kernel)
          intro wz S
          (with_reducible apply hard_of); (case hi => rfl)
          simp only [List.cons_append, List.nil_append] at S
          go_wp2_with first | ((with_reducible apply wps_build1a (T := 65) (E := 28) S); (case hx => rfl); (case hr => intro w; kernel_rfl); clear S; intro bz wz S) | ((with_reducible refine tot_done ?ht ?_); (case ht => kernel_rfl))
          refine ⟨_, S.pick [1, 2, 3, 0] rfl, ?_⟩
          clear S
          (with_reducible apply W_hard1 (i := 13)); (case hn => rfl); (case hr => decide +kernel)
          intro wz S
          (with_reducible apply hard_of); (case hi => rfl)
          simp only [List.cons_append, List.nil_append] at S
          go_wp2_with first | ((with_reducible apply wps_append1 elem_Sst sacells saone (by decide) S 2 (j := 3) (e := p.first)); (case hx | hy | hi | hj | he => rfl); (case hl => omega); clear S; intro az nz cz wz hnz S; simp only [List.set_cons_succ] at S) | ((with_reducible refine tot_done ?ht ?_); (case ht => kernel_rfl))
          refine ⟨_, S, ?_⟩
          clear S
          (refine W_mid (f := 1) (soft := [14, 15]) rfl ?hB ?_); (case hB => decide +kernel)
          iterate 2
            (with_reducible apply softs_cons)
            (case hw =>
              (with_reducible apply soft_of); (case hi => rfl)
              intro T wz S
              simp only [List.cons_append, List.nil_append] at S
              go_wp2_with first | ((with_reducible refine tot_done ?ht ?_); (case ht => kernel_rfl))
              exact ⟨rfl, S⟩)
            (case hs => exact ⟨_, rfl, by kernel_rfl⟩)
          refine softs_nil ?_
          (with_reducible apply W_hard1 (i := 16)); (case hn => rfl); (case hr => decide +kernel)
          intro wz S
          (with_reducible apply hard_of); (case hi => rfl)
          simp only [List.cons_append, List.nil_append] at S
          go_wp2_with first | ((with_reducible apply wps_store (u := (.slice az nz cz)) S 1); (case hx | hy | hi | h1 => rfl); (case hn => exact Nat.le_of_ble_eq_true rfl); (case hT => decide +kernel); clear S; intro wz S; simp only [List.set_cons_succ, List.set_cons_zero, List.setIfInBounds_toArray] at S) | ((with_reducible refine tot_done ?ht ?_); (case ht => kernel_rfl))
          refine ⟨_, S, ?_⟩
          clear S
          (with_reducible apply W_done); (case hn => rfl); (case hr => decide +kernel)
          intro wz S
          repeat (first | simp only at S | simp only [pick] at S | simp only [nth] at S | simp only [List.set_cons_succ] at S | simp only [List.set_cons_zero] at S | simp only [List.setIfInBounds_toArray] at S | simp only [setAll] at S | simp only [List.cons_append] at S | simp only [List.nil_append] at S | simp only [List.append_nil] at S)
        rotate_left 1
        focus
          intro wz S
          (with_reducible apply hard_of); (case hi => rfl)
          simp only [List.cons_append, List.nil_append] at S
          go_wp2_with first | ((with_reducible apply wps_build1a (T := 65) (E := 28) S); (case hx => rfl); (case hr => intro w; kernel_rfl); clear S; intro bz wz S) | ((with_reducible refine tot_done ?ht ?_); (case ht => kernel_rfl))
          refine ⟨_, S.pick [1, 2, 3, 0] rfl, ?_⟩
          clear S
          (with_reducible apply W_hard1 (i := 4)); (case hn => rfl); (case hr => decide +kernel)
          intro wz S
          (with_reducible apply hard_of); (case hi => rfl)
          simp only [List.cons_append, List.nil_append] at S
          go_wp2_with first | ((with_reducible refine tot_done ?ht ?_); (case ht => kernel_rfl)) | ((with_reducible apply wps_load S 1); (case hx | hi | hu => rfl); (case hT => decide +kernel))
          refine ⟨_, S, ?_⟩
          clear S
          (with_reducible apply W_hard1 (i := 13)); (case hn => rfl); (case hr => decide +kernel)
          intro wz S
          (with_reducible apply hard_of); (case hi => rfl)
          simp only [List.cons_append, List.nil_append] at S
          go_wp2_with first | ((with_reducible apply wps_append1 elem_Sst sacells saone (by decide) S 2 (j := 3) (e := p.first)); (case hx | hy | hi | hj | he => rfl); (case hl => omega); clear S; intro az nz cz wz hnz S; simp only [List.set_cons_succ] at S) | ((with_reducible refine tot_done ?ht ?_); (case ht => kernel_rfl))
          refine ⟨_, S, ?_⟩
          clear S
          (refine W_mid (f := 1) (soft := [14, 15]) rfl ?hB ?_); (case hB => decide +kernel)
          iterate 2
            (with_reducible apply softs_cons)
            (case hw =>
              (with_reducible apply soft_of); (case hi => rfl)
              intro T wz S
              simp only [List.cons_append, List.nil_append] at S
              go_wp2_with first | ((with_reducible refine tot_done ?ht ?_); (case ht => kernel_rfl))
              exact ⟨rfl, S⟩)
            (case hs => exact ⟨_, rfl, by kernel_rfl⟩)
          refine softs_nil ?_
          (with_reducible apply W_hard1 (i := 16)); (case hn => rfl); (case hr => decide +kernel)
          intro wz S
          (with_reducible apply hard_of); (case hi => rfl)
          simp only [List.cons_append, List.nil_append] at S
          go_wp2_with first | ((with_reducible apply wps_store (u := (.slice az nz cz)) S 1); (case hx | hy | hi | h1 => rfl); (case hn => exact Nat.le_of_ble_eq_true rfl); (case hT => decide +kernel); clear S; intro wz S; simp only [List.set_cons_succ, List.set_cons_zero, List.setIfInBounds_toArray] at S) | ((with_reducible refine tot_done ?ht ?_); (case ht => kernel_rfl))
          refine ⟨_, S, ?_⟩
          clear S
          (with_reducible apply W_done); (case hn => rfl); (case hr => decide +kernel)
          intro wz S
          repeat (first | simp only at S | simp only [pick] at S | simp only [nth] at S | simp only [List.set_cons_succ] at S | simp only [List.set_cons_zero] at S | simp only [List.setIfInBounds_toArray] at S | simp only [setAll] at S | simp only [List.cons_append] at S | simp only [List.nil_append] at S | simp only [List.append_nil] at S)
      all_goals
        go_wp2_with first | ((with_reducible apply wps_load S 3); (case hx | hi | hu => rfl); (case hT => decide +kernel))
        go_roundw
        case rel =>
          refine ⟨j + 1, .slice az nz cz, by omega, by go_num, ?_⟩
          rw [HTS.out]
          exact S.pick [0, 1, 2] rfl
        case measure => simp [intOf]; omega
    · obtain rfl : j = c.lps.length := by omega
      rw [List.take_length] at S
      have S2 := (((S.nil 77 BatV.cells 8).slsNil Event.cells 7).slsNil Event.cells 7).pick [0, 1, 2, 5, 4] rfl
      simp only [pick, nth] at S2
      have S3 := log_close (g := newL c) (l := []) rfl S2
      clear S2
      go_wp2_with first | ((with_reducible apply wps_load S 3); (case hx | hi | hu => rfl); (case hT => decide +kernel))
      (try simp only [Exit.inBlock, Exit.then]); refine bodyPost_ret (results2 rfl (res_tmp rfl) (res_tmp rfl)) rfl ?_
      exact ⟨bx, rfl, S3⟩
end Go.Proofs.YtjmecncebdbhdaaDoor
/- The walk of fossil's own: a batch that shares no memory. -/
namespace Go.Proofs.YtjmecncebdbhdaaDoor
open Go Go.RowKit Reg Mem

def LOwnPost (b : BatE) (w : World) (e : Ending) (w' : World) : Prop :=
  ∃ ai ci ao co, e = .returned (.agg #[.int .i64 b.at_, .int .i64 b.lp, .slice ai b.ins.length ci, .int .i64 b.thn.n0, .int .i64 b.thn.n1, .int .i64 b.thn.n2, .int .i64 b.thn.n3, .slice ao b.sent.length co]) ∧
    St (fun _ => False) w w' [Own 52 Event.cells 7 (.slice ai b.ins.length ci) b.ins, Own 52 Event.cells 7 (.slice ao b.sent.length co) b.sent]
set_option maxRecDepth 100000 in
set_option maxHeartbeats 8000000 in
theorem lown_calls (x : BatV) (w : World) (F F2 : Nat → Prop) (h : (Sl true Event.cells 7 x.vi x.b.ins).at_ w F) (h2 : (Sl true Event.cells 7 x.vo x.b.sent).at_ w F2) (hn : x.b.ins.length ≤ 4294967296) (hn2 : x.b.sent.length ≤ 4294967296) :
    Calls Tryd.prog 40 #[.agg #[.int .i64 x.b.at_, .int .i64 x.b.lp, .slice x.ai x.b.ins.length x.ci, .int .i64 x.b.thn.n0, .int .i64 x.b.thn.n1, .int .i64 x.b.thn.n2, .int .i64 x.b.thn.n3, .slice x.ao x.b.sent.length x.co]] w (LOwnPost x.b w) := by
  obtain ⟨⟨at_, lp, ins, thn, sent⟩, xi, xci, xo, xco⟩ := x
  simp only [BatV.vi, BatV.vo] at *
  have S : St (fun _ => False) w w [Sl true Event.cells 7 (.slice xi ins.length xci) ins, Sl true Event.cells 7 (.slice xo sent.length xco) sent] := ((St.init _ w).share rfl rfl h2).share rfl rfl h
  clear h h2
  go_enter Tryd.func40, Tryd.ntmps40
  go_upto_region 1 with first | ((with_reducible apply wps_boxa (E := 77) S); (case hx => rfl); clear S; intro b1 wz S) | ((with_reducible apply wps_alloca (E := 77) S); (case hz => exact Tryd.zeroValue77); clear S; intro b2 wz S)
  replace S := S.pick [2, 3, 0, 1] rfl
  simp only [pick, nth] at S
  (refine wp_region_wt (soft := [0, 3]) (L := [_, _, _]) (T := [_]) S ?hm ?hB ?_); (case hm => kernel_rfl); (case hB => decide +kernel); clear S
  iterate 2
    (with_reducible apply softs_cons)
    (case hw =>
      (with_reducible apply soft_of); (case hi => rfl)
      intro T wz S
      simp only [List.cons_append, List.nil_append] at S
      go_wp2_with first | ((with_reducible refine tot_done ?ht ?_); (case ht => kernel_rfl))
      exact ⟨rfl, S⟩)
    (case hs => exact ⟨_, rfl, by kernel_rfl⟩)
  refine softs_nil ?_
  (with_reducible apply W_hard2 (i := 1) (i' := 4)); (case hn => rfl); (case hr => decide +kernel)
  focus
    intro wz S
    (with_reducible apply hard_of); (case hi => rfl)
    simp only [List.cons_append, List.nil_append] at S
    go_wp2_with first | ((with_reducible apply wps_load S 3); (case hx | hi | hu => rfl); (case hT => decide +kernel)) | ((with_reducible refine tot_done ?ht ?_); (case ht => kernel_rfl))
    refine ⟨_, S, ?_⟩
    clear S
    (with_reducible apply W_hard2 (i := 2) (i' := 4)); (case hn => rfl); (case hr => decide +kernel)
    focus
      intro wz S
      (with_reducible apply hard_of); (case hi => rfl)
      simp only [List.cons_append, List.nil_append] at S
      go_wp2_with first | (go_at_call 23; have hcz := fun w F h => clone_Ev (ad := xi) (n := ins.length) (c := xci) (xs := ins) w F h hn; (with_reducible refine Calls.mono (hcz _ _ (S.get (i := 0) rfl).choose_spec) ?_); clear hcz; rintro e wz ⟨ai, ci, rfl, _, T⟩; replace S := S.join T rfl; clear T; simp only [List.cons_append, List.nil_append] at S) | ((with_reducible refine tot_done ?ht ?_); (case ht => kernel_rfl))
      refine ⟨_, S.pick [1, 2, 3, 4, 0] rfl, ?_⟩
      clear S
      (with_reducible apply W_hard1 (i := 4)); (case hn => rfl); (case hr => decide +kernel)
      intro wz S
      (with_reducible apply hard_of); (case hi => rfl)
      simp only [List.cons_append, List.nil_append] at S
      go_wp2_with first | ((with_reducible apply wps_load S 3); (case hx | hi | hu => rfl); (case hT => decide +kernel)) | ((with_reducible refine tot_done ?ht ?_); (case ht => kernel_rfl))
      refine ⟨_, S, ?_⟩
      clear S
      (refine W_mid (f := 4) (soft := [6]) rfl ?hB ?_); (case hB => decide +kernel)
      iterate 1
        (with_reducible apply softs_cons)
        (case hw =>
          (with_reducible apply soft_of); (case hi => rfl)
          intro T wz S
          simp only [List.cons_append, List.nil_append] at S
          go_wp2_with first | ((with_reducible refine tot_done ?ht ?_); (case ht => kernel_rfl))
          exact ⟨rfl, S⟩)
        (case hs => exact ⟨_, rfl, by kernel_rfl⟩)
      refine softs_nil ?_
      (with_reducible apply W_hard1 (i := 5)); (case hn => rfl); (case hr => decide +kernel)
      intro wz S
      (with_reducible apply hard_of); (case hi => rfl)
      simp only [List.cons_append, List.nil_append] at S
      go_wp2_with first | (go_at_call 23; have hcz := fun w F h => clone_Ev (ad := xo) (n := sent.length) (c := xco) (xs := sent) w F h hn2; (with_reducible refine Calls.mono (hcz _ _ (S.get (i := 1) rfl).choose_spec) ?_); clear hcz; rintro e wz ⟨ao, co, rfl, _, T⟩; replace S := S.join T rfl; clear T; simp only [List.cons_append, List.nil_append] at S) | ((with_reducible refine tot_done ?ht ?_); (case ht => kernel_rfl))
      refine ⟨_, S.pick [1, 2, 3, 4, 5, 0] rfl, ?_⟩
      clear S
      (with_reducible apply W_hard1 (i := 7)); (case hn => rfl); (case hr => decide +kernel)
      intro wz S
      (with_reducible apply hard_of); (case hi => rfl)
      simp only [List.cons_append, List.nil_append] at S
      go_wp2_with first | ((with_reducible apply wps_store (u := (.slice ai ins.length ci)) S 3); (case hx | hy | hi | h1 => rfl); (case hn => exact Nat.le_of_ble_eq_true rfl); (case hT => decide +kernel); clear S; intro wz S; simp only [List.set_cons_succ, List.set_cons_zero, List.setIfInBounds_toArray] at S) | ((with_reducible refine tot_done ?ht ?_); (case ht => kernel_rfl))
      refine ⟨_, S, ?_⟩
      clear S
      (refine W_mid (f := 1) (soft := [8]) rfl ?hB ?_); (case hB => decide +kernel)
      iterate 1
        (with_reducible apply softs_cons)
        (case hw =>
          (with_reducible apply soft_of); (case hi => rfl)
          intro T wz S
          simp only [List.cons_append, List.nil_append] at S
          go_wp2_with first | ((with_reducible refine tot_done ?ht ?_); (case ht => kernel_rfl))
          exact ⟨rfl, S⟩)
        (case hs => exact ⟨_, rfl, by kernel_rfl⟩)
      refine softs_nil ?_
      (with_reducible apply W_hard1 (i := 9)); (case hn => rfl); (case hr => decide +kernel)
      intro wz S
      (with_reducible apply hard_of); (case hi => rfl)
      simp only [List.cons_append, List.nil_append] at S
      go_wp2_with first | ((with_reducible apply wps_store (u := (.slice ao sent.length co)) S 3); (case hx | hy | hi | h1 => rfl); (case hn => exact Nat.le_of_ble_eq_true rfl); (case hT => decide +kernel); clear S; intro wz S; simp only [List.set_cons_succ, List.set_cons_zero, List.setIfInBounds_toArray] at S) | ((with_reducible refine tot_done ?ht ?_); (case ht => kernel_rfl))
      refine ⟨_, S, ?_⟩
      clear S
      (with_reducible apply W_done); (case hn => rfl); (case hr => decide +kernel)
      intro wz S
      repeat (first | simp only at S | simp only [pick] at S | simp only [nth] at S | simp only [List.set_cons_succ] at S | simp only [List.set_cons_zero] at S | simp only [List.setIfInBounds_toArray] at S | simp only [setAll] at S | simp only [List.cons_append] at S | simp only [List.nil_append] at S | simp only [List.append_nil] at S)
    rotate_left 1
    focus
      intro wz S
      (with_reducible apply hard_of); (case hi => rfl)
      simp only [List.cons_append, List.nil_append] at S
      go_wp2_with first | ((with_reducible apply wps_load S 3); (case hx | hi | hu => rfl); (case hT => decide +kernel)) | ((with_reducible refine tot_done ?ht ?_); (case ht => kernel_rfl))
      refine ⟨_, S, ?_⟩
      clear S
      (with_reducible apply W_hard1 (i := 2)); (case hn => rfl); (case hr => decide +kernel)
      intro wz S
      (with_reducible apply hard_of); (case hi => rfl)
      simp only [List.cons_append, List.nil_append] at S
      go_wp2_with first | (go_at_call 23; have hcz := fun w F h => clone_Ev (ad := xi) (n := ins.length) (c := xci) (xs := ins) w F h hn; (with_reducible refine Calls.mono (hcz _ _ (S.get (i := 0) rfl).choose_spec) ?_); clear hcz; rintro e wz ⟨ai, ci, rfl, _, T⟩; replace S := S.join T rfl; clear T; simp only [List.cons_append, List.nil_append] at S) | ((with_reducible refine tot_done ?ht ?_); (case ht => kernel_rfl))
      refine ⟨_, S.pick [1, 2, 3, 4, 0] rfl, ?_⟩
      clear S
      (refine W_mid (f := 4) (soft := [6]) rfl ?hB ?_); (case hB => decide +kernel)
      iterate 1
        (with_reducible apply softs_cons)
        (case hw =>
          (with_reducible apply soft_of); (case hi => rfl)
          intro T wz S
          simp only [List.cons_append, List.nil_append] at S
          go_wp2_with first | ((with_reducible refine tot_done ?ht ?_); (case ht => kernel_rfl))
          exact ⟨rfl, S⟩)
        (case hs => exact ⟨_, rfl, by kernel_rfl⟩)
      refine softs_nil ?_
      (with_reducible apply W_hard1 (i := 5)); (case hn => rfl); (case hr => decide +kernel)
      intro wz S
      (with_reducible apply hard_of); (case hi => rfl)
      simp only [List.cons_append, List.nil_append] at S
      go_wp2_with first | (go_at_call 23; have hcz := fun w F h => clone_Ev (ad := xo) (n := sent.length) (c := xco) (xs := sent) w F h hn2; (with_reducible refine Calls.mono (hcz _ _ (S.get (i := 1) rfl).choose_spec) ?_); clear hcz; rintro e wz ⟨ao, co, rfl, _, T⟩; replace S := S.join T rfl; clear T; simp only [List.cons_append, List.nil_append] at S) | ((with_reducible refine tot_done ?ht ?_); (case ht => kernel_rfl))
      refine ⟨_, S.pick [1, 2, 3, 4, 5, 0] rfl, ?_⟩
      clear S
      (with_reducible apply W_hard1 (i := 7)); (case hn => rfl); (case hr => decide +kernel)
      intro wz S
      (with_reducible apply hard_of); (case hi => rfl)
      simp only [List.cons_append, List.nil_append] at S
      go_wp2_with first | ((with_reducible apply wps_store (u := (.slice ai ins.length ci)) S 3); (case hx | hy | hi | h1 => rfl); (case hn => exact Nat.le_of_ble_eq_true rfl); (case hT => decide +kernel); clear S; intro wz S; simp only [List.set_cons_succ, List.set_cons_zero, List.setIfInBounds_toArray] at S) | ((with_reducible refine tot_done ?ht ?_); (case ht => kernel_rfl))
      refine ⟨_, S, ?_⟩
      clear S
      (refine W_mid (f := 1) (soft := [8]) rfl ?hB ?_); (case hB => decide +kernel)
      iterate 1
        (with_reducible apply softs_cons)
        (case hw =>
          (with_reducible apply soft_of); (case hi => rfl)
          intro T wz S
          simp only [List.cons_append, List.nil_append] at S
          go_wp2_with first | ((with_reducible refine tot_done ?ht ?_); (case ht => kernel_rfl))
          exact ⟨rfl, S⟩)
        (case hs => exact ⟨_, rfl, by kernel_rfl⟩)
      refine softs_nil ?_
      (with_reducible apply W_hard1 (i := 9)); (case hn => rfl); (case hr => decide +kernel)
      intro wz S
      (with_reducible apply hard_of); (case hi => rfl)
      simp only [List.cons_append, List.nil_append] at S
      go_wp2_with first | ((with_reducible apply wps_store (u := (.slice ao sent.length co)) S 3); (case hx | hy | hi | h1 => rfl); (case hn => exact Nat.le_of_ble_eq_true rfl); (case hT => decide +kernel); clear S; intro wz S; simp only [List.set_cons_succ, List.set_cons_zero, List.setIfInBounds_toArray] at S) | ((with_reducible refine tot_done ?ht ?_); (case ht => kernel_rfl))
      refine ⟨_, S, ?_⟩
      clear S
      (with_reducible apply W_done); (case hn => rfl); (case hr => decide +kernel)
      intro wz S
      repeat (first | simp only at S | simp only [pick] at S | simp only [nth] at S | simp only [List.set_cons_succ] at S | simp only [List.set_cons_zero] at S | simp only [List.setIfInBounds_toArray] at S | simp only [setAll] at S | simp only [List.cons_append] at S | simp only [List.nil_append] at S | simp only [List.append_nil] at S)
  rotate_left 2
  focus
    intro wz S
    (with_reducible apply hard_of); (case hi => rfl)
    simp only [List.cons_append, List.nil_append] at S
    go_wp2_with first | ((with_reducible apply wps_load S 3); (case hx | hi | hu => rfl); (case hT => decide +kernel)) | ((with_reducible refine tot_done ?ht ?_); (case ht => kernel_rfl))
    refine ⟨_, S, ?_⟩
    clear S
    (with_reducible apply W_hard1 (i := 1)); (case hn => rfl); (case hr => decide +kernel)
    intro wz S
    (with_reducible apply hard_of); (case hi => rfl)
    simp only [List.cons_append, List.nil_append] at S
    go_wp2_with first | ((with_reducible apply wps_load S 3); (case hx | hi | hu => rfl); (case hT => decide +kernel)) | ((with_reducible refine tot_done ?ht ?_); (case ht => kernel_rfl))
    refine ⟨_, S, ?_⟩
    clear S
    (with_reducible apply W_hard1 (i := 2)); (case hn => rfl); (case hr => decide +kernel)
    intro wz S
    (with_reducible apply hard_of); (case hi => rfl)
    simp only [List.cons_append, List.nil_append] at S
    go_wp2_with first | (go_at_call 23; have hcz := fun w F h => clone_Ev (ad := xi) (n := ins.length) (c := xci) (xs := ins) w F h hn; (with_reducible refine Calls.mono (hcz _ _ (S.get (i := 0) rfl).choose_spec) ?_); clear hcz; rintro e wz ⟨ai, ci, rfl, _, T⟩; replace S := S.join T rfl; clear T; simp only [List.cons_append, List.nil_append] at S) | ((with_reducible refine tot_done ?ht ?_); (case ht => kernel_rfl))
    refine ⟨_, S.pick [1, 2, 3, 4, 0] rfl, ?_⟩
    clear S
    (refine W_mid (f := 4) (soft := [6]) rfl ?hB ?_); (case hB => decide +kernel)
    iterate 1
      (with_reducible apply softs_cons)
      (case hw =>
        (with_reducible apply soft_of); (case hi => rfl)
        intro T wz S
        simp only [List.cons_append, List.nil_append] at S
        go_wp2_with first | ((with_reducible refine tot_done ?ht ?_); (case ht => kernel_rfl))
        exact ⟨rfl, S⟩)
      (case hs => exact ⟨_, rfl, by kernel_rfl⟩)
    refine softs_nil ?_
    (with_reducible apply W_hard1 (i := 5)); (case hn => rfl); (case hr => decide +kernel)
    intro wz S
    (with_reducible apply hard_of); (case hi => rfl)
    simp only [List.cons_append, List.nil_append] at S
    go_wp2_with first | (go_at_call 23; have hcz := fun w F h => clone_Ev (ad := xo) (n := sent.length) (c := xco) (xs := sent) w F h hn2; (with_reducible refine Calls.mono (hcz _ _ (S.get (i := 1) rfl).choose_spec) ?_); clear hcz; rintro e wz ⟨ao, co, rfl, _, T⟩; replace S := S.join T rfl; clear T; simp only [List.cons_append, List.nil_append] at S) | ((with_reducible refine tot_done ?ht ?_); (case ht => kernel_rfl))
    refine ⟨_, S.pick [1, 2, 3, 4, 5, 0] rfl, ?_⟩
    clear S
    (with_reducible apply W_hard1 (i := 7)); (case hn => rfl); (case hr => decide +kernel)
    intro wz S
    (with_reducible apply hard_of); (case hi => rfl)
    simp only [List.cons_append, List.nil_append] at S
    go_wp2_with first | ((with_reducible apply wps_store (u := (.slice ai ins.length ci)) S 3); (case hx | hy | hi | h1 => rfl); (case hn => exact Nat.le_of_ble_eq_true rfl); (case hT => decide +kernel); clear S; intro wz S; simp only [List.set_cons_succ, List.set_cons_zero, List.setIfInBounds_toArray] at S) | ((with_reducible refine tot_done ?ht ?_); (case ht => kernel_rfl))
    refine ⟨_, S, ?_⟩
    clear S
    (refine W_mid (f := 1) (soft := [8]) rfl ?hB ?_); (case hB => decide +kernel)
    iterate 1
      (with_reducible apply softs_cons)
      (case hw =>
        (with_reducible apply soft_of); (case hi => rfl)
        intro T wz S
        simp only [List.cons_append, List.nil_append] at S
        go_wp2_with first | ((with_reducible refine tot_done ?ht ?_); (case ht => kernel_rfl))
        exact ⟨rfl, S⟩)
      (case hs => exact ⟨_, rfl, by kernel_rfl⟩)
    refine softs_nil ?_
    (with_reducible apply W_hard1 (i := 9)); (case hn => rfl); (case hr => decide +kernel)
    intro wz S
    (with_reducible apply hard_of); (case hi => rfl)
    simp only [List.cons_append, List.nil_append] at S
    go_wp2_with first | ((with_reducible apply wps_store (u := (.slice ao sent.length co)) S 3); (case hx | hy | hi | h1 => rfl); (case hn => exact Nat.le_of_ble_eq_true rfl); (case hT => decide +kernel); clear S; intro wz S; simp only [List.set_cons_succ, List.set_cons_zero, List.setIfInBounds_toArray] at S) | ((with_reducible refine tot_done ?ht ?_); (case ht => kernel_rfl))
    refine ⟨_, S, ?_⟩
    clear S
    (with_reducible apply W_done); (case hn => rfl); (case hr => decide +kernel)
    intro wz S
    repeat (first | simp only at S | simp only [pick] at S | simp only [nth] at S | simp only [List.set_cons_succ] at S | simp only [List.set_cons_zero] at S | simp only [List.setIfInBounds_toArray] at S | simp only [setAll] at S | simp only [List.cons_append] at S | simp only [List.nil_append] at S | simp only [List.append_nil] at S)
  all_goals
    go_wp2_with first | ((with_reducible apply wps_loada (T := 77) (k := 8) S 3); (case hx | hi => rfl); (case hk => exact Nat.le_of_ble_eq_true rfl); (case hT => decide +kernel)) | ((with_reducible apply wps_storea (T := 77) S 2 (vs := [.int .i64 at_, .int .i64 lp, .slice ai ins.length ci, .int .i64 thn.n0, .int .i64 thn.n1, .int .i64 thn.n2, .int .i64 thn.n3, .slice ao sent.length co]) (m := 8)); (case hx | hy | hi | hm | h1 => rfl); (case hn => exact Nat.le_of_ble_eq_true rfl); (case hT => decide +kernel); clear S; intro wz S; simp only [List.set_cons_zero, List.set_cons_succ, setAll, List.setIfInBounds_toArray] at S)
    (try simp only [Exit.inBlock, Exit.then]); (with_reducible apply S.ret_cell 2); (case hi | h | hp => rfl); (case hA => kernel_rfl); (case hd => rfl)
    exact ⟨ai, ci, ao, co, rfl, S.pick [4, 5] rfl⟩
end Go.Proofs.YtjmecncebdbhdaaDoor
/- A configuration out of its parts. -/
namespace Go.Proofs.YtjmecncebdbhdaaDoor
open Go Go.RowKit Reg Mem

theorem cfg_any {vP vL vS : Value} {hs : List Value} {c : Cfg} {w : World} {F1 F2 F3 F4 : Nat → Prop} (h1 : (Sl true vcell 1 vP hs).at_ w F1) (h2 : (Sl true Place.cells 5 vL c.lps).at_ w F2) (h3 : (Sl true Start.cells 4 vS c.starts).at_ w F3) (h4 : (Sls true Instr.cells 5 hs c.programs).at_ w F4) :
    (CfgA true [vP, vL, vS, .int .i64 c.fin, .int .i64 c.fuel, .int .i64 c.fan] hs c).at_ w (fun b => b < w.heap.size) :=
  ⟨⟨⟨vP, vL, vS, rfl, h1.1.mono h1.2, h2.1.mono h2.2, h3.1.mono h3.2⟩, h4.1.mono h4.2⟩, fun _ h => h⟩
theorem sls_one {α : Type} {enc : α → List Value} {k : Nat} {v : Value} {xs : List α} {w : World} {F : Nat → Prop} (h : (Sl true enc k v xs).at_ w F) : (Sls true enc k [v] [xs]).at_ w F :=
  ⟨⟨rfl, fun i u ys hu hy => by
    cases i with
    | zero => simp at hu hy; subst hu; subst hy; exact h.1
    | succ i => simp at hu⟩, h.2⟩
end Go.Proofs.YtjmecncebdbhdaaDoor
