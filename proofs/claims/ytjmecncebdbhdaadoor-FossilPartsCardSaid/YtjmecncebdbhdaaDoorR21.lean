import Derived.Test.YtjmecncebdbhdaaDoorR18
import Derived.Test.YtjmecncebdbhdaaDoorR19
import Derived.Test.YtjmecncebdbhdaaDoorR20
import Derived.Deep.Cut
/- The walks of a log's Batches, of its iterator, and of the law's listed. -/
namespace Go.Proofs.YtjmecncebdbhdaaDoor
open Go Go.RowKit Reg Mem

set_option maxRecDepth 100000 in
/-- slices.Clone. -/
theorem clone_Bat {ad : Option Addr} {n c : Nat} {xs : List _} (w : World) (F : Nat → Prop) (h : (Sl true BatV.cells 8 (.slice ad n c) xs).at_ w F) (hn : xs.length ≤ 4294967296) :
    Calls Tryd.prog 66 #[.slice ad n c] w fun e w' => ∃ ad' c', e = .returned (.slice ad' xs.length c') ∧ (0 < xs.length → ∃ R, ad' = some ⟨R, 0, none⟩) ∧ St (fun _ => False) w w' [Mem.Own 77 BatV.cells 8 (.slice ad' xs.length c') xs] := by
  have S : St (fun _ => False) w w [Sl true BatV.cells 8 (.slice ad n c) xs] := (St.init _ w).share rfl rfl h
  have hq : ∀ (w : World) (a : Option Addr) (n c n' c' : Nat), (binOp .eql 59 (.slice a n c) (.slice none n' c')).run Tryd.prog w = .ok (.bool a.isNone) w := fun w a n c n' c' => Lib.run_eql_slice_nil w _ _ a n c n' c' Tryd.underlying59
  cases ad with
  | none =>
    have hx : xs = [] := by
      obtain ⟨a, c', e, h1, h2, _⟩ := h.1
      simp only [Value.slice.injEq] at e
      obtain ⟨rfl, rfl, rfl⟩ := e
      exact List.eq_nil_of_length_eq_zero (by have := h2 rfl; omega)
    subst hx
    go_enter Tryd.func66, Tryd.ntmps66
    go_wp2_with first | ((with_reducible refine tot_done ?ht ?_); (case ht => kernel_rfl))
    go_ret
    exact ⟨_, _, rfl, fun h => absurd h (by simp), ((S.nil 77 BatV.cells 8).pick [0] rfl)⟩
  | some a0 =>
    go_enter Tryd.func66, Tryd.ntmps66
    go_wp2_with first | ((with_reducible apply wps_build0 (T := 59) (E := 77) BatV.cells 8 S); (case hr => intro w; kernel_rfl); clear S; intro bz wz S) | ((with_reducible apply wps_appends elem_Bat bvcells bvone (by decide) S 0 (j := 1)); (case hx | hy | hi | hj => rfl); (case hl => first | omega | (simp; omega)); clear S; intro az nz cz wz hnz S; simp only [List.set_cons_zero] at S) | ((with_reducible refine tot_done ?ht ?_); (case ht => kernel_rfl))
    go_ret
    obtain rfl : nz = xs.length := by have := hnz.out; simp at this; omega
    simp only [List.nil_append] at S
    refine ⟨_, _, rfl, fun h0 => ?_, S.pick [0] rfl⟩
    obtain ⟨F, hF⟩ := S.get (i := 0) rfl
    rcases hF.1.2 with ⟨_, e⟩ | ⟨g, cap, cur, e, _⟩
    · omega
    · simp only [Value.slice.injEq] at e; exact ⟨g, e.1⟩
set_option maxRecDepth 100000 in
theorem lbats_calls (X : Nat) (c0 v1 tv v2 : Value) (l : List BatV) (w : World) (F F2 : Nat → Prop) (h : (Blk true X #[c0, v1, tv, v2] 93).at_ w F) (h2 : (Sl true BatV.cells 8 v2 l).at_ w F2) (hn : l.length ≤ 65536) :
    Calls Tryd.prog 42 #[.pointer (some ⟨X, 0, none⟩)] w fun e w' => ∃ b ad c, e = .returned (.func (.func 67) #[] #[.pointer (some ⟨b, 0, none⟩)]) ∧ St (fun _ => False) w w' [Blk false b #[.slice ad l.length c] 59, Mem.Own 77 BatV.cells 8 (.slice ad l.length c) l] := by
  have S : St (fun _ => False) w w [Sl true BatV.cells 8 v2 l, Blk true X #[c0, v1, tv, v2] 93] := ((St.init _ w).share rfl rfl h).share rfl rfl h2
  obtain ⟨ad, cp, rfl, _⟩ := (S.sl 0 rfl).elim fun _ h => h.form
  clear h h2
  have hn2 : l.length ≤ 4294967296 := by omega
  go_enter Tryd.func42, Tryd.ntmps42
  go_wp2_with first | (go_at_call 66; refine Calls.mono (clone_Bat _ _ (S.get (i := 1) rfl).choose_spec hn2) ?_; rintro e wz ⟨ad1, c1, rfl, _, T⟩; replace S := S.join T rfl; clear T; simp only [List.cons_append, List.nil_append] at S) | ((with_reducible apply wps_store (u := (.slice ad1 l.length c1)) S 1); (case hx | hy | hi | h1 => rfl); (case hn => exact Nat.le_of_ble_eq_true rfl); (case hT => decide +kernel); clear S; intro wz S; simp only [List.set_cons_succ, List.set_cons_zero, List.setIfInBounds_toArray] at S) | ((with_reducible refine tot_done ?ht ?_); (case ht => kernel_rfl)) | ((with_reducible apply wps_alloc1 (E := 59) S); (case hz => exact Tryd.zeroValue59); (case h1 => rfl); clear S; intro bz wz S) | ((with_reducible apply wps_load S 0); (case hx | hi | hu => rfl); (case hT => decide +kernel)) | ((with_reducible apply wps_load S 1); (case hx | hi | hu => rfl); (case hT => decide +kernel)) | ((with_reducible apply wps_load S 2); (case hx | hi | hu => rfl); (case hT => decide +kernel))
  go_ret
  exact ⟨_, _, _, rfl, S.pick [1, 0] rfl⟩
theorem Mem.St.dropThird {G : Nat → Prop} {w0 w : World} {L : List Asn} {A B X : Asn} (S : St G w0 w (A :: B :: X :: L)) : St G w0 w (A :: B :: L) := by
  refine S.sub (fun i => if i < 2 then i else i + 1) (fun i j _ _ h => ?_) (fun i C hi => ?_)
  · split at h <;> split at h <;> omega
  · match i with
    | 0 => exact hi
    | 1 => exact hi
    | i + 2 =>
      show (A :: B :: X :: L)[if i + 2 < 2 then i + 2 else i + 2 + 1]? = _
      rw [if_neg (by omega)]
      exact hi
/-- What is handed over in a round. -/
def MadeB (b : BatE) (args : Array Value) (N : List Asn) : Prop := ∃ ai ci ao co, args = #[.agg #[.int .i64 b.at_, .int .i64 b.lp, .slice ai b.ins.length ci, .int .i64 b.thn.n0, .int .i64 b.thn.n1, .int .i64 b.thn.n2, .int .i64 b.thn.n3, .slice ao b.sent.length co]] ∧
  N = [Mem.Own 52 Event.cells 7 (.slice ai b.ins.length ci) b.ins, Mem.Own 52 Event.cells 7 (.slice ao b.sent.length co) b.sent]
def LbRel (b : Nat) (ad : Option Addr) (cp : Nat) (l : List BatV) (G : Nat → Prop) (w0 : World) (Φ : Nat → List Asn → Prop) (i : Value) (wr : World) : Prop :=
  ∃ (k : Nat) (L : List Asn), k ≤ l.length ∧ i = .int .i64 k ∧ Φ k L ∧ St G w0 wr (Blk true b #[.slice ad l.length cp] 59 :: Sl true BatV.cells 8 (.slice ad l.length cp) l :: Sls true Event.cells 7 (l.map BatV.vi) (l.map fun x : BatV => x.b.ins) :: Sls true Event.cells 7 (l.map BatV.vo) (l.map fun x : BatV => x.b.sent) :: L)
theorem sls_el9 {α : Type} {sh : Bool} {enc : α → List Value} {k : Nat} {vs : List Value} {xss : List (List α)} {w : World} {F : Nat → Prop} (h : (Sls sh enc k vs xss).at_ w F) {j : Nat} {v : Value} {xs : List α} (hv : vs[j]? = some v) (hx : xss[j]? = some xs) : (Sl true enc k v xs).at_ w F :=
  ⟨h.1.2 j v xs hv hx, h.2⟩
set_option maxRecDepth 100000 in
set_option maxHeartbeats 8000000 in
theorem lbats1_iter (b : Nat) (ad : Option Addr) (cp : Nat) (l : List BatV) (hn : l.length ≤ 65536) (hs : ∀ x ∈ l, x.b.ins.length ≤ 4294967296 ∧ x.b.sent.length ≤ 4294967296) :
    IterC Tryd.prog 67 #[.pointer (some ⟨b, 0, none⟩)] [Blk true b #[.slice ad l.length cp] 59, Sl true BatV.cells 8 (.slice ad l.length cp) l, Sls true Event.cells 7 (l.map BatV.vi) (l.map fun x : BatV => x.b.ins), Sls true Event.cells 7 (l.map BatV.vo) (l.map fun x : BatV => x.b.sent)] (l.map (·.b)) MadeB := by
  intro y G w0 W Φ Ψ L hY h0 S
  simp only [List.cons_append, List.nil_append] at S
  show Calls Tryd.prog 67 #[.func (.yield y) #[] #[], .pointer (some ⟨b, 0, none⟩)] W _
  have HS := Lib.hid hs
  clear hs
  have HY := Lib.hid hY
  clear hY
  go_enter Tryd.func67, Tryd.ntmps67
  go_wp2_with first | ((with_reducible refine tot_done ?ht ?_); (case ht => kernel_rfl)) | ((with_reducible apply wps_alloca (E := 77) S); (case hz => exact Tryd.zeroValue77); clear S; intro bz wz S) | ((with_reducible apply wps_load S 0); (case hx | hi | hu => rfl); (case hT => decide +kernel)) | ((with_reducible apply wps_loada (T := 77) (k := 8) S 0); (case hx | hi => rfl); (case hk => exact Nat.le_of_ble_eq_true rfl); (case hT => decide +kernel))
  go_loopw [7] (fun i wr => LbRel b ad cp l G w0 Φ i wr) (fun i _ => l.length - (intOf i).toNat)
  case atStart => exact ⟨0, L, Nat.zero_le _, rfl, h0, S⟩
  case round =>
    clear S h0
    obtain ⟨k, L, hk, rfl, hΦ, S⟩ := hrel
    by_cases hlt : k < l.length
    · obtain ⟨x, hx⟩ : ∃ x, l[k]? = some x := ⟨_, List.getElem?_eq_getElem hlt⟩
      obtain ⟨R, o, rfl⟩ : ∃ R o, ad = some ⟨R, o, none⟩ := (S.sl 1 rfl).elim fun F h => h.head (by omega)
      have hlt2 : (k : Int) < l.length := by omega
      have hs1 := (HS.out x (List.mem_of_getElem? hx)).1
      have hs2 := (HS.out x (List.mem_of_getElem? hx)).2
      have HVI : Hid ((l.map BatV.vi)[k]? = some x.vi) := Lib.hid (by rw [List.getElem?_map, hx]; rfl)
      have HVB : Hid ((l.map fun x : BatV => x.b.ins)[k]? = some x.b.ins) := Lib.hid (by rw [List.getElem?_map, hx]; rfl)
      have HVO : Hid ((l.map BatV.vo)[k]? = some x.vo) := Lib.hid (by rw [List.getElem?_map, hx]; rfl)
      have HVS : Hid ((l.map fun x : BatV => x.b.sent)[k]? = some x.b.sent) := Lib.hid (by rw [List.getElem?_map, hx]; rfl)
      have HXB : Hid ((l.map (·.b))[k]? = some x.b) := Lib.hid (by rw [List.getElem?_map, hx]; rfl)
      have Hx := Lib.hid hx
      have HΦ := Lib.hid hΦ
      clear hx hΦ
      go_upto_region 3 with first | ((with_reducible apply wps_loada_el S 1 (hj := Hx.out) (q := 0) (vs := [.int .i64 x.b.at_, .int .i64 x.b.lp, x.vi, .int .i64 x.b.thn.n0, .int .i64 x.b.thn.n1, .int .i64 x.b.thn.n2, .int .i64 x.b.thn.n3, x.vo]) (m := 8)); (case hx | hi => rfl); (case hn => omega); (case hm | hv => rfl); (case hT => decide +kernel)) | ((with_reducible apply wps_storea (T := 77) S 0 (vs := [.int .i64 x.b.at_, .int .i64 x.b.lp, .slice x.ai x.b.ins.length x.ci, .int .i64 x.b.thn.n0, .int .i64 x.b.thn.n1, .int .i64 x.b.thn.n2, .int .i64 x.b.thn.n3, .slice x.ao x.b.sent.length x.co]) (m := 8)); (case hx | hy | hi | hm | h1 => rfl); (case hn => exact Nat.le_of_ble_eq_true rfl); (case hT => decide +kernel); clear S; intro wz S; simp only [List.set_cons_zero, List.set_cons_succ, setAll, List.setIfInBounds_toArray] at S) | ((with_reducible refine tot_done ?ht ?_); (case ht => kernel_rfl)) | ((with_reducible apply wps_alloca (E := 77) S); (case hz => exact Tryd.zeroValue77); clear S; intro bz wz S) | ((with_reducible apply wps_load S 0); (case hx | hi | hu => rfl); (case hT => decide +kernel)) | ((with_reducible apply wps_loada (T := 77) (k := 8) S 0); (case hx | hi => rfl); (case hk => exact Nat.le_of_ble_eq_true rfl); (case hT => decide +kernel))
      refine wp_region_yl 3 rfl rfl rfl fun K hK => ?_
      simp only [List.take_succ_cons, List.take_zero]
      simp only [List.drop_succ_cons, List.drop_zero] at hK
      go_wp2_with first | ((with_reducible apply wps_loada (T := 77) (k := 8) S 0); (case hx | hi => rfl); (case hk => exact Nat.le_of_ble_eq_true rfl); (case hT => decide +kernel)) | (go_at_call 40; refine Calls.mono (lown_calls x _ _ _ (sls_el9 (S.get (i := 3) rfl).choose_spec HVI.out HVB.out) (sls_el9 (S.get (i := 4) rfl).choose_spec HVO.out HVS.out) hs1 hs2) ?_; rintro e wz ⟨ai, ci, ao2, co2, rfl, T⟩; replace S := S.join T rfl; clear T; simp only [List.cons_append, List.nil_append] at S) | ((with_reducible refine tot_done ?ht ?_); (case ht => kernel_rfl)) | ((with_reducible apply wps_alloca (E := 77) S); (case hz => exact Tryd.zeroValue77); clear S; intro bz wz S) | ((with_reducible apply wps_load S 0); (case hx | hi | hu => rfl); (case hT => decide +kernel)) | ((with_reducible apply wps_loada (T := 77) (k := 8) S 0); (case hx | hi => rfl); (case hk => exact Nat.le_of_ble_eq_true rfl); (case hT => decide +kernel))
      refine hK _ _ ?_
      clear hK K
      (try simp only [Act.put]); (try simp only [List.setIfInBounds_toArray]); (try simp only [List.set_cons_succ]); (try simp only [List.set_cons_zero])
      refine yield_in (l := y) rfl rfl rfl rfl rfl (HY.out k x.b _ [Mem.Own 52 Event.cells 7 (.slice ai x.b.ins.length ci) x.b.ins, Mem.Own 52 Event.cells 7 (.slice ao2 x.b.sent.length co2) x.b.sent] L _ HXB.out ⟨ai, ci, ao2, co2, rfl, rfl⟩ HΦ.out S.dropThird) ?_
      rintro e w' ⟨L', S, (⟨rfl, hΦ'⟩ | ⟨rfl, hΨ⟩)⟩
      · refine ⟨_, rfl, ?_⟩
        refine list_only rfl fun K hK => ?_
        go_wp2_with first | ((with_reducible refine tot_done ?ht ?_); (case ht => kernel_rfl)) | ((with_reducible apply wps_alloca (E := 77) S); (case hz => exact Tryd.zeroValue77); clear S; intro bz wz S) | ((with_reducible apply wps_load S 0); (case hx | hi | hu => rfl); (case hT => decide +kernel)) | ((with_reducible apply wps_loada (T := 77) (k := 8) S 0); (case hx | hi => rfl); (case hk => exact Nat.le_of_ble_eq_true rfl); (case hT => decide +kernel))
        refine hK _ _ ?_
        clear hK K
        have HΦ' := Lib.hid hΦ'
        clear hΦ'
        go_wp2_with first | ((with_reducible refine tot_done ?ht ?_); (case ht => kernel_rfl)) | ((with_reducible apply wps_alloca (E := 77) S); (case hz => exact Tryd.zeroValue77); clear S; intro bz wz S) | ((with_reducible apply wps_load S 0); (case hx | hi | hu => rfl); (case hT => decide +kernel)) | ((with_reducible apply wps_loada (T := 77) (k := 8) S 0); (case hx | hi => rfl); (case hk => exact Nat.le_of_ble_eq_true rfl); (case hT => decide +kernel))
        go_roundw
        case rel => exact ⟨k + 1, L', by omega, by go_num, HΦ'.out, S⟩
        case measure => first | (simp [intOf]; done) | (simp [intOf]; omega)
      · refine ⟨_, rfl, ?_⟩
        refine list_only rfl fun K hK => ?_
        go_wp2_with first | ((with_reducible refine tot_done ?ht ?_); (case ht => kernel_rfl)) | ((with_reducible apply wps_alloca (E := 77) S); (case hz => exact Tryd.zeroValue77); clear S; intro bz wz S) | ((with_reducible apply wps_load S 0); (case hx | hi | hu => rfl); (case hT => decide +kernel)) | ((with_reducible apply wps_loada (T := 77) (k := 8) S 0); (case hx | hi => rfl); (case hk => exact Nat.le_of_ble_eq_true rfl); (case hT => decide +kernel))
        refine hK _ _ ?_
        clear hK K
        have HΨ := Lib.hid hΨ
        clear hΨ
        go_wp2_with first | ((with_reducible refine tot_done ?ht ?_); (case ht => kernel_rfl)) | ((with_reducible apply wps_alloca (E := 77) S); (case hz => exact Tryd.zeroValue77); clear S; intro bz wz S) | ((with_reducible apply wps_load S 0); (case hx | hi | hu => rfl); (case hT => decide +kernel)) | ((with_reducible apply wps_loada (T := 77) (k := 8) S 0); (case hx | hi => rfl); (case hk => exact Nat.le_of_ble_eq_true rfl); (case hT => decide +kernel))
        (try simp only [Exit.inBlock, Exit.then]); refine bodyPost_ret (results_none rfl _ _ _) rfl ?_
        exact ⟨⟨_, rfl⟩, L', S, .inr ⟨k + 1, by rw [List.length_map]; omega, HΨ.out⟩⟩
    · obtain rfl : k = l.length := by omega
      go_wp2_with first | ((with_reducible refine tot_done ?ht ?_); (case ht => kernel_rfl)) | ((with_reducible apply wps_alloca (E := 77) S); (case hz => exact Tryd.zeroValue77); clear S; intro bz wz S) | ((with_reducible apply wps_load S 0); (case hx | hi | hu => rfl); (case hT => decide +kernel)) | ((with_reducible apply wps_loada (T := 77) (k := 8) S 0); (case hx | hi => rfl); (case hk => exact Nat.le_of_ble_eq_true rfl); (case hT => decide +kernel))
      go_end0
      exact ⟨⟨_, rfl⟩, L, S, .inl (by rw [List.length_map]; exact hΦ)⟩
theorem wpIn_seq_n9 {F : Fence} {n : Nat} {P : Program} {Q : Exit → Act → World → Prop} {x y : Code} {a : Act} {w : World} (h : ∀ K : Act → World → Prop, (∀ a w, y.wpIn F n P Q a w → K a w) → x.wpIn F n P (Exit.then K Q) a w) : (Code.seq x y).wpIn F n P Q a w := wpIn_seq (h _ fun _ _ h => h)
theorem zip_one9 (p : Tmp) (v : Value) (t : Array Value) : (#[p].zip #[v]).foldl (fun t (p, v) => t.setIfInBounds p v) t = t.setIfInBounds p v := by simp
def LiPhi (b3 : Nat) (done : List BatE) (j : Nat) (L : List Asn) : Prop :=
  ∃ (lo : List BatV) (ov : Value), Hid (lo.map (·.b) = done.take j) ∧ L = [Blk false b3 #[ov] 59, Mem.Own 77 BatV.cells 8 ov lo, Sls false Event.cells 7 (lo.map BatV.vi) (lo.map fun x : BatV => x.b.ins), Sls false Event.cells 7 (lo.map BatV.vo) (lo.map fun x : BatV => x.b.sent)]
def ListedPost (done : List BatE) (w : World) (e : Ending) (w' : World) : Prop :=
  ∃ a cp lo, e = .returned (.slice a done.length cp) ∧ lo.map (·.b) = done ∧
    St (fun _ => False) w w' [Mem.Own 77 BatV.cells 8 (.slice a done.length cp) lo, Sls false Event.cells 7 (lo.map BatV.vi) (lo.map fun x : BatV => x.b.ins), Sls false Event.cells 7 (lo.map BatV.vo) (lo.map fun x : BatV => x.b.sent)]
set_option maxRecDepth 100000 in
set_option maxHeartbeats 8000000 in
theorem listed_calls (X R : Nat) (g : LogE) (w : World) (F : Nat → Prop) (h : (logA X R g).at_ w F) (hn : g.done.length ≤ 300) (hs : ∀ b ∈ g.done, b.ins.length ≤ 4294967296 ∧ b.sent.length ≤ 4294967296) :
    Calls Tryd.prog 18 #[.pointer (some ⟨X, 0, none⟩)] w (ListedPost g.done w) := by
  obtain ⟨v1, v2, l, hl, S⟩ := logR_st h
  clear h
  have hln : l.length ≤ 300 := by rw [← hl, List.length_map] at hn; exact hn
  have hls : ∀ x ∈ l, x.b.ins.length ≤ 4294967296 ∧ x.b.sent.length ≤ 4294967296 := fun x hx => hs x.b (by rw [← hl]; exact List.mem_map.2 ⟨x, hx, rfl⟩)
  generalize g.done = done at *
  have HL := Lib.hid hl
  have HLS := Lib.hid hls
  clear hl hls hs hn
  have hq : ∀ (w : World) (b : Nat), (binOp .eql 100 (.func (.func 67) #[] #[.pointer (some ⟨b, 0, none⟩)]) .nilFunc).run Tryd.prog w = .ok (.bool false) w := fun w b => run_eql_func_nil w _ _ _ Tryd.underlying100
  refine calls_marks Tryd.func18 rfl ?_
  simp only [Tryd.ntmps18, List.size_toArray, List.length_cons, List.length_nil, Nat.reduceAdd, Nat.reduceSub, Array.replicate_succ, Array.replicate_zero, List.push_toArray, List.append_toArray, List.nil_append, List.cons_append]
  go_wp2_with first | ((with_reducible apply wps_alloc1 (E := 59) S); (case hz => exact Tryd.zeroValue59); (case h1 => rfl); clear S; intro b3 wz S) | (go_at_call 42; refine Calls.mono (lbats_calls X _ _ _ _ l _ _ _ (S.get (i := 5) rfl).choose_spec (S.get (i := 3) rfl).choose_spec (by omega)) ?_; rintro e wz ⟨bt, ad2, c2, rfl, T⟩; replace S := S.join T rfl; clear T; simp only [List.cons_append, List.nil_append] at S) | ((with_reducible refine tot_done ?ht ?_); (case ht => kernel_rfl)) | ((with_reducible apply wps_load S 0); (case hx | hi | hu => rfl); (case hT => decide +kernel)) | ((with_reducible apply wps_loada (T := 77) (k := 8) S 0); (case hx | hi => rfl); (case hk => exact Nat.le_of_ble_eq_true rfl); (case hT => decide +kernel))
  replace S := S.freeze true 1 bvcells rfl
  replace S := S.weak (i := 0) (A' := Blk true bt #[.slice ad2 l.length c2] 59) rfl (fun e => by cases e) (fun F h => ⟨F, fun _ hb => hb, h⟩)
  simp only [List.set_cons_zero, List.set_cons_succ] at S
  replace S := (((S.pick [0, 1, 3, 4, 2] rfl).slsNil Event.cells 7).slsNil Event.cells 7).nil 77 BatV.cells 8
  replace S := S.pick [3, 4, 5, 6, 7, 0, 1, 2] rfl
  simp only [pick, nth] at S
  refine wps_range (lbats1_iter bt ad2 c2 l (by omega) HLS.out) S rfl (calls_enter Tryd.func67 (by kernel_rfl) rfl) (LiPhi b3 (l.map (·.b))) (fun _ _ _ => False) ⟨[], _, rfl, rfl⟩ (fun x args N h => by obtain ⟨_, _, _, _, rfl, _⟩ := h; rfl) ?round ?done ?stop
  case stop => intro _ _ _ _ _ _ h; exact h.elim
  case round =>
    rintro lp2 D r j x args N L W hx ⟨ai, ci, ao, co, rfl, rfl⟩ ⟨lo, ov, HO, rfl⟩ S
    simp only [zip_one9, List.setIfInBounds_toArray, List.set_cons_succ, List.set_cons_zero, List.cons_append, List.nil_append] at S ⊢
    obtain ⟨a3, c3, rfl, _⟩ := (S.ownsl bvcells 7 rfl).elim fun _ h => h.form
    have hjl : j < l.length := by have := (List.getElem?_eq_some_iff.1 hx).1; rwa [List.length_map] at this
    have hlo : lo.length ≤ 300 := by have := congrArg List.length HO.out; rw [List.length_map, List.length_take] at this; omega
    have HLO : Hid (lo.length = j) := Lib.hid (by have := congrArg List.length HO.out; rw [List.length_map, List.length_take, List.length_map] at this; omega)
    have hlo2 : lo.length < 4294967296 := by omega
    have hlo3 : (lo.length : Int) + 1 ≤ 300 := by have := HLO.out; omega
    have HO2 : Hid ((lo ++ [(⟨x, ai, ci, ao, co⟩ : BatV)]).map (·.b) = (l.map (·.b)).take (j + 1)) := Lib.hid (by rw [List.map_append, HO.out, take_snoc hx]; rfl)
    clear hx
    gi_wp2_with first
      | (refine wpi_at (.inr ⟨_, rfl⟩) rfl fun K hK => ?_
         go_wp2_with first | ((with_reducible refine tot_done ?ht ?_); (case ht => kernel_rfl)) | ((with_reducible apply wps_alloca (E := 77) S); (case hz => exact Tryd.zeroValue77); clear S; intro b5 wz S) | ((with_reducible apply wps_storea (T := 77) S 0 (vs := [.int .i64 x.at_, .int .i64 x.lp, .slice ai x.ins.length ci, .int .i64 x.thn.n0, .int .i64 x.thn.n1, .int .i64 x.thn.n2, .int .i64 x.thn.n3, .slice ao x.sent.length co]) (m := 8)); (case hx | hy | hi | hm | h1 => rfl); (case hn => exact Nat.le_of_ble_eq_true rfl); (case hT => decide +kernel); clear S; intro wz S; simp only [List.set_cons_zero, List.set_cons_succ, setAll, List.setIfInBounds_toArray] at S)
         refine hK _ _ ?_
         (try simp only [Act.put]); (try simp only [List.setIfInBounds_toArray]); (try simp only [List.set_cons_succ]); (try simp only [List.set_cons_zero])
         clear hK K)
    refine ⟨_, S.lastSplit rfl, fun r' W2 S => ?_⟩
    simp only [List.dropLast, List.cons_append, List.nil_append] at S
    refine wpIn_block (wpIn_seq_n9 fun K hK => wpi_list_k (.inr ⟨_, rfl⟩) rfl fun K2 hK2 => ?_)
    go_wp2_with first | ((with_reducible apply wps_load S 7); (case hx | hi | hu => rfl); (case hT => decide +kernel)) | ((with_reducible apply wps_loada (T := 77) (k := 8) S 0); (case hx | hi => rfl); (case hk => exact Nat.le_of_ble_eq_true rfl); (case hT => decide +kernel)) | ((with_reducible apply wps_build1a (T := 59) (E := 77) S); (case hx => rfl); (case hr => intro w; kernel_rfl); clear S; intro bz wz S) | ((with_reducible apply wps_append1 elem_Bat bvcells bvone (by decide) S 9 (j := 0) (e := (⟨x, ai, ci, ao, co⟩ : BatV))); (case hx | hy | hi | hj | he => rfl); (case hl => omega); clear S; intro az nz cz wz hnz S; simp only [List.set_cons_succ, List.set_cons_zero] at S) | ((with_reducible apply wps_store (u := (.slice az nz cz)) S 8); (case hx | hy | hi | h1 => rfl); (case hn => exact Nat.le_of_ble_eq_true rfl); (case hT => decide +kernel); clear S; intro wz S; simp only [List.set_cons_succ, List.set_cons_zero, List.setIfInBounds_toArray] at S)
    have hz3 : ¬ ((300 : Int) < (nz : Int)) := by have h1 := hnz.out; first | omega | (simp at h1; omega)
    have hz4 : decide ((300 : Int) < (nz : Int)) = false := decide_eq_false hz3
    refine hK2 _ _ (hK _ _ ?_)
    clear hK hK2 K K2 hz3
    refine wpIn_seq_n9 fun K1 hK1 => wpi_list_k (.inr ⟨_, rfl⟩) rfl fun K2 hK2 => ?_
    go_wp2_with first | ((with_reducible apply wps_load S 8); (case hx | hi | hu => rfl); (case hT => decide +kernel))
    refine hK2 _ _ (hK1 _ _ ?_)
    clear hK1 hK2 K1 K2
    refine wpIn_cond_false rfl (wpIn_skip ?_)
    have S2 := S.pick [2, 10, 3, 11, 4, 5, 6, 7, 8, 9, 12] rfl
    simp only [pick, nth] at S2
    have S3 := S2.freeze false 0 ecells rfl
    simp only [List.set_cons_zero] at S3
    have S4 := S3.slsSnoc.pick [1, 2, 0, 3, 4, 5, 6, 7, 8, 9] rfl
    simp only [pick, nth] at S4
    have S5 := S4.freeze false 0 ecells rfl
    simp only [List.set_cons_zero] at S5
    have S6 := S5.slsSnoc.pick [2, 3, 4, 5, 6, 7, 1, 0, 8] rfl
    simp only [pick, nth] at S6
    refine ⟨[Blk false b3 #[.slice az nz cz] 59, Mem.Own 77 BatV.cells 8 (.slice az nz cz) (lo ++ [⟨x, ai, ci, ao, co⟩]), Sls false Event.cells 7 ((lo ++ [(⟨x, ai, ci, ao, co⟩ : BatV)]).map BatV.vi) ((lo ++ [(⟨x, ai, ci, ao, co⟩ : BatV)]).map fun x : BatV => x.b.ins), Sls false Event.cells 7 ((lo ++ [(⟨x, ai, ci, ao, co⟩ : BatV)]).map BatV.vo) ((lo ++ [(⟨x, ai, ci, ao, co⟩ : BatV)]).map fun x : BatV => x.b.sent)], ⟨_, _, HO2, rfl⟩, ?_⟩
    simp only [List.map_append, List.map_cons, List.map_nil]
    exact S6
  case done =>
    rintro D W L ⟨lo, ov, HO, rfl⟩ S
    simp only [List.cons_append, List.nil_append] at S
    obtain ⟨a3, c3, rfl, _⟩ := (S.ownsl bvcells 6 rfl).elim fun _ h => h.form
    have HO2 : Hid (lo.map (·.b) = done) := Lib.hid (by rw [HO.out, List.take_length]; exact HL.out)
    have HLN : Hid (done.length = lo.length) := Lib.hid (by rw [← HO2.out, List.length_map])
    clear HO
    go_wp2_with first | ((with_reducible apply wps_load S 5); (case hx | hi | hu => rfl); (case hT => decide +kernel))
    refine leaves_ret1 S rfl fun w' S => ⟨_, results1 rfl (res_tmp rfl), a3, c3, lo, by rw [HLN.out]; rfl, HO2.out, ?_⟩
    rw [HLN.out]
    exact S.pick [5, 6, 7] rfl
end Go.Proofs.YtjmecncebdbhdaaDoor
