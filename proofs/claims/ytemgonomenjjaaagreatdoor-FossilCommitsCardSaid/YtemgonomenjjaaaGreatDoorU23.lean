import Derived.Test.YtemgonomenjjaaaGreatDoorU21
import Derived.Test.YtemgonomenjjaaaGreatDoorU22
import Derived.Test.YtemgonomenjjaaaGreatDoorU18
/- The walk of a log's Commit. -/
namespace Go.Proofs.YtemgonomenjjaaaGreatDoor
open Go Go.RowKit Reg Mem

theorem span_eq (a : Int) : ∀ (l : List Event) (n : Nat), n ≤ l.length → (∀ x ∈ l.take n, sameT a x = true) → (n = l.length ∨ ∃ y, l[n]? = some y ∧ sameT a y = false) → l.takeWhile (sameT a) = l.take n ∧ l.dropWhile (sameT a) = l.drop n
  | [], n, hn, _, _ => by obtain rfl : n = 0 := (by simpa using hn); exact ⟨rfl, rfl⟩
  | x :: l, 0, _, _, he => by
    rcases he with he | ⟨y, hy, hs⟩
    · simp at he
    · simp only [List.getElem?_cons_zero, Option.some.injEq] at hy
      subst hy
      rw [List.takeWhile_cons, List.dropWhile_cons, hs]
      exact ⟨rfl, rfl⟩
  | x :: l, n + 1, hn, h, he => by
    have hx := h x (by simp)
    rw [List.takeWhile_cons, List.dropWhile_cons, hx]
    obtain ⟨h1, h2⟩ := span_eq a l n (by simpa using hn) (fun y hy => h y (by rw [List.take_succ_cons]; exact List.mem_cons_of_mem _ hy)) (by
      rcases he with he | ⟨y, hy, hs⟩
      · exact .inl (by simpa using he)
      · exact .inr ⟨y, by simpa using hy, hs⟩)
    simp only [if_true]
    rw [h1, h2]
    exact ⟨rfl, rfl⟩
theorem times_step (c : Cfg) {l : List Event} {x : Event} {n : Nat} (hx : l[0]? = some x) (hn : n ≤ l.length) (h : ∀ y ∈ l.take n, sameT x.key.at_ y = true) (he : n = l.length ∨ ∃ y, l[n]? = some y ∧ sameT x.key.at_ y = false) (ss : List State) :
    timesL c l ss = ((timesL c (l.drop n) (runL c x.key.at_ (l.take n) ss).1).1, (runL c x.key.at_ (l.take n) ss).2 ++ (timesL c (l.drop n) (runL c x.key.at_ (l.take n) ss).1).2) := by
  obtain ⟨h1, h2⟩ := span_eq x.key.at_ l n hn h he
  cases l with
  | nil => simp at hx
  | cons y t =>
    simp only [List.getElem?_cons_zero, Option.some.injEq] at hx
    subst hx
    rw [timesL_cons, ← h1, ← h2, List.takeWhile_cons, List.dropWhile_cons]
    simp [sameT]
theorem lpL_len (c : Cfg) (a : Int) (l : List Event) (p : List State × List BatE) (lp : Nat) : (lpL c a l p lp).1.length = p.1.length := by
  unfold lpL; split
  · rfl
  · simp
theorem runL_len (c : Cfg) (a : Int) (l : List Event) (ss : List State) : (runL c a l ss).1.length = ss.length := by
  have key : ∀ (m : List Nat) (p : List State × List BatE), (m.foldl (lpL c a l) p).1.length = p.1.length := by
    intro m
    induction m with
    | nil => intro p; rfl
    | cons x m ih => intro p; exact (ih _).trans (lpL_len c a l p x)
  exact key _ _
theorem flat_len : ∀ {bs : List BatE}, (∀ b ∈ bs, 0 < b.ins.length) → bs.length ≤ (bs.flatMap (·.ins)).length
  | [], _ => Nat.le_refl _
  | b :: bs, h => by
    have h1 := flat_len (bs := bs) (fun d hd => h d (List.mem_cons_of_mem _ hd))
    have h2 := h b (by simp)
    rw [List.flatMap_cons, List.length_append, List.length_cons]
    omega
/-- How much a commit is, at most. -/
theorem times_small {c : Cfg} (hc : cfgE c = 0) {l : List Event} (hu : UpT l) (hd : ∀ x ∈ l, 0 ≤ x.dst ∧ x.dst < c.lps.length) (hn : l.length ≤ 65536) (ss : List State) :
    (timesL c l ss).2.length ≤ l.length ∧ ∀ b ∈ (timesL c l ss).2, b.ins.length ≤ 65536 ∧ b.sent.length ≤ 600000 := by
  obtain ⟨h1, _, _, h4⟩ := times_runs c _ l ss (Nat.le_refl _) hu hd
  have hb : ∀ b ∈ (timesL c l ss).2, 0 < b.ins.length ∧ ∃ s, batchC c b.lp s b.ins = (b.thn, b.sent) := fun b hb => by
    obtain ⟨k, hk, e⟩ := List.mem_iff_getElem.1 hb
    obtain ⟨_, _, g3, _, _, g6⟩ := h1.each k b (by rw [List.getElem?_eq_getElem hk, e])
    exact ⟨g3, _, g6⟩
  refine ⟨by have := flat_len fun b h => (hb b h).1; rw [h4.length_eq] at this; exact this, fun b h => ?_⟩
  have hi : b.ins.length ≤ 65536 := by have := (flat_sub h).length_le; rw [h4.length_eq] at this; omega
  obtain ⟨_, s, hs⟩ := hb b h
  have g1 := batch_len c b.lp s b.ins (cfg_isfine hc).sizes.2.2.2.2.1
  rw [hs] at g1
  have g3 : c.fan * (b.ins.length : Int) ≤ 8 * (b.ins.length : Int) := Int.mul_le_mul_of_nonneg_right (cfg_isfine hc).sizes.2.2.2.2.2 (by omega)
  have g4 : (b.sent.length : Int) ≤ 8 * (b.ins.length : Int) := Int.le_trans g1 g3
  exact ⟨hi, by omega⟩
theorem sls_el {α : Type} {sh : Bool} {enc : α → List Value} {k : Nat} {vs : List Value} {xss : List (List α)} {w : World} {F : Nat → Prop} (h : (Sls sh enc k vs xss).at_ w F) {j : Nat} {v : Value} {xs : List α} (hv : vs[j]? = some v) (hx : xss[j]? = some xs) : (Sl true enc k v xs).at_ w F :=
  ⟨h.1.2 j v xs hv hx, h.2⟩
def vlen : Value → Nat
  | .slice _ n _ => n
  | _ => 0
def NRel (a : Int) (l : List Event) (F : Nat → Prop) (w : World) (L : List Asn) (i : Value) (wr : World) : Prop :=
  ∃ n : Nat, 1 ≤ n ∧ n ≤ l.length ∧ i = .int .i64 n ∧ Hid (∀ y ∈ l.take n, sameT a y = true) ∧ St F w wr L
def CoRel3 (X R : Nat) (vs hs : List Value) (c : Cfg) (tm : Int) (v1 vin vr : Value) (l' : List Event) (ss : List State) (ld lb lr : List BatV) (F : Nat → Prop) (w : World) (out i : Value) (wr : World) : Prop :=
  ∃ (k : Nat) (la lk : List BatV) (v2 : Value), k ≤ lr.length ∧ i = .int .i64 k ∧ Hid (la.map (·.b) = lb.map (·.b) ++ (lr.take k).map (·.b)) ∧ Hid (lk = ld ++ lr.take k) ∧ la.length ≤ 131072 ∧
    St F w wr [Own 54 BatV.cells 8 vr lr, Sls false Event.cells 7 (lr.map (·.vi)) (lr.map (·.b.ins)), Sls false Event.cells 7 (lr.map (·.vo)) (lr.map (·.b.sent)),
      Sls false Event.cells 7 (ld.map (·.vi)) (ld.map (·.b.ins)), Sls false Event.cells 7 (ld.map (·.vo)) (ld.map (·.b.sent)), Own 52 State.cells 4 v1 ss, Sl true Event.cells 7 vin l', ModA true 84 R vs hs c, Tab,
      Sls false Event.cells 7 (la.map (·.vi)) (la.map (·.b.ins)), Sls false Event.cells 7 (la.map (·.vo)) (la.map (·.b.sent)), Own 54 BatV.cells 8 out la,
      Blk false X #[.pointer (some ⟨R, 0, none⟩), v1, .int .i64 tm, v2] 80, Own 54 BatV.cells 8 v2 lk]
def CoRel (X R : Nat) (vs hs : List Value) (c : Cfg) (tm : Int) (sl : List Event) (done : List BatE) (ssF : List State) (bs : List BatE) (F : Nat → Prop) (w : World) (vin out : Value) (wr : World) : Prop :=
  ∃ (l' : List Event) (lb : List BatV) (ss1 : List State) (rest : List BatE) (pre : List Event), Hid (timesL c l' ss1 = (ssF, rest)) ∧ Hid (lb.map (·.b) ++ rest = bs) ∧ Hid (pre ++ l' = sl) ∧ Hid (ss1.length = c.lps.length) ∧
    St F w wr [logA X R ⟨ss1, tm, done ++ lb.map (·.b)⟩, Sl true Event.cells 7 vin l', ModA true 84 R vs hs c, Tab, Own 54 BatV.cells 8 out lb, Sls false Event.cells 7 (lb.map (·.vi)) (lb.map (·.b.ins)), Sls false Event.cells 7 (lb.map (·.vo)) (lb.map (·.b.sent))]
def ComPost (X R : Nat) (g' : LogE) (bs : List BatE) (F : Nat → Prop) (w : World) (e : Ending) (w' : World) : Prop :=
  ∃ a cp lb, e = .returned (.tuple #[.slice a bs.length cp, .int .i64 0]) ∧ lb.map (·.b) = bs ∧
    St F w w' [logA X R g', Own 54 BatV.cells 8 (.slice a bs.length cp) lb, Sls false Event.cells 7 (lb.map (·.vi)) (lb.map (·.b.ins)), Sls false Event.cells 7 (lb.map (·.vo)) (lb.map (·.b.sent))]
set_option maxRecDepth 100000 in
set_option maxHeartbeats 8000000 in
/-- What is wrong turns nothing. -/
theorem commit_wrong (X R : Nat) (g : LogE) (below : Int) (v : Value) (l : List Event) (w : World) (F : Nat → Prop) (S0 : St F w w [logA X R g, Sl true Event.cells 7 v l]) (hn : l.length ≤ 65536) (e0 : Int) (he : wrongL g.ss.length g.time below l = e0) (h0 : e0 ≠ 0) :
    Calls Tryz.prog 12 #[.pointer (some ⟨X, 0, none⟩), .int .i64 below, v] w fun e w' => e = .returned (.tuple #[.slice none 0 0, .int .i64 e0]) ∧ St F w w' [logA X R g] := by
  have S := S0
  clear S0
  obtain ⟨ad, cp, rfl, _⟩ := (S.sl 1 rfl).elim fun _ h => h.form
  have hn2 : l.length ≤ 4294967296 := by omega
  have hsn : (sortT l).length ≤ 65536 := by rw [sortT_len]; exact hn
  have HW : Hid (wrongL g.ss.length g.time below (sortT l) = e0) := Lib.hid (by rw [wrongL_perm (sortT_perm l)]; exact he)
  have h1 : (e0 != 0) = true := by simpa using h0
  clear he
  go_enter Tryz.func12, Tryz.ntmps12
  go_wp2_with first | (go_at_call 28; refine Calls.mono (clone_Ev _ _ (S.get (i := 1) rfl).choose_spec hn2) ?_; rintro e wz ⟨ad1, c1, rfl, _, T⟩; replace S := S.join T rfl; clear T; simp only [List.cons_append, List.nil_append] at S) | (go_at_call 29; refine Calls.mono (sortev_calls 0 S rfl hn) ?_; clear S; rintro e wz ⟨rfl, S⟩; simp only [List.set_cons_zero] at S) | (go_at_call 31; refine Calls.mono (lwrong_calls X R g below _ (sortT l) _ _ _ (S.get (i := 1) rfl).choose_spec (own_sl (sh := true) ecells (S.get (i := 0) rfl).choose_spec) (sortT_up l) hsn) ?_; rw [HW.out]; rintro e wz ⟨rfl, hE⟩; replace S := S.ext (Keep.of_below hE); clear hE)
  (try simp only [Exit.inBlock, Exit.then]); refine bodyPost_ret (results2 rfl (res_tmp rfl) (res_tmp rfl)) rfl ?_
  exact ⟨rfl, S.pick [1] rfl⟩
set_option maxRecDepth 100000 in
set_option maxHeartbeats 16000000 in
theorem commit_calls (X R : Nat) (vs hs : List Value) (c : Cfg) (g : LogE) (below : Int) (v : Value) (l : List Event) (w : World) (F : Nat → Prop) (S0 : St F w w [logA X R g, Sl true Event.cells 7 v l, ModA true 84 R vs hs c, Tab]) (hc : cfgE c = 0)
    (hn : l.length ≤ 65536) (hss : g.ss.length = c.lps.length) (h0 : 0 ≤ g.time) (hdl : g.done.length ≤ 65536) (hw : Fine c.lps.length g.time below l) :
    Calls Tryz.prog 12 #[.pointer (some ⟨X, 0, none⟩), .int .i64 below, v] w (ComPost X R (comL c g below l) (timesL c (sortT l) g.ss).2 F w) := by
  have S := S0
  clear S0
  obtain ⟨ad, cp, rfl, _⟩ := (S.sl 1 rfl).elim fun _ h => h.form
  have hn2 : l.length ≤ 4294967296 := by omega
  have hsn : (sortT l).length ≤ 65536 := by rw [sortT_len]; exact hn
  have HW : Hid (wrongL g.ss.length g.time below (sortT l) = 0) := Lib.hid (by rw [wrongL_perm (sortT_perm l), hss]; exact wrongL_fine.2 hw)
  have hds : ∀ x ∈ sortT l, 0 ≤ x.dst ∧ x.dst < c.lps.length := fun x hx => hw.dsts x ((sortT_perm l).mem_iff.1 hx)
  have HTS := Lib.hid (times_small hc (sortT_up l) hds hsn g.ss)
  have HEV : Hid (∀ x ∈ sortT l, 0 ≤ x.key.at_ ∧ x.key.at_ ≤ 1073741824) := Lib.hid fun x hx => by
    have := hw.times x ((sortT_perm l).mem_iff.1 hx)
    have := hw.top
    omega
  have HDU : Hid (dupB (sortT l) = false) := Lib.hid (by rw [dup_perm (sortT_perm l)]; exact hw.once)
  have HC := Lib.hid hc
  have HSS := Lib.hid hss
  obtain ⟨ssF, bs, hT⟩ : ∃ a b, timesL c (sortT l) g.ss = (a, b) := ⟨_, _, rfl⟩
  have HCL : Hid (comL c g below l = ⟨ssF, below, g.done ++ bs⟩) := Lib.hid (by unfold comL; rw [hT])
  rw [HCL.out, hT]
  rw [hT] at HTS
  have HT := Lib.hid hT
  clear hc hw hss hds hT
  go_enter Tryz.func12, Tryz.ntmps12
  go_wp2_with first | (go_at_call 28; refine Calls.mono (clone_Ev _ _ (S.get (i := 1) rfl).choose_spec hn2) ?_; rintro e wz ⟨ad1, c1, rfl, _, T⟩; replace S := S.join T rfl; clear T; simp only [List.cons_append, List.nil_append] at S) | (go_at_call 29; refine Calls.mono (sortev_calls 0 S rfl hn) ?_; clear S; rintro e wz ⟨rfl, S⟩; simp only [List.set_cons_zero] at S) | (go_at_call 31; refine Calls.mono (lwrong_calls X R g below _ (sortT l) _ _ _ (S.get (i := 1) rfl).choose_spec (own_sl (sh := true) ecells (S.get (i := 0) rfl).choose_spec) (sortT_up l) hsn) ?_; rw [HW.out]; rintro e wz ⟨rfl, hE⟩; replace S := S.ext (Keep.of_below hE); clear hE)
  obtain ⟨sl, hsl⟩ : ∃ s, sortT l = s := ⟨_, rfl⟩
  have HUP : Hid (UpT sl) := Lib.hid (by rw [← hsl]; exact sortT_up l)
  rw [hsl] at S HT HTS HEV HDU hsn
  clear HW hsl
  replace S := ((((S.freeze true 0 ecells rfl).slsNil Event.cells 7).slsNil Event.cells 7).nil 54 BatV.cells 8)
  simp only [List.set_cons_zero] at S
  replace S := S.pick [4, 3, 6, 7, 0, 1, 2] rfl
  simp only [pick, nth] at S
  obtain ⟨⟨ss0, tm, done⟩, hg⟩ : ∃ g', g = g' := ⟨_, rfl⟩
  subst hg
  simp only at *
  go_loopw [8, 10] (fun vin out wr => CoRel X R vs hs c tm sl done ssF bs F w vin out wr) (fun vin _ _ => vlen vin)
  case atStart => exact ⟨sl, [], ss0, bs, [], HT, Lib.hid (by simp), Lib.hid rfl, HSS, by simpa using S⟩
  case round =>
    clear S HT HSS
    obtain ⟨l', lb, ss1, rest, pre, HT, HB, HP, HSS, S⟩ := hrel
    obtain ⟨ad2, c2, rfl, _⟩ := (S.sl 1 rfl).elim fun _ h => h.form
    by_cases hl0 : l'.length = 0
    · obtain rfl : l' = [] := List.eq_nil_of_length_eq_zero hl0
      have hR : ss1 = ssF ∧ rest = [] := by have := HT.out; rw [timesL_nil] at this; simpa [eq_comm] using this
      obtain ⟨rfl, rfl⟩ := hR
      have HB2 : Hid (lb.map (·.b) = bs) := Lib.hid (by have := HB.out; rwa [List.append_nil] at this)
      have HBL : Hid (bs.length = lb.length) := Lib.hid (by rw [← HB2.out, List.length_map])
      clear HT HB
      obtain ⟨v1, v2, ld, hld, S⟩ := log_open S
      have HLD := Lib.hid hld
      clear hld
      obtain ⟨ao, co, rfl, _⟩ := (S.ownsl bvcells 8 rfl).elim fun _ h => h.form
      go_wp2_with first | ((with_reducible apply wps_store (u := (.int .i64 below)) S 4); (case hx | hy | hi | h1 => rfl); (case hn => exact Nat.le_of_ble_eq_true rfl); (case hT => decide +kernel); clear S; intro wz S; simp only [List.set_cons_succ, List.set_cons_zero, List.setIfInBounds_toArray] at S)
      (try simp only [Exit.inBlock, Exit.then]); refine bodyPost_ret (results2 rfl (res_tmp rfl) (res_tmp rfl)) rfl ?_
      have S2 := log_close (g := ⟨ss1, below, done ++ lb.map (·.b)⟩) HLD.out S
      rw [HB2.out] at S2
      refine ⟨ao, co, lb, by rw [HBL.out]; rfl, HB2.out, ?_⟩
      rw [HBL.out]
      exact S2.pick [0, 4, 5, 6] rfl
    · obtain ⟨x, hx⟩ : ∃ x, l'[0]? = some x := ⟨_, List.getElem?_eq_getElem (by omega)⟩
      obtain ⟨R2, o2, rfl⟩ : ∃ R o, ad2 = some ⟨R, o, none⟩ := (S.sl 1 rfl).elim fun F h => h.head (by omega)
      have hl0p : (0 : Int) < l'.length := by omega
      have hlsl : l'.length ≤ sl.length := by rw [← HP.out, List.length_append]; omega
      have hn3 : (l'.length : Int) ≤ 65536 := by omega
      have HX := Lib.hid hx
      have HX1 : Hid (∀ y ∈ l'.take 1, sameT x.key.at_ y = true) := Lib.hid fun y hy => by
        cases l' with
        | nil => simp at hx
        | cons z t =>
          simp only [List.getElem?_cons_zero, Option.some.injEq] at hx
          subst hx
          simp only [List.take_succ_cons, List.take_zero, List.mem_singleton] at hy
          subst hy
          simp [sameT]
      clear hx
      go_wp2_with first | ((with_reducible apply wps_load_el S 1 (hj := HX.out) (q := 0) (u := .int .i64 x.key.at_)); (case hx | hi => rfl); (case hn => omega); (case hu => rfl); (case hT => decide +kernel))
      go_loopw [12] (fun i wr => NRel x.key.at_ l' F w _ i wr) (fun i _ => l'.length - (intOf i).toNat)
      case atStart => exact ⟨1, Nat.le_refl _, by omega, rfl, HX1, S⟩
      case round =>
        clear S HX1
        obtain ⟨n, hn1, hnl, rfl, HN, S⟩ := hrel
        have hcases : (∃ y, l'[n]? = some y ∧ sameT x.key.at_ y = true) ∨ (n = l'.length ∨ ∃ y, l'[n]? = some y ∧ sameT x.key.at_ y = false) := by
          by_cases hlt : n < l'.length
          · have hy : l'[n]? = some l'[n] := List.getElem?_eq_getElem hlt
            cases hs : sameT x.key.at_ l'[n] with
            | true => exact .inl ⟨_, hy, hs⟩
            | false => exact .inr (.inr ⟨_, hy, hs⟩)
          · exact .inr (.inl (by omega))
        rcases hcases with ⟨y, hy, hya⟩ | hcut
        · have hlt : n < l'.length := (List.getElem?_eq_some_iff.1 hy).1
          have hlt2 : (n : Int) < l'.length := by omega
          have f1 : (y.key.at_ == x.key.at_) = true := by simpa [sameT] using hya
          have HN2 : Hid (∀ z ∈ l'.take (n + 1), sameT x.key.at_ z = true) := Lib.hid fun z hz => by
            rw [take_snoc hy] at hz
            rcases List.mem_append.1 hz with hz | hz
            · exact HN.out z hz
            · rw [List.mem_singleton] at hz; subst hz; exact hya
          clear hya
          have Hy := Lib.hid hy
          clear hy
          go_wp2_with first | ((with_reducible apply wps_load_el S 1 (hj := Hy.out) (q := 0) (u := .int .i64 y.key.at_)); (case hx | hi => rfl); (case hn => omega); (case hu => rfl); (case hT => decide +kernel))
          go_roundw
          case rel => exact ⟨n + 1, by omega, by omega, by go_num, HN2, S⟩
          case measure => simp [intOf]; omega
        · obtain ⟨s3, b3, hr⟩ : ∃ a b, runL c x.key.at_ (l'.take n) ss1 = (a, b) := ⟨_, _, rfl⟩
          obtain ⟨rest2, ht2⟩ : ∃ b, (timesL c (l'.drop n) s3).2 = b := ⟨_, rfl⟩
          have hti := times_step c HX.out hnl HN.out hcut ss1
          rw [HT.out, hr] at hti
          simp only [Prod.mk.injEq] at hti
          rw [ht2] at hti
          have HT2 : Hid (timesL c (l'.drop n) s3 = (ssF, rest2)) := Lib.hid (Prod.ext hti.1.symm ht2)
          have HB3 : Hid (lb.map (·.b) ++ (b3 ++ rest2) = bs) := Lib.hid (by rw [← hti.2]; exact HB.out)
          have HRU := Lib.hid hr
          have hsub : (l'.take n).Sublist sl := by rw [← HP.out]; exact (List.take_sublist _ _).trans (List.sublist_append_right _ _)
          have HTA : Hid (∀ y ∈ l'.take n, y.key.at_ = x.key.at_) := Lib.hid fun y hy => by have := HN.out y hy; simpa [sameT] using this
          have HDG : Hid (dupB (l'.take n) = false) := Lib.hid (dup_sub hsub HDU.out)
          have hxs : x ∈ sl := by rw [← HP.out]; exact List.mem_append_right _ (List.mem_of_getElem? HX.out)
          have HAT := Lib.hid (HEV.out x hxs)
          have hn4 : (l'.take n).length ≤ 65536 := by rw [List.length_take]; omega
          have HS3 : Hid (s3.length = c.lps.length) := Lib.hid (by have := runL_len c x.key.at_ (l'.take n) ss1; rw [hr] at this; exact this.trans HSS.out)
          have hb3 : lb.length + b3.length ≤ 65536 := by
            have h1 := HTS.out.1
            have h2 := congrArg List.length HB3.out
            rw [List.length_append, List.length_append, List.length_map] at h2
            omega
          have HSM : Hid (∀ b ∈ b3, b.ins.length ≤ 65536 ∧ b.sent.length ≤ 600000) := Lib.hid fun b hb => HTS.out.2 b (by rw [← HB3.out]; exact List.mem_append_right _ (List.mem_append_left _ hb))
          clear hti ht2 hr hsub hxs HT HB HN HX
          rcases hcut with hcut | ⟨y, hy, hya⟩
          · have hge : ¬ (n : Int) < l'.length := by omega
            clear hcut
            go_wp2_with first | ((with_reducible apply wps_slice (E := 78) S 1 (l := 0) (u := n)); (case hx | hi => rfl); (case hT => exact Tryz.underlying45); (case hE => intro w; kernel_rfl); (case hlo | hhi => first | exact .inr rfl | exact .inl ⟨rfl, rfl⟩); (case h1 | h2 => first | omega | (simp; omega)); clear S; intro az nz cz hnz S) | (go_at_call 32; simp only [List.drop_zero] at S; obtain ⟨Fz, hF, hBk⟩ := S.lend [1] [0, 3, 4] [2, 3, 4, 5, 6, 7] rfl rfl rfl; simp only [List.cons_append, List.nil_append, pick, nth] at hF hBk; have hrun := lrun_calls X R vs hs c ⟨ss1, tm, done ++ lb.map (·.b)⟩ x.key.at_ _ (l'.take n) _ _ hF HC.out hn4 HSS.out HTA.out HAT.out HDG.out; simp only [HRU.out] at hrun; refine Calls.mono hrun ?_; clear hrun; rintro e wz ⟨ar, cr, lr, rfl, hlr, T⟩; have hbl : b3.length = lr.length := (by rw [← hlr, List.length_map]); rw [hbl] at T ⊢; replace S := hBk _ _ T rfl; have HLR := Lib.hid hlr; have hlb : lb.length + lr.length ≤ 65536 := (by omega); clear hBk hF T hbl hlr; simp only [List.cons_append, List.nil_append] at S)
            obtain ⟨v1, v2, ld, hld, S⟩ := log_open S
            have HLD := Lib.hid hld
            have hldn : ld.length ≤ 131072 := by
              have h2 := congrArg List.length hld
              rw [List.length_map, List.length_append, List.length_map] at h2
              omega
            clear hld
            replace S := S.pick [5, 6, 7, 0, 1, 3, 8, 9, 10, 12, 13, 11, 4, 2] rfl
            simp only [pick, nth] at S
            go_loopw [10, 59] (fun out i wr => CoRel3 X R vs hs c tm v1 (.slice (some ⟨R2, o2, none⟩) l'.length c2) (.slice ar lr.length cr) l' s3 ld lb lr F w out i wr) (fun _ i _ => lr.length - (intOf i).toNat)
            case atStart => exact ⟨0, lb, ld, v2, Nat.zero_le _, rfl, Lib.hid (by simp), Lib.hid (by simp), by omega, S⟩
            case round =>
              clear S
              obtain ⟨k, la, lk, v2, hk, rfl, HLA, HLK, hla, S⟩ := hrel
              obtain ⟨ao, co, rfl, _⟩ := (S.ownsl bvcells 11 rfl).elim fun _ h => h.form
              obtain ⟨a2, ck2, rfl, _⟩ := (S.ownsl bvcells 13 rfl).elim fun _ h => h.form
              by_cases hkt : k < lr.length
              · obtain ⟨y1, hy1⟩ : ∃ y, lr[k]? = some y := ⟨_, List.getElem?_eq_getElem hkt⟩
                obtain ⟨Rr, crr, e⟩ := own_hd 0 S rfl (by omega)
                simp only [Value.slice.injEq] at e
                obtain ⟨rfl, hq, rfl⟩ := e
                clear hq
                have hkt2 : (k : Int) < lr.length := by omega
                have hsz := HSM.out y1.b (by rw [← HLR.out]; exact List.mem_map.2 ⟨y1, List.mem_of_getElem? hy1, rfl⟩)
                have hs1 : y1.b.ins.length ≤ 4294967296 := by omega
                have hs2 : y1.b.sent.length ≤ 4294967296 := by omega
                have hla2 : la.length < 4294967296 := by omega
                have HLAL : Hid (la.length = lb.length + k) := Lib.hid (by have := congrArg List.length HLA.out; simp only [List.length_map, List.length_append, List.length_take] at this; omega)
                have hlk2 : lk.length < 4294967296 := by rw [HLK.out, List.length_append, List.length_take]; omega
                have HVI : Hid ((lr.map (·.vi))[k]? = some y1.vi) := Lib.hid (by rw [List.getElem?_map, hy1]; rfl)
                have HVB : Hid ((lr.map (·.b.ins))[k]? = some y1.b.ins) := Lib.hid (by rw [List.getElem?_map, hy1]; rfl)
                have HVO : Hid ((lr.map (·.vo))[k]? = some y1.vo) := Lib.hid (by rw [List.getElem?_map, hy1]; rfl)
                have HVS : Hid ((lr.map (·.b.sent))[k]? = some y1.b.sent) := Lib.hid (by rw [List.getElem?_map, hy1]; rfl)
                have HLA2 : Hid (∀ z : BatV, z.b = y1.b → (la ++ [z]).map (·.b) = lb.map (·.b) ++ (lr.take (k + 1)).map (·.b)) := Lib.hid fun z hz => by
                  rw [List.map_append, HLA.out, take_snoc hy1, List.map_append, List.append_assoc, List.map_singleton, List.map_singleton, hz]
                have HLK2 : Hid (lk ++ [y1] = ld ++ lr.take (k + 1)) := Lib.hid (by rw [HLK.out, take_snoc hy1, List.append_assoc])
                have HY1 := Lib.hid hy1
                clear hsz hy1
                go_upto_region 16 with first | ((with_reducible apply wps_loada_own bvcells S 0 (hj := HY1.out) (q := 0) (vs := [.int .i64 y1.b.at_, .int .i64 y1.b.lp, y1.vi, .int .i64 y1.b.thn.n0, .int .i64 y1.b.thn.n1, .int .i64 y1.b.thn.n2, .int .i64 y1.b.thn.n3, y1.vo]) (m := 8)); (case hx | hi => rfl); (case hn => omega); (case hm | hv => rfl); (case hT => decide +kernel)) | ((with_reducible apply wps_alloca (E := 54) S); (case hz => exact Tryz.zeroValue54); clear S; intro b14 wz S) | ((with_reducible apply wps_storea (T := 54) S 0 (vs := [.int .i64 y1.b.at_, .int .i64 y1.b.lp, .slice y1.ai y1.b.ins.length y1.ci, .int .i64 y1.b.thn.n0, .int .i64 y1.b.thn.n1, .int .i64 y1.b.thn.n2, .int .i64 y1.b.thn.n3, .slice y1.ao y1.b.sent.length y1.co]) (m := 8)); (case hx | hy | hi | hm | h1 => rfl); (case hn => exact Nat.le_of_ble_eq_true rfl); (case hT => decide +kernel); clear S; intro wz S; simp only [List.set_cons_zero, List.set_cons_succ, setAll, List.setIfInBounds_toArray] at S)
                (refine wp_region_wt (soft := [0, 1, 2, 3, 5]) (L := [_, _, _, _, _, _, _, _, _, _, _, _, _]) (T := [_, _]) S ?hm ?hB ?_); (case hm => kernel_rfl); (case hB => decide +kernel); clear S
                iterate 5
                  (with_reducible apply softs_cons)
                  (case hw =>
                    (with_reducible apply soft_of); (case hi => rfl)
                    intro T wz S
                    simp only [List.cons_append, List.nil_append] at S
                    go_wp2_with first | ((with_reducible apply wps_loada (T := 54) (k := 8) S 0); (case hx | hi => rfl); (case hk => exact Nat.le_of_ble_eq_true rfl); (case hT => decide +kernel)) | ((with_reducible refine tot_done ?ht ?_); (case ht => kernel_rfl))
                    exact ⟨rfl, S⟩)
                  (case hs => exact ⟨_, rfl, by kernel_rfl⟩)
                refine softs_nil ?_
                (with_reducible apply W_hard2 (i := 4) (i' := 6)); (case hn => rfl); (case hr => decide +kernel)
                focus
                  intro wz S
                  (with_reducible apply hard_of); (case hi => rfl)
                  simp only [List.cons_append, List.nil_append] at S
                  go_wp2_with first | ((with_reducible apply wps_load S 13); (case hx | hi | hu => rfl); (case hT => decide +kernel)) | ((with_reducible refine tot_done ?ht ?_); (case ht => kernel_rfl))
                  refine ⟨_, S, ?_⟩
                  clear S
                  (with_reducible apply W_hard1 (i := 6)); (case hn => rfl); (case hr => decide +kernel)
                  intro wz S
                  (with_reducible apply hard_of); (case hi => rfl)
                  simp only [List.cons_append, List.nil_append] at S
                  go_wp2_with first | ((with_reducible apply wps_build1a (T := 44) (E := 54) S); (case hx => rfl); (case hr => intro w; kernel_rfl); clear S; intro bz wz S) | ((with_reducible refine tot_done ?ht ?_); (case ht => kernel_rfl))
                  refine ⟨_, S.pick [1, 2, 3, 4, 5, 6, 7, 8, 9, 10, 11, 12, 13, 14, 15, 0] rfl, ?_⟩
                  clear S
                  (with_reducible apply W_hard1 (i := 7)); (case hn => rfl); (case hr => decide +kernel)
                  intro wz S
                  (with_reducible apply hard_of); (case hi => rfl)
                  simp only [List.cons_append, List.nil_append] at S
                  go_wp2_with first | ((with_reducible apply wps_append1 elem_Bat bvcells bvone (by decide) S 14 (j := 15) (e := y1)); (case hx | hy | hi | hj | he => rfl); (case hl => omega); clear S; intro az nz cz wz hnz S; simp only [List.set_cons_succ] at S) | ((with_reducible refine tot_done ?ht ?_); (case ht => kernel_rfl))
                  refine ⟨_, S, ?_⟩
                  clear S
                  (refine W_mid (f := 1) (soft := [8, 9]) rfl ?hB ?_); (case hB => decide +kernel)
                  iterate 2
                    (with_reducible apply softs_cons)
                    (case hw =>
                      (with_reducible apply soft_of); (case hi => rfl)
                      intro T wz S
                      simp only [List.cons_append, List.nil_append] at S
                      go_wp2_with first | ((with_reducible refine tot_done ?ht ?_); (case ht => kernel_rfl))
                      exact ⟨rfl, S⟩)
                    (case hs => exact ⟨_, rfl, by kernel_rfl⟩)
                  refine softs_nil ?_
                  (with_reducible apply W_hard1 (i := 10)); (case hn => rfl); (case hr => decide +kernel)
                  intro wz S
                  (with_reducible apply hard_of); (case hi => rfl)
                  simp only [List.cons_append, List.nil_append] at S
                  go_wp2_with first | ((with_reducible apply wps_store (u := (.slice az nz cz)) S 13); (case hx | hy | hi | h1 => rfl); (case hn => exact Nat.le_of_ble_eq_true rfl); (case hT => decide +kernel); clear S; intro wz S; simp only [List.set_cons_succ, List.set_cons_zero, List.setIfInBounds_toArray] at S) | ((with_reducible refine tot_done ?ht ?_); (case ht => kernel_rfl))
                  refine ⟨_, S, ?_⟩
                  clear S
                  (with_reducible apply W_done); (case hn => rfl); (case hr => decide +kernel)
                  intro wz S
                  repeat (first | simp only at S | simp only [pick] at S | simp only [nth] at S | simp only [List.set_cons_succ] at S | simp only [List.set_cons_zero] at S | simp only [List.setIfInBounds_toArray] at S | simp only [setAll] at S | simp only [List.cons_append] at S | simp only [List.nil_append] at S | simp only [List.append_nil] at S)
                rotate_left 1
                focus
                  intro wz S
                  (with_reducible apply hard_of); (case hi => rfl)
                  simp only [List.cons_append, List.nil_append] at S
                  go_wp2_with first | ((with_reducible apply wps_build1a (T := 44) (E := 54) S); (case hx => rfl); (case hr => intro w; kernel_rfl); clear S; intro bz wz S) | ((with_reducible refine tot_done ?ht ?_); (case ht => kernel_rfl))
                  refine ⟨_, S.pick [1, 2, 3, 4, 5, 6, 7, 8, 9, 10, 11, 12, 13, 14, 15, 0] rfl, ?_⟩
                  clear S
                  (with_reducible apply W_hard1 (i := 4)); (case hn => rfl); (case hr => decide +kernel)
                  intro wz S
                  (with_reducible apply hard_of); (case hi => rfl)
                  simp only [List.cons_append, List.nil_append] at S
                  go_wp2_with first | ((with_reducible apply wps_load S 13); (case hx | hi | hu => rfl); (case hT => decide +kernel)) | ((with_reducible refine tot_done ?ht ?_); (case ht => kernel_rfl))
                  refine ⟨_, S, ?_⟩
                  clear S
                  (with_reducible apply W_hard1 (i := 7)); (case hn => rfl); (case hr => decide +kernel)
                  intro wz S
                  (with_reducible apply hard_of); (case hi => rfl)
                  simp only [List.cons_append, List.nil_append] at S
                  go_wp2_with first | ((with_reducible apply wps_append1 elem_Bat bvcells bvone (by decide) S 14 (j := 15) (e := y1)); (case hx | hy | hi | hj | he => rfl); (case hl => omega); clear S; intro az nz cz wz hnz S; simp only [List.set_cons_succ] at S) | ((with_reducible refine tot_done ?ht ?_); (case ht => kernel_rfl))
                  refine ⟨_, S, ?_⟩
                  clear S
                  (refine W_mid (f := 1) (soft := [8, 9]) rfl ?hB ?_); (case hB => decide +kernel)
                  iterate 2
                    (with_reducible apply softs_cons)
                    (case hw =>
                      (with_reducible apply soft_of); (case hi => rfl)
                      intro T wz S
                      simp only [List.cons_append, List.nil_append] at S
                      go_wp2_with first | ((with_reducible refine tot_done ?ht ?_); (case ht => kernel_rfl))
                      exact ⟨rfl, S⟩)
                    (case hs => exact ⟨_, rfl, by kernel_rfl⟩)
                  refine softs_nil ?_
                  (with_reducible apply W_hard1 (i := 10)); (case hn => rfl); (case hr => decide +kernel)
                  intro wz S
                  (with_reducible apply hard_of); (case hi => rfl)
                  simp only [List.cons_append, List.nil_append] at S
                  go_wp2_with first | ((with_reducible apply wps_store (u := (.slice az nz cz)) S 13); (case hx | hy | hi | h1 => rfl); (case hn => exact Nat.le_of_ble_eq_true rfl); (case hT => decide +kernel); clear S; intro wz S; simp only [List.set_cons_succ, List.set_cons_zero, List.setIfInBounds_toArray] at S) | ((with_reducible refine tot_done ?ht ?_); (case ht => kernel_rfl))
                  refine ⟨_, S, ?_⟩
                  clear S
                  (with_reducible apply W_done); (case hn => rfl); (case hr => decide +kernel)
                  intro wz S
                  repeat (first | simp only at S | simp only [pick] at S | simp only [nth] at S | simp only [List.set_cons_succ] at S | simp only [List.set_cons_zero] at S | simp only [List.setIfInBounds_toArray] at S | simp only [setAll] at S | simp only [List.cons_append] at S | simp only [List.nil_append] at S | simp only [List.append_nil] at S)
                all_goals
                  go_wp2_with first | ((with_reducible apply wps_loada (T := 54) (k := 8) S 0); (case hx | hi => rfl); (case hk => exact Nat.le_of_ble_eq_true rfl); (case hT => decide +kernel)) | (go_at_call 33; refine Calls.mono (lown_calls y1 _ _ _ (sls_el (S.get (i := 2) rfl).choose_spec HVI.out HVB.out) (sls_el (S.get (i := 3) rfl).choose_spec HVO.out HVS.out) hs1 hs2) ?_; rintro e wz ⟨ai, ci, ao2, co2, rfl, T⟩; replace S := S.join T rfl; clear T; simp only [List.cons_append, List.nil_append] at S) | ((with_reducible apply wps_build1a (T := 44) (E := 54) S); (case hx => rfl); (case hr => intro w; kernel_rfl); clear S; intro bzq wz S) | ((with_reducible apply wps_append1 elem_Bat bvcells bvone (by decide) S 15 (j := 0) (e := (⟨y1.b, ai, ci, ao2, co2⟩ : BatV))); (case hx | hy | hi | hj | he => rfl); (case hl => first | omega | (simp; omega)); clear S; intro azq nzq czq wz hnzq S; simp only [List.set_cons_succ, List.set_cons_zero] at S)
                  go_roundw
                  case rel =>
                    refine ⟨k + 1, la ++ [⟨y1.b, ai, ci, ao2, co2⟩], lk ++ [y1], .slice az nz cz, by omega, by go_num, Lib.hid (HLA2.out _ rfl), HLK2, by rw [List.length_append, HLAL.out]; simp only [List.length_cons, List.length_nil]; omega, ?_⟩
                    simp only [List.map_append, List.map_cons, List.map_nil]
                    have S2 := S.pick [1, 13, 2, 14, 4, 5, 6, 7, 8, 9, 10, 11, 12, 15, 16, 17] rfl
                    simp only [pick, nth] at S2
                    have S3 := S2.freeze false 0 ecells rfl
                    simp only [List.set_cons_zero] at S3
                    have S4 := S3.slsSnoc.pick [1, 2, 0, 3, 4, 5, 6, 7, 8, 9, 10, 11, 12, 13, 14] rfl
                    simp only [pick, nth] at S4
                    have S5 := S4.freeze false 0 ecells rfl
                    simp only [List.set_cons_zero] at S5
                    exact S5.slsSnoc.pick [2, 3, 4, 5, 6, 7, 8, 9, 10, 1, 0, 11, 12, 13] rfl
                  case measure => simp [intOf]; omega
              · obtain rfl : k = lr.length := by omega
                have HLA2 : Hid (la.map (·.b) = lb.map (·.b) ++ lr.map (·.b)) := Lib.hid (by have := HLA.out; rwa [List.take_length] at this)
                have HLK2 : Hid (lk = ld ++ lr) := Lib.hid (by have := HLK.out; rwa [List.take_length] at this)
                have HLD2 : Hid ((ld ++ lr).map (·.b) = (done ++ lb.map (·.b)) ++ lr.map (·.b)) := Lib.hid (by rw [List.map_append, HLD.out])
                have HB4 : Hid (la.map (·.b) ++ rest2 = bs) := Lib.hid (by rw [HLA2.out, HLR.out, List.append_assoc]; exact HB3.out)
                have HDN : Hid ((done ++ lb.map (·.b)) ++ lr.map (·.b) = done ++ la.map (·.b)) := Lib.hid (by rw [HLA2.out, List.append_assoc])
                have HP2 : Hid ((pre ++ l'.take n) ++ l'.drop n = sl) := Lib.hid (by rw [List.append_assoc, List.take_append_drop]; exact HP.out)
                rw [HLK2.out] at S
                replace S := S.pick [3, 1, 4, 2, 5, 6, 7, 8, 9, 10, 11, 12, 13] rfl
                simp only [pick, nth] at S
                replace S := S.slsAppend.pick [1, 2, 0, 3, 4, 5, 6, 7, 8, 9, 10, 11] rfl
                simp only [pick, nth] at S
                replace S := S.slsAppend
                rw [← List.map_append, ← List.map_append, ← List.map_append, ← List.map_append] at S
                replace S := S.pick [1, 0, 10, 2, 9, 3, 4, 5, 6, 7, 8] rfl
                simp only [pick, nth] at S
                replace S := log_close (g := ⟨s3, tm, (done ++ lb.map (·.b)) ++ lr.map (·.b)⟩) HLD2.out S
                rw [HDN.out] at S
                clear HLA HLK HLA2 HLK2 HLD2 HLD HB3
                go_wp2_with first | ((with_reducible apply wps_slice' (E := 78) S 1 (l := n) (u := l'.length)); (case hx | hi => rfl); (case hT => exact Tryz.underlying45); (case hE => intro w; kernel_rfl); (case hlo | hhi => first | exact .inr rfl | exact .inl ⟨rfl, rfl⟩); (case h1 | h2 => first | omega | (simp; omega)); clear S; intro az nz cz hnz S; simp only [List.set_cons_succ, List.set_cons_zero] at S)
                go_roundw
                case rel =>
                  rw [List.take_length] at S
                  exact ⟨l'.drop n, la, s3, rest2, pre ++ l'.take n, HT2, HB4, HP2, HS3, S.pick [0, 1, 2, 3, 6, 4, 5] rfl⟩
                case measure => have := hnz.out; simp only [vlen]; omega
          · have hlt2 : (n : Int) < l'.length := by have := (List.getElem?_eq_some_iff.1 hy).1; omega
            have f1 : (y.key.at_ == x.key.at_) = false := by simpa [sameT] using hya
            clear hya
            have Hy := Lib.hid hy
            clear hy
            go_wp2_with first | ((with_reducible apply wps_load_el S 1 (hj := Hy.out) (q := 0) (u := .int .i64 y.key.at_)); (case hx | hi => rfl); (case hn => omega); (case hu => rfl); (case hT => decide +kernel)) | ((with_reducible apply wps_slice (E := 78) S 1 (l := 0) (u := n)); (case hx | hi => rfl); (case hT => exact Tryz.underlying45); (case hE => intro w; kernel_rfl); (case hlo | hhi => first | exact .inr rfl | exact .inl ⟨rfl, rfl⟩); (case h1 | h2 => first | omega | (simp; omega)); clear S; intro az nz cz hnz S) | (go_at_call 32; simp only [List.drop_zero] at S; obtain ⟨Fz, hF, hBk⟩ := S.lend [1] [0, 3, 4] [2, 3, 4, 5, 6, 7] rfl rfl rfl; simp only [List.cons_append, List.nil_append, pick, nth] at hF hBk; have hrun := lrun_calls X R vs hs c ⟨ss1, tm, done ++ lb.map (·.b)⟩ x.key.at_ _ (l'.take n) _ _ hF HC.out hn4 HSS.out HTA.out HAT.out HDG.out; simp only [HRU.out] at hrun; refine Calls.mono hrun ?_; clear hrun; rintro e wz ⟨ar, cr, lr, rfl, hlr, T⟩; have hbl : b3.length = lr.length := (by rw [← hlr, List.length_map]); rw [hbl] at T ⊢; replace S := hBk _ _ T rfl; have HLR := Lib.hid hlr; have hlb : lb.length + lr.length ≤ 65536 := (by omega); clear hBk hF T hbl hlr; simp only [List.cons_append, List.nil_append] at S)
            obtain ⟨v1, v2, ld, hld, S⟩ := log_open S
            have HLD := Lib.hid hld
            have hldn : ld.length ≤ 131072 := by
              have h2 := congrArg List.length hld
              rw [List.length_map, List.length_append, List.length_map] at h2
              omega
            clear hld
            replace S := S.pick [5, 6, 7, 0, 1, 3, 8, 9, 10, 12, 13, 11, 4, 2] rfl
            simp only [pick, nth] at S
            go_loopw [10, 59] (fun out i wr => CoRel3 X R vs hs c tm v1 (.slice (some ⟨R2, o2, none⟩) l'.length c2) (.slice ar lr.length cr) l' s3 ld lb lr F w out i wr) (fun _ i _ => lr.length - (intOf i).toNat)
            case atStart => exact ⟨0, lb, ld, v2, Nat.zero_le _, rfl, Lib.hid (by simp), Lib.hid (by simp), by omega, S⟩
            case round =>
              clear S
              obtain ⟨k, la, lk, v2, hk, rfl, HLA, HLK, hla, S⟩ := hrel
              obtain ⟨ao, co, rfl, _⟩ := (S.ownsl bvcells 11 rfl).elim fun _ h => h.form
              obtain ⟨a2, ck2, rfl, _⟩ := (S.ownsl bvcells 13 rfl).elim fun _ h => h.form
              by_cases hkt : k < lr.length
              · obtain ⟨y1, hy1⟩ : ∃ y, lr[k]? = some y := ⟨_, List.getElem?_eq_getElem hkt⟩
                obtain ⟨Rr, crr, e⟩ := own_hd 0 S rfl (by omega)
                simp only [Value.slice.injEq] at e
                obtain ⟨rfl, hq, rfl⟩ := e
                clear hq
                have hkt2 : (k : Int) < lr.length := by omega
                have hsz := HSM.out y1.b (by rw [← HLR.out]; exact List.mem_map.2 ⟨y1, List.mem_of_getElem? hy1, rfl⟩)
                have hs1 : y1.b.ins.length ≤ 4294967296 := by omega
                have hs2 : y1.b.sent.length ≤ 4294967296 := by omega
                have hla2 : la.length < 4294967296 := by omega
                have HLAL : Hid (la.length = lb.length + k) := Lib.hid (by have := congrArg List.length HLA.out; simp only [List.length_map, List.length_append, List.length_take] at this; omega)
                have hlk2 : lk.length < 4294967296 := by rw [HLK.out, List.length_append, List.length_take]; omega
                have HVI : Hid ((lr.map (·.vi))[k]? = some y1.vi) := Lib.hid (by rw [List.getElem?_map, hy1]; rfl)
                have HVB : Hid ((lr.map (·.b.ins))[k]? = some y1.b.ins) := Lib.hid (by rw [List.getElem?_map, hy1]; rfl)
                have HVO : Hid ((lr.map (·.vo))[k]? = some y1.vo) := Lib.hid (by rw [List.getElem?_map, hy1]; rfl)
                have HVS : Hid ((lr.map (·.b.sent))[k]? = some y1.b.sent) := Lib.hid (by rw [List.getElem?_map, hy1]; rfl)
                have HLA2 : Hid (∀ z : BatV, z.b = y1.b → (la ++ [z]).map (·.b) = lb.map (·.b) ++ (lr.take (k + 1)).map (·.b)) := Lib.hid fun z hz => by
                  rw [List.map_append, HLA.out, take_snoc hy1, List.map_append, List.append_assoc, List.map_singleton, List.map_singleton, hz]
                have HLK2 : Hid (lk ++ [y1] = ld ++ lr.take (k + 1)) := Lib.hid (by rw [HLK.out, take_snoc hy1, List.append_assoc])
                have HY1 := Lib.hid hy1
                clear hsz hy1
                go_upto_region 16 with first | ((with_reducible apply wps_loada_own bvcells S 0 (hj := HY1.out) (q := 0) (vs := [.int .i64 y1.b.at_, .int .i64 y1.b.lp, y1.vi, .int .i64 y1.b.thn.n0, .int .i64 y1.b.thn.n1, .int .i64 y1.b.thn.n2, .int .i64 y1.b.thn.n3, y1.vo]) (m := 8)); (case hx | hi => rfl); (case hn => omega); (case hm | hv => rfl); (case hT => decide +kernel)) | ((with_reducible apply wps_alloca (E := 54) S); (case hz => exact Tryz.zeroValue54); clear S; intro b14 wz S) | ((with_reducible apply wps_storea (T := 54) S 0 (vs := [.int .i64 y1.b.at_, .int .i64 y1.b.lp, .slice y1.ai y1.b.ins.length y1.ci, .int .i64 y1.b.thn.n0, .int .i64 y1.b.thn.n1, .int .i64 y1.b.thn.n2, .int .i64 y1.b.thn.n3, .slice y1.ao y1.b.sent.length y1.co]) (m := 8)); (case hx | hy | hi | hm | h1 => rfl); (case hn => exact Nat.le_of_ble_eq_true rfl); (case hT => decide +kernel); clear S; intro wz S; simp only [List.set_cons_zero, List.set_cons_succ, setAll, List.setIfInBounds_toArray] at S)
                (refine wp_region_wt (soft := [0, 1, 2, 3, 5]) (L := [_, _, _, _, _, _, _, _, _, _, _, _, _]) (T := [_, _]) S ?hm ?hB ?_); (case hm => kernel_rfl); (case hB => decide +kernel); clear S
                iterate 5
                  (with_reducible apply softs_cons)
                  (case hw =>
                    (with_reducible apply soft_of); (case hi => rfl)
                    intro T wz S
                    simp only [List.cons_append, List.nil_append] at S
                    go_wp2_with first | ((with_reducible apply wps_loada (T := 54) (k := 8) S 0); (case hx | hi => rfl); (case hk => exact Nat.le_of_ble_eq_true rfl); (case hT => decide +kernel)) | ((with_reducible refine tot_done ?ht ?_); (case ht => kernel_rfl))
                    exact ⟨rfl, S⟩)
                  (case hs => exact ⟨_, rfl, by kernel_rfl⟩)
                refine softs_nil ?_
                (with_reducible apply W_hard2 (i := 4) (i' := 6)); (case hn => rfl); (case hr => decide +kernel)
                focus
                  intro wz S
                  (with_reducible apply hard_of); (case hi => rfl)
                  simp only [List.cons_append, List.nil_append] at S
                  go_wp2_with first | ((with_reducible apply wps_load S 13); (case hx | hi | hu => rfl); (case hT => decide +kernel)) | ((with_reducible refine tot_done ?ht ?_); (case ht => kernel_rfl))
                  refine ⟨_, S, ?_⟩
                  clear S
                  (with_reducible apply W_hard1 (i := 6)); (case hn => rfl); (case hr => decide +kernel)
                  intro wz S
                  (with_reducible apply hard_of); (case hi => rfl)
                  simp only [List.cons_append, List.nil_append] at S
                  go_wp2_with first | ((with_reducible apply wps_build1a (T := 44) (E := 54) S); (case hx => rfl); (case hr => intro w; kernel_rfl); clear S; intro bz wz S) | ((with_reducible refine tot_done ?ht ?_); (case ht => kernel_rfl))
                  refine ⟨_, S.pick [1, 2, 3, 4, 5, 6, 7, 8, 9, 10, 11, 12, 13, 14, 15, 0] rfl, ?_⟩
                  clear S
                  (with_reducible apply W_hard1 (i := 7)); (case hn => rfl); (case hr => decide +kernel)
                  intro wz S
                  (with_reducible apply hard_of); (case hi => rfl)
                  simp only [List.cons_append, List.nil_append] at S
                  go_wp2_with first | ((with_reducible apply wps_append1 elem_Bat bvcells bvone (by decide) S 14 (j := 15) (e := y1)); (case hx | hy | hi | hj | he => rfl); (case hl => omega); clear S; intro az nz cz wz hnz S; simp only [List.set_cons_succ] at S) | ((with_reducible refine tot_done ?ht ?_); (case ht => kernel_rfl))
                  refine ⟨_, S, ?_⟩
                  clear S
                  (refine W_mid (f := 1) (soft := [8, 9]) rfl ?hB ?_); (case hB => decide +kernel)
                  iterate 2
                    (with_reducible apply softs_cons)
                    (case hw =>
                      (with_reducible apply soft_of); (case hi => rfl)
                      intro T wz S
                      simp only [List.cons_append, List.nil_append] at S
                      go_wp2_with first | ((with_reducible refine tot_done ?ht ?_); (case ht => kernel_rfl))
                      exact ⟨rfl, S⟩)
                    (case hs => exact ⟨_, rfl, by kernel_rfl⟩)
                  refine softs_nil ?_
                  (with_reducible apply W_hard1 (i := 10)); (case hn => rfl); (case hr => decide +kernel)
                  intro wz S
                  (with_reducible apply hard_of); (case hi => rfl)
                  simp only [List.cons_append, List.nil_append] at S
                  go_wp2_with first | ((with_reducible apply wps_store (u := (.slice az nz cz)) S 13); (case hx | hy | hi | h1 => rfl); (case hn => exact Nat.le_of_ble_eq_true rfl); (case hT => decide +kernel); clear S; intro wz S; simp only [List.set_cons_succ, List.set_cons_zero, List.setIfInBounds_toArray] at S) | ((with_reducible refine tot_done ?ht ?_); (case ht => kernel_rfl))
                  refine ⟨_, S, ?_⟩
                  clear S
                  (with_reducible apply W_done); (case hn => rfl); (case hr => decide +kernel)
                  intro wz S
                  repeat (first | simp only at S | simp only [pick] at S | simp only [nth] at S | simp only [List.set_cons_succ] at S | simp only [List.set_cons_zero] at S | simp only [List.setIfInBounds_toArray] at S | simp only [setAll] at S | simp only [List.cons_append] at S | simp only [List.nil_append] at S | simp only [List.append_nil] at S)
                rotate_left 1
                focus
                  intro wz S
                  (with_reducible apply hard_of); (case hi => rfl)
                  simp only [List.cons_append, List.nil_append] at S
                  go_wp2_with first | ((with_reducible apply wps_build1a (T := 44) (E := 54) S); (case hx => rfl); (case hr => intro w; kernel_rfl); clear S; intro bz wz S) | ((with_reducible refine tot_done ?ht ?_); (case ht => kernel_rfl))
                  refine ⟨_, S.pick [1, 2, 3, 4, 5, 6, 7, 8, 9, 10, 11, 12, 13, 14, 15, 0] rfl, ?_⟩
                  clear S
                  (with_reducible apply W_hard1 (i := 4)); (case hn => rfl); (case hr => decide +kernel)
                  intro wz S
                  (with_reducible apply hard_of); (case hi => rfl)
                  simp only [List.cons_append, List.nil_append] at S
                  go_wp2_with first | ((with_reducible apply wps_load S 13); (case hx | hi | hu => rfl); (case hT => decide +kernel)) | ((with_reducible refine tot_done ?ht ?_); (case ht => kernel_rfl))
                  refine ⟨_, S, ?_⟩
                  clear S
                  (with_reducible apply W_hard1 (i := 7)); (case hn => rfl); (case hr => decide +kernel)
                  intro wz S
                  (with_reducible apply hard_of); (case hi => rfl)
                  simp only [List.cons_append, List.nil_append] at S
                  go_wp2_with first | ((with_reducible apply wps_append1 elem_Bat bvcells bvone (by decide) S 14 (j := 15) (e := y1)); (case hx | hy | hi | hj | he => rfl); (case hl => omega); clear S; intro az nz cz wz hnz S; simp only [List.set_cons_succ] at S) | ((with_reducible refine tot_done ?ht ?_); (case ht => kernel_rfl))
                  refine ⟨_, S, ?_⟩
                  clear S
                  (refine W_mid (f := 1) (soft := [8, 9]) rfl ?hB ?_); (case hB => decide +kernel)
                  iterate 2
                    (with_reducible apply softs_cons)
                    (case hw =>
                      (with_reducible apply soft_of); (case hi => rfl)
                      intro T wz S
                      simp only [List.cons_append, List.nil_append] at S
                      go_wp2_with first | ((with_reducible refine tot_done ?ht ?_); (case ht => kernel_rfl))
                      exact ⟨rfl, S⟩)
                    (case hs => exact ⟨_, rfl, by kernel_rfl⟩)
                  refine softs_nil ?_
                  (with_reducible apply W_hard1 (i := 10)); (case hn => rfl); (case hr => decide +kernel)
                  intro wz S
                  (with_reducible apply hard_of); (case hi => rfl)
                  simp only [List.cons_append, List.nil_append] at S
                  go_wp2_with first | ((with_reducible apply wps_store (u := (.slice az nz cz)) S 13); (case hx | hy | hi | h1 => rfl); (case hn => exact Nat.le_of_ble_eq_true rfl); (case hT => decide +kernel); clear S; intro wz S; simp only [List.set_cons_succ, List.set_cons_zero, List.setIfInBounds_toArray] at S) | ((with_reducible refine tot_done ?ht ?_); (case ht => kernel_rfl))
                  refine ⟨_, S, ?_⟩
                  clear S
                  (with_reducible apply W_done); (case hn => rfl); (case hr => decide +kernel)
                  intro wz S
                  repeat (first | simp only at S | simp only [pick] at S | simp only [nth] at S | simp only [List.set_cons_succ] at S | simp only [List.set_cons_zero] at S | simp only [List.setIfInBounds_toArray] at S | simp only [setAll] at S | simp only [List.cons_append] at S | simp only [List.nil_append] at S | simp only [List.append_nil] at S)
                all_goals
                  go_wp2_with first | ((with_reducible apply wps_loada (T := 54) (k := 8) S 0); (case hx | hi => rfl); (case hk => exact Nat.le_of_ble_eq_true rfl); (case hT => decide +kernel)) | (go_at_call 33; refine Calls.mono (lown_calls y1 _ _ _ (sls_el (S.get (i := 2) rfl).choose_spec HVI.out HVB.out) (sls_el (S.get (i := 3) rfl).choose_spec HVO.out HVS.out) hs1 hs2) ?_; rintro e wz ⟨ai, ci, ao2, co2, rfl, T⟩; replace S := S.join T rfl; clear T; simp only [List.cons_append, List.nil_append] at S) | ((with_reducible apply wps_build1a (T := 44) (E := 54) S); (case hx => rfl); (case hr => intro w; kernel_rfl); clear S; intro bzq wz S) | ((with_reducible apply wps_append1 elem_Bat bvcells bvone (by decide) S 15 (j := 0) (e := (⟨y1.b, ai, ci, ao2, co2⟩ : BatV))); (case hx | hy | hi | hj | he => rfl); (case hl => first | omega | (simp; omega)); clear S; intro azq nzq czq wz hnzq S; simp only [List.set_cons_succ, List.set_cons_zero] at S)
                  go_roundw
                  case rel =>
                    refine ⟨k + 1, la ++ [⟨y1.b, ai, ci, ao2, co2⟩], lk ++ [y1], .slice az nz cz, by omega, by go_num, Lib.hid (HLA2.out _ rfl), HLK2, by rw [List.length_append, HLAL.out]; simp only [List.length_cons, List.length_nil]; omega, ?_⟩
                    simp only [List.map_append, List.map_cons, List.map_nil]
                    have S2 := S.pick [1, 13, 2, 14, 4, 5, 6, 7, 8, 9, 10, 11, 12, 15, 16, 17] rfl
                    simp only [pick, nth] at S2
                    have S3 := S2.freeze false 0 ecells rfl
                    simp only [List.set_cons_zero] at S3
                    have S4 := S3.slsSnoc.pick [1, 2, 0, 3, 4, 5, 6, 7, 8, 9, 10, 11, 12, 13, 14] rfl
                    simp only [pick, nth] at S4
                    have S5 := S4.freeze false 0 ecells rfl
                    simp only [List.set_cons_zero] at S5
                    exact S5.slsSnoc.pick [2, 3, 4, 5, 6, 7, 8, 9, 10, 1, 0, 11, 12, 13] rfl
                  case measure => simp [intOf]; omega
              · obtain rfl : k = lr.length := by omega
                have HLA2 : Hid (la.map (·.b) = lb.map (·.b) ++ lr.map (·.b)) := Lib.hid (by have := HLA.out; rwa [List.take_length] at this)
                have HLK2 : Hid (lk = ld ++ lr) := Lib.hid (by have := HLK.out; rwa [List.take_length] at this)
                have HLD2 : Hid ((ld ++ lr).map (·.b) = (done ++ lb.map (·.b)) ++ lr.map (·.b)) := Lib.hid (by rw [List.map_append, HLD.out])
                have HB4 : Hid (la.map (·.b) ++ rest2 = bs) := Lib.hid (by rw [HLA2.out, HLR.out, List.append_assoc]; exact HB3.out)
                have HDN : Hid ((done ++ lb.map (·.b)) ++ lr.map (·.b) = done ++ la.map (·.b)) := Lib.hid (by rw [HLA2.out, List.append_assoc])
                have HP2 : Hid ((pre ++ l'.take n) ++ l'.drop n = sl) := Lib.hid (by rw [List.append_assoc, List.take_append_drop]; exact HP.out)
                rw [HLK2.out] at S
                replace S := S.pick [3, 1, 4, 2, 5, 6, 7, 8, 9, 10, 11, 12, 13] rfl
                simp only [pick, nth] at S
                replace S := S.slsAppend.pick [1, 2, 0, 3, 4, 5, 6, 7, 8, 9, 10, 11] rfl
                simp only [pick, nth] at S
                replace S := S.slsAppend
                rw [← List.map_append, ← List.map_append, ← List.map_append, ← List.map_append] at S
                replace S := S.pick [1, 0, 10, 2, 9, 3, 4, 5, 6, 7, 8] rfl
                simp only [pick, nth] at S
                replace S := log_close (g := ⟨s3, tm, (done ++ lb.map (·.b)) ++ lr.map (·.b)⟩) HLD2.out S
                rw [HDN.out] at S
                clear HLA HLK HLA2 HLK2 HLD2 HLD HB3
                go_wp2_with first | ((with_reducible apply wps_slice' (E := 78) S 1 (l := n) (u := l'.length)); (case hx | hi => rfl); (case hT => exact Tryz.underlying45); (case hE => intro w; kernel_rfl); (case hlo | hhi => first | exact .inr rfl | exact .inl ⟨rfl, rfl⟩); (case h1 | h2 => first | omega | (simp; omega)); clear S; intro az nz cz hnz S; simp only [List.set_cons_succ, List.set_cons_zero] at S)
                go_roundw
                case rel =>
                  rw [List.take_length] at S
                  exact ⟨l'.drop n, la, s3, rest2, pre ++ l'.take n, HT2, HB4, HP2, HS3, S.pick [0, 1, 2, 3, 6, 4, 5] rfl⟩
                case measure => have := hnz.out; simp only [vlen]; omega
end Go.Proofs.YtemgonomenjjaaaGreatDoor
