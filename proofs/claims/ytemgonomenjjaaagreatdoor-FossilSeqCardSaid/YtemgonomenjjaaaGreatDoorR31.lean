import Derived.Test.YtemgonomenjjaaaGreatDoorR28
import Derived.Test.YtemgonomenjjaaaGreatDoorR19
import Derived.Test.YtemgonomenjjaaaGreatDoorR30
/- The walk of a simulation's Waits. -/
namespace Go.Proofs.YtemgonomenjjaaaGreatDoor
open Go Go.RowKit Reg Mem

section
variable {P : Program} {fn : Func} {R : Ending → World → Prop} {G : Nat → Prop} {w0 : World} {L : List Asn} {tmps : Array Value}
/-- A return behind ranges over functions: each mark is taken. -/
theorem leaves_retN : ∀ (Ds : List Nat) (w : World), St G w0 w (stars (Ds.map DefA) :: L) → (∀ w', St G w0 w' L → ∃ v, (results fn tmps).run P w' = .ok v w' ∧ R (.returned v) w') →
    bodyPostM Fence.wide 0 P fn R .ret { tmps := tmps, defers := Ds.map fun D => { target := .collected D, args := #[] } } w
  | [], w, S, h => by
    obtain ⟨v, hr, hR⟩ := h w S.tail
    show LeavesInM _ _ _ _ _ _ [] _ _
    exact ⟨v, hr, hR⟩
  | D :: Ds, w, S, h => by
    have S2 : St G w0 w (DefA D :: stars (Ds.map DefA) :: L) := St.open_sep (sh := false) S rfl (stars_sh _)
    have := leaves_retN Ds _ S2.taken.2 h
    show LeavesInM _ _ _ _ _ _ (_ :: _) _ _
    exact ⟨by simp, .inl ⟨D, _, rfl, run_takeDeferred S2.taken.1, this⟩⟩
end
def WtI (X b3 : Nat) (cs : Array Value) (ap : Option Addr) (cpp : Nat) (Bs : List Nat) (ws : List (List Row)) (w : World) (a : Act) (wr : World) : Prop :=
  ∃ (Ds : List Nat) (j : Nat) (lo : List Event) (ov u5 u7 u16 u17 u18 u19 u20 u21 u22 u23 u24 u25 u26 u27 : Value), j ≤ ws.length ∧ Hid (lo.length = (ws.take j).flatten.length) ∧
    a = { tmps := #[.pointer (some ⟨X, 0, none⟩), undef, .slice none 0 0, .pointer (some ⟨b3, 0, none⟩), undef, u5, undef, u7, .pointer (some ⟨X, 0, none⟩), .bool false, .pointer (some ⟨X, 0, none⟩), .pointer (some ⟨X, 0, none⟩), .pointer (some ⟨X, 2, none⟩), .slice ap Bs.length cpp, .int .i64 Bs.length, .int .i64 j, u16, u17, u18, u19, u20, u21, u22, u23, u24, u25, u26, u27, undef, undef], defers := Ds.map fun D => { target := .collected D, args := #[] } } ∧
    St (fun _ => False) w wr [stars (Ds.map DefA), Mem.Own 78 Event.cells 7 ov lo, Blk false b3 #[ov] 45, rd (stars (List.zipWith heapA Bs ws)), Sl true hpE 1 (.slice ap Bs.length cpp) Bs, Blk true X cs 140]
def WtPhi (X b3 : Nat) (cs : Array Value) (ap : Option Addr) (cpp : Nat) (Bs : List Nat) (ws : List (List Row)) (Ds : List Nat) (n : Nat) (k : Nat) (L : List Asn) : Prop :=
  ∃ (lo : List Event) (ov : Value), Hid (lo.length = n + k) ∧ L = [stars (Ds.map DefA), Mem.Own 78 Event.cells 7 ov lo, Blk false b3 #[ov] 45, rd (stars (List.zipWith heapA Bs ws)), Sl true hpE 1 (.slice ap Bs.length cpp) Bs, Blk true X cs 140]
theorem flat_take_len {ws : List (List Row)} (j : Nat) : (ws.take j).flatten.length ≤ ws.flatten.length := by
  conv => rhs; rw [← List.take_append_drop j ws, List.flatten_append, List.length_append]
  omega
set_option maxRecDepth 100000 in
set_option maxHeartbeats 8000000 in
theorem waits_calls (X R : Nat) (s : SimE) (w : World) (F : Nat → Prop) (h : (simA X R s).at_ w F) (hn : (waitsE s).length ≤ 60000) (hws : s.ws.length ≤ 32) :
    Calls Tryz.prog 42 #[.pointer (some ⟨X, 0, none⟩)] w fun e w' => ∃ a c, e = .returned (.slice a (waitsE s).length c) ∧ Below w.heap.size w w' := by
  obtain ⟨v1, v2, Bs, hlen, S⟩ := simR_st h
  clear h
  unfold waitsE at *
  replace S := S.pick [0, 1, 3] rfl
  simp only [pick, nth] at S
  obtain ⟨ap, cpp, rfl, _⟩ := (S.sl 1 rfl).elim fun _ h => h.form
  generalize s.ws = ws at *
  have HLEN := Lib.hid hlen
  have hnB : (Bs.length : Int) ≤ 32 := by omega
  have HN := Lib.hid hn
  have HWS := Lib.hid hws
  clear hlen hn hws
  have hq : ∀ (w : World) (b : Nat), (binOp .eql 150 (.func (.func 105) #[] #[.pointer (some ⟨b, 0, none⟩)]) .nilFunc).run Tryz.prog w = .ok (.bool false) w := fun w b => run_eql_func_nil w _ _ _ Tryz.underlying150
  refine calls_marks Tryz.func42 rfl ?_
  simp only [Tryz.ntmps42, List.size_toArray, List.length_cons, List.length_nil, Nat.reduceAdd, Nat.reduceSub, Array.replicate_succ, Array.replicate_zero, List.push_toArray, List.append_toArray, List.nil_append, List.cons_append]
  go_wp2_with first | ((with_reducible apply wps_alloc1 (E := 45) S); (case hz => exact Tryz.zeroValue45); (case h1 => rfl); clear S; intro b3 wz S) | ((with_reducible apply wps_load S 3); (case hx | hi | hu => rfl); (case hT => decide +kernel))
  replace S := (S.nil 78 Event.cells 7).starNil
  refine wp_loop (WtI X b3 #[v1, .pointer (some ⟨R, 0, none⟩), .slice ap Bs.length cpp, .int .i64 s.many, .int .i64 s.peak] ap cpp Bs ws w) (fun a _ => ws.length - (intOf (a.tmps.getD 15 undef)).toNat) ⟨[], 0, [], _, _, _, _, _, _, _, _, _, _, _, _, _, _, _, Nat.zero_le _, Lib.hid rfl, rfl, S⟩ ?_
  clear S
  rintro _ wr ⟨Ds, j, lo, ov, u5, u7, u16, u17, u18, u19, u20, u21, u22, u23, u24, u25, u26, u27, hj, HL, rfl, S⟩
  have hlo : lo.length ≤ 60000 := by have := HL.out; have := flat_take_len (ws := ws) j; have := HN.out; omega
  obtain ⟨ao, co, rfl, _⟩ := (S.ownsl ecells 1 rfl).elim fun _ h => h.form
  by_cases hlt : j < ws.length
  · have hlt2 : (j : Int) < Bs.length := by have := HLEN.out; omega
    obtain ⟨B, hBd⟩ : ∃ B, Bs[j]? = some B := ⟨_, List.getElem?_eq_getElem (by have := HLEN.out; omega)⟩
    obtain ⟨h, hh⟩ : ∃ h, ws[j]? = some h := ⟨_, List.getElem?_eq_getElem hlt⟩
    obtain ⟨R2, o2, rfl⟩ : ∃ R o, ap = some ⟨R, o, none⟩ := (S.sl 4 rfl).elim fun F h => h.head (by have := HLEN.out; omega)
    have hK := zipWith_at hBd hh
    have hh6 : h.length ≤ 60000 := by have := flat_each (List.mem_of_getElem? hh); have := HN.out; omega
    have HL2 : Hid ((ws.take (j + 1)).flatten.length = lo.length + h.length) := Lib.hid (by rw [take_snoc hh, List.flatten_append, List.length_append, HL.out]; simp)
    have hlh : lo.length + h.length ≤ 60000 := by have := HL2.out; have := flat_take_len (ws := ws) (j + 1); have := HN.out; omega
    have HBd := Lib.hid hBd
    have HK := Lib.hid hK
    clear hBd hK
    clear hh
    go_wp2_with first | ((with_reducible apply wps_load_el S 4 (hj := HBd.out) (q := 0) (u := (.pointer (some ⟨B, 0, none⟩)))); (case hx | hi => rfl); (case hn => omega); (case hu => rfl); (case hT => decide +kernel)) | (go_at_call 71; refine Calls.mono (hall_calls _ _ _ _ (star_get (S.get (i := 3) rfl) HK.out).choose_spec (by omega)) ?_; rintro e wz ⟨br, ad5, c5, rfl, T⟩; replace S := S.join T rfl; clear T; simp only [List.cons_append, List.nil_append] at S)
    replace S := (S.freeze true 1 hcells rfl).weak (i := 0) (A' := Blk true br #[.slice ad5 h.length c5] 179) rfl (fun e => by cases e) (fun F h => ⟨F, fun _ hb => hb, h⟩)
    simp only [List.set_cons_zero, List.set_cons_succ] at S
    have hh65 : h.length ≤ 65536 := by omega
    refine wps_range (all2_iter br ad5 c5 h hh65) S rfl (calls_enter Tryz.func105 (by kernel_rfl) rfl) (WtPhi X b3 #[v1, .pointer (some ⟨R, 0, none⟩), .slice (some ⟨R2, o2, none⟩) Bs.length cpp, .int .i64 s.many, .int .i64 s.peak] (some ⟨R2, o2, none⟩) cpp Bs ws Ds lo.length) (fun _ _ _ => False) ⟨lo, _, Lib.hid rfl, rfl⟩ (fun x args N h => by obtain ⟨rfl, _⟩ := h; rfl) ?round ?done ?stop
    case stop => intro _ _ _ _ _ _ h; exact h.elim
    case round =>
      clear S HL
      rintro lp D r k x args N L W hx ⟨rfl, rfl⟩ ⟨lo2, ov2, HO, rfl⟩ S
      simp only [zip_two, List.setIfInBounds_toArray, List.set_cons_succ, List.set_cons_zero, List.cons_append, List.nil_append] at S ⊢
      have hkl := (List.getElem?_eq_some_iff.1 hx).1
      obtain ⟨ao2, co2, rfl, _⟩ := (S.ownsl ecells 3 rfl).elim fun _ h => h.form
      have hlo2 : lo2.length < 4294967296 := by have := HO.out; omega
      have HO2 : Hid ((lo2 ++ [x.v]).length = lo.length + (k + 1)) := Lib.hid (by rw [List.length_append, HO.out]; rfl)
      clear hx
      gi_wp2_with first
        | (refine wpi_at (.inr ⟨_, rfl⟩) rfl fun K hK => ?_
           go_wp2_with first | ((with_reducible apply wps_alloca (E := 78) S); (case hz => exact Tryz.zeroValue78); clear S; intro b7 wz S) | ((with_reducible apply wps_storea (T := 78) S 0 (vs := [.int .i64 x.v.key.at_, .int .i64 x.v.key.src, .int .i64 x.v.key.sent, .int .i64 x.v.key.no, .int .i64 x.v.dst, .int .i64 x.v.kind, .int .i64 x.v.data]) (m := 7)); (case hx | hy | hi | hm | h1 => rfl); (case hn => exact Nat.le_of_ble_eq_true rfl); (case hT => decide +kernel); clear S; intro wz S; simp only [List.set_cons_zero, List.set_cons_succ, setAll, List.setIfInBounds_toArray] at S)
           refine hK _ _ ?_
           (try simp only [Act.put]); (try simp only [List.setIfInBounds_toArray]); (try simp only [List.set_cons_succ]); (try simp only [List.set_cons_zero])
           clear hK K)
      refine ⟨_, S.lastSplit rfl, fun r' W2 S => ?_⟩
      simp only [List.dropLast, List.cons_append, List.nil_append] at S
      refine wpIn_block (wpi_list_k (.inr ⟨_, rfl⟩) rfl fun K2 hK2 => ?_)
      go_wp2_with first | ((with_reducible apply wps_load S 5); (case hx | hi | hu => rfl); (case hT => decide +kernel)) | ((with_reducible apply wps_loada (T := 78) (k := 7) S 0); (case hx | hi => rfl); (case hk => exact Nat.le_of_ble_eq_true rfl); (case hT => decide +kernel)) | ((with_reducible apply wps_build1a (T := 45) (E := 78) S); (case hx => rfl); (case hr => intro w; kernel_rfl); clear S; intro bz wz S) | ((with_reducible apply wps_append1 elem_Ev ecells eone (by decide) S 5 (j := 0) (e := x.v)); (case hx | hy | hi | hj | he => rfl); (case hl => omega); clear S; intro az nz cz wz hnz S; simp only [List.set_cons_succ, List.set_cons_zero] at S) | ((with_reducible apply wps_store (u := (.slice az nz cz)) S 6); (case hx | hy | hi | h1 => rfl); (case hn => exact Nat.le_of_ble_eq_true rfl); (case hT => decide +kernel); clear S; intro wz S; simp only [List.set_cons_succ, List.set_cons_zero, List.setIfInBounds_toArray] at S)
      refine hK2 _ _ ?_
      clear hK2 K2
      exact ⟨_, ⟨lo2 ++ [x.v], _, HO2, rfl⟩, S.pick [2, 3, 4, 5, 6, 7, 8, 9, 10] rfl⟩
    case done =>
      clear S
      rintro D W L ⟨lo2, ov2, HO, rfl⟩ S
      simp only [List.cons_append, List.nil_append] at S
      have HL3 : Hid (lo2.length = (ws.take (j + 1)).flatten.length) := Lib.hid (by rw [HO.out, HL2.out])
      go_wp2_with fail
      refine ⟨⟨D :: Ds, j + 1, lo2, ov2, _, _, _, _, _, _, _, _, _, _, _, _, _, _, by omega, HL3, rfl, ?_⟩, by simp [intOf]; omega⟩
      have S2 := S.pick [0, 3, 4, 5, 6, 7, 8] rfl
      simp only [pick, nth] at S2
      exact S2.close_sep rfl (stars_sh _)
  · obtain rfl : j = ws.length := by omega
    have hge : ¬ ((ws.length : Int) < Bs.length) := by have := HLEN.out; omega
    have hll : lo.length = ws.flatten.length := by have := HL.out; rw [List.take_length] at this; exact this
    have HLL := Lib.hid hll
    clear hll HL
    go_wp2_with first | (go_at_call 57; refine Calls.mono (sort_calls _ lo _ _ (own_sl (sh := true) ecells (S.get (i := 1) rfl).choose_spec) (by omega)) ?_; rintro e wz ⟨as2, cs2, rfl, T⟩; replace S := S.join T rfl; clear T; simp only [List.cons_append, List.nil_append] at S) | ((with_reducible apply wps_load S 2); (case hx | hi | hu => rfl); (case hT => decide +kernel))
    replace S := S.pick [1, 2] rfl
    simp only [pick, nth] at S
    refine leaves_retN Ds _ S fun w' S => ⟨_, results1 rfl (res_tmp rfl), as2, cs2, by rw [← HLL.out]; rfl, S.below⟩
end Go.Proofs.YtemgonomenjjaaaGreatDoor
/- The walk of the law's Small. -/
namespace Go.Proofs.YtemgonomenjjaaaGreatDoor
open Go Go.RowKit Reg Mem

def SmallPost (o : Option (List BatE × SimE)) (w : World) (e : Ending) (w' : World) : Prop :=
  (o = none ∧ e = .returned (.tuple #[.slice none 0 0, .slice none 0 0, .bool false]) ∧ Below w.heap.size w w') ∨
  ∃ (bs : List BatE) (s' : SimE) (a : Option Addr) (cp : Nat) (l : List BatV) (a2 : Option Addr) (c2 : Nat), o = some (bs, s') ∧ e = .returned (.tuple #[.slice a bs.length cp, .slice a2 s'.ss.length c2, .bool true]) ∧ l.map (·.b) = bs ∧
    St (fun _ => False) w w' [Mem.Own 52 State.cells 4 (.slice a2 s'.ss.length c2) s'.ss, Mem.Own 54 BatV.cells 8 (.slice a bs.length cp) l, Sls false Event.cells 7 (l.map (·.vi)) (l.map (·.b.ins)), Sls false Event.cells 7 (l.map (·.vo)) (l.map (·.b.sent))]
def SmallRel (X R : Nat) (vs hs : List Value) (c : Cfg) (o : Option (List BatE × SimE)) (w : World) (v i : Value) (wr : World) : Prop :=
  ∃ (k : Nat) (s1 : SimE) (l : List BatV), k ≤ 60 ∧ i = .int .i64 k ∧ Hid (l.length = k) ∧ Hid (o = (smallE c (60 - k) s1).map fun r => (l.map (·.b) ++ r.1, r.2)) ∧ Hid (SimOk c s1) ∧ Hid (SmK k s1) ∧
    St (fun _ => False) w wr [simA X R s1, Mem.Own 54 BatV.cells 8 v l, Sls false Event.cells 7 (l.map (·.vi)) (l.map (·.b.ins)), Sls false Event.cells 7 (l.map (·.vo)) (l.map (·.b.sent)), ModA true 84 R vs hs c, Tab]
set_option maxRecDepth 100000 in
set_option maxHeartbeats 8000000 in
theorem small_calls (R : Nat) (vs hs : List Value) (c : Cfg) (w : World) (F F3 : Nat → Prop) (h : (ModA true 84 R vs hs c).at_ w F) (ht : Tab.at_ w F3) (hc : cfgE c = 0) (hst : c.starts.length ≤ 256) :
    Calls Tryz.prog 20 #[.pointer (some ⟨R, 0, none⟩)] w (SmallPost (smallE c 60 (newE c)) w) := by
  have S : St (fun _ => False) w w [ModA true 84 R vs hs c, Tab] := ((St.init _ w).share rfl rfl ht).share rfl rfl h
  clear h ht
  have HF := Lib.hid (cfg_isfine hc)
  have HC := Lib.hid hc
  have HK0 := Lib.hid (SmK.new hst)
  obtain ⟨o, HO⟩ : ∃ o, Hid (smallE c 60 (newE c) = o) := ⟨_, rfl⟩
  rw [HO.out]
  have HO0 : Hid (o = (smallE c (60 - 0) (newE c)).map fun r => (([] : List BatV).map (·.b) ++ r.1, r.2)) := Lib.hid (by
    rw [← HO.out]; simp)
  clear hc hst
  go_enter Tryz.func20, Tryz.ntmps20
  go_upto_region 6 with first | (go_at_call 39; refine Calls.mono (snew_calls R vs hs c _ _ (S.get (i := 0) rfl).choose_spec HF.out) ?_; rintro e wz ⟨X, rfl, T⟩; replace S := S.join T rfl; clear T; simp only [List.cons_append, List.nil_append] at S)
  replace S := ((S.slsNil Event.cells 7).slsNil Event.cells 7).nil 54 BatV.cells 8
  replace S := S.pick [3, 0, 1, 2, 4, 5] rfl
  simp only [pick, nth] at S
  go_loopw [7, 8] (fun v i wr => SmallRel X R vs hs c o w v i wr) (fun _ i _ => 60 - (intOf i).toNat)
  case atStart => exact ⟨0, newE c, [], by omega, rfl, Lib.hid rfl, HO0, Lib.hid (new_ok HF.out), HK0, S⟩
  case round =>
    clear S HO0 HK0 HO
    obtain ⟨k, s1, l, hk, rfl, HL, HO, HOK, HK, S⟩ := hrel
    obtain ⟨al, cl, rfl, _⟩ := (S.ownsl bvcells 1 rfl).elim fun _ h => h.form
    by_cases hk60 : k < 60
    · obtain ⟨m, hm⟩ : ∃ m, 60 - k = m + 1 := ⟨59 - k, by omega⟩
      have hk2 : (k : Int) < 60 := by omega
      have hB := HK.out.sim hk
      have hss : s1.ss.length ≤ 65536 := by have := HF.out.sizes; unfold sizesOk at this; have := HOK.out.lens; omega
      have hwl : s1.ws.length ≤ 32 := by have := HF.out.sizes; unfold sizesOk at this; have := HOK.out.len; omega
      cases hx : nextE s1.ws with
      | none =>
        have hq : simStep c s1 = none := by unfold simStep; rw [hx]
        have he : o = some (l.map (·.b), s1) := by rw [HO.out, hm]; unfold smallE; rw [hq]; simp
        have HE := Lib.hid he
        have HST := Lib.hid fun (w : World) (F : Nat → Prop) (h : (simA X R s1).at_ w F) => (step_none X R c s1 w F h HOK.out HF.out hx).mono fun e w' hp => (show e = .returned (.tuple #[.agg #[.int .i64 0, .int .i64 0, .slice none 0 0, .int .i64 0, .int .i64 0, .int .i64 0, .int .i64 0, .slice none 0 0], .bool false]) ∧ St F w w' [simA X R s1] from by
          rcases hp with ⟨_, he, S⟩ | ⟨b, s', _, _, h1, _⟩
          · exact ⟨he, S⟩
          · rw [hq] at h1; cases h1)
        clear he hq hx hm hB
        go_wp2_with first | (go_at_call 40; obtain ⟨Fz, hF, hBk⟩ := S.lend1 0 rfl rfl; refine Calls.mono (HST.out _ _ hF) ?_; rintro e wz ⟨rfl, T⟩; replace S := hBk _ _ rfl T; clear hBk hF T; simp only [List.set_cons_zero] at S) | ((with_reducible apply wps_alloca (E := 54) S); (case hz => exact Tryz.zeroValue54); clear S; intro b9 wz S) | ((with_reducible apply wps_storea (T := 54) S 0 (vs := [.int .i64 0, .int .i64 0, .slice none 0 0, .int .i64 0, .int .i64 0, .int .i64 0, .int .i64 0, .slice none 0 0]) (m := 8)); (case hx | hy | hi | hm | h1 => rfl); (case hn => exact Nat.le_of_ble_eq_true rfl); (case hT => decide +kernel); clear S; intro wz S; simp only [List.set_cons_zero, List.set_cons_succ, setAll, List.setIfInBounds_toArray] at S) | (go_at_call 41; refine Calls.mono (states_calls X R s1 _ _ (S.get (i := 1) rfl).choose_spec hss) ?_; rintro e wz ⟨a2, c2, rfl, T⟩; replace S := S.join T rfl; clear T; simp only [List.cons_append, List.nil_append] at S)
        (try simp only [Exit.inBlock, Exit.then]); refine bodyPost_ret (results3 rfl (res_tmp rfl) (res_tmp rfl) (res_tmp rfl)) rfl ?_
        exact .inr ⟨l.map (·.b), s1, al, cl, l, a2, c2, HE.out, by rw [List.length_map]; rfl, rfl, by rw [List.length_map]; exact S.pick [0, 3, 4, 5] rfl⟩
      | some p =>
        obtain ⟨a, lp⟩ := p
        obtain ⟨⟨b, s2⟩, hq⟩ := step_next (c := c) hx
        obtain ⟨hwt, hsk, _, _⟩ := HK.out.step HC.out hq
        have hwl2 : s2.ws.length ≤ 32 := by have := HF.out.sizes; unfold sizesOk at this; have := (step_ok HOK.out hq).len; omega
        have HOK2 := Lib.hid (step_ok HOK.out hq)
        have ho2 : o = if 30 < (waitsE s2).length then none else (smallE c m s2).map fun r => (l.map (·.b) ++ b :: r.1, r.2) := by
          rw [HO.out, hm]
          conv => lhs; unfold smallE; rw [hq]
          simp only
          split
          · rfl
          · cases smallE c m s2 <;> rfl
        have HST : Hid (∀ (w : World) (F : Nat → Prop), St F w w [simA X R s1, ModA true 84 R vs hs c, Tab] → Calls Tryz.prog 40 #[.pointer (some ⟨X, 0, none⟩)] w fun e w' =>
            ∃ ai ci ao co, e = .returned (.tuple #[.agg #[.int .i64 b.at_, .int .i64 b.lp, .slice ai b.ins.length ci, .int .i64 b.thn.n0, .int .i64 b.thn.n1, .int .i64 b.thn.n2, .int .i64 b.thn.n3, .slice ao b.sent.length co], .bool true]) ∧ St F w w' [simA X R s2, Mem.Own 78 Event.cells 7 (.slice ai b.ins.length ci) b.ins, Mem.Own 78 Event.cells 7 (.slice ao b.sent.length co) b.sent]) := Lib.hid fun w F S => by
          refine (step_some X R vs hs c s1 65536 a lp w F S HC.out HOK.out hB (Nat.le_refl _) hx).mono fun e w' hp => ?_
          rcases hp with ⟨h, _⟩ | ⟨b', s'', vi, vo, h1, h2, S⟩
          · rw [hq] at h; cases h
          · rw [hq] at h1
            simp only [Option.some.injEq, Prod.mk.injEq] at h1
            obtain ⟨rfl, rfl⟩ := h1
            obtain ⟨ai, ci, rfl, _⟩ := (S.ownsl ecells 1 rfl).elim fun _ h => h.form
            obtain ⟨ao, co, rfl, _⟩ := (S.ownsl ecells 2 rfl).elim fun _ h => h.form
            exact ⟨ai, ci, ao, co, h2, S⟩
        have HWt := Lib.hid fun (w : World) (F : Nat → Prop) (h : (simA X R s2).at_ w F) => waits_calls X R s2 w F h (by omega) hwl2
        have hll : l.length < 4294967296 := by have := HL.out; omega
        have hll2 : l.length ≤ 60 := by have := HL.out; omega
        by_cases h30 : 30 < (waitsE s2).length
        · have f30 : decide ((30 : Int) < ((waitsE s2).length : Int)) = true := decide_eq_true (by omega)
          have HE : Hid (o = none) := Lib.hid (by rw [ho2, if_pos h30])
          clear hq hx ho2 h30 hwt hsk hm hB
          go_wp2_with first | (go_at_call 40; obtain ⟨Fz, hF, hBk⟩ := S.lend [0] [4, 5] [1, 2, 3, 4, 5] rfl rfl rfl; simp only [List.cons_append, List.nil_append, pick, nth] at hF hBk; refine Calls.mono (HST.out _ _ hF) ?_; rintro e wz ⟨ai, ci, ao, co, rfl, T⟩; replace S := hBk _ _ T rfl; clear hBk hF T; simp only [List.cons_append, List.nil_append] at S) | ((with_reducible apply wps_alloca (E := 54) S); (case hz => exact Tryz.zeroValue54); clear S; intro b9 wz S) | ((with_reducible apply wps_storea (T := 54) S 0 (vs := [.int .i64 b.at_, .int .i64 b.lp, .slice ai b.ins.length ci, .int .i64 b.thn.n0, .int .i64 b.thn.n1, .int .i64 b.thn.n2, .int .i64 b.thn.n3, .slice ao b.sent.length co]) (m := 8)); (case hx | hy | hi | hm | h1 => rfl); (case hn => exact Nat.le_of_ble_eq_true rfl); (case hT => decide +kernel); clear S; intro wz S; simp only [List.set_cons_zero, List.set_cons_succ, setAll, List.setIfInBounds_toArray] at S) | (go_at_call 42; refine Calls.mono (HWt.out _ _ (S.get (i := 1) rfl).choose_spec) ?_; rintro e wz ⟨aw, cw, rfl, hE⟩; replace S := S.ext (Keep.of_below hE); clear hE)
          (try simp only [Exit.inBlock, Exit.then]); refine bodyPost_ret (results3 rfl (res_tmp rfl) (res_tmp rfl) (res_tmp rfl)) rfl ?_
          exact .inl ⟨HE.out, rfl, S.below⟩
        · have f30 : decide ((30 : Int) < ((waitsE s2).length : Int)) = false := decide_eq_false (by omega)
          have HO2 : Hid (o = (smallE c (60 - (k + 1)) s2).map fun r => ((l.map (·.b) ++ [b]) ++ r.1, r.2)) := Lib.hid (by
            rw [ho2, if_neg h30, show 60 - (k + 1) = m by omega]; simp)
          have HK2 := Lib.hid (hsk (by omega))
          clear hq hx ho2 h30 hwt hsk hm hB
          go_wp2_with first | (go_at_call 40; obtain ⟨Fz, hF, hBk⟩ := S.lend [0] [4, 5] [1, 2, 3, 4, 5] rfl rfl rfl; simp only [List.cons_append, List.nil_append, pick, nth] at hF hBk; refine Calls.mono (HST.out _ _ hF) ?_; rintro e wz ⟨ai, ci, ao, co, rfl, T⟩; replace S := hBk _ _ T rfl; clear hBk hF T; simp only [List.cons_append, List.nil_append] at S) | ((with_reducible apply wps_alloca (E := 54) S); (case hz => exact Tryz.zeroValue54); clear S; intro b9 wz S) | ((with_reducible apply wps_storea (T := 54) S 0 (vs := [.int .i64 b.at_, .int .i64 b.lp, .slice ai b.ins.length ci, .int .i64 b.thn.n0, .int .i64 b.thn.n1, .int .i64 b.thn.n2, .int .i64 b.thn.n3, .slice ao b.sent.length co]) (m := 8)); (case hx | hy | hi | hm | h1 => rfl); (case hn => exact Nat.le_of_ble_eq_true rfl); (case hT => decide +kernel); clear S; intro wz S; simp only [List.set_cons_zero, List.set_cons_succ, setAll, List.setIfInBounds_toArray] at S) | (go_at_call 42; refine Calls.mono (HWt.out _ _ (S.get (i := 1) rfl).choose_spec) ?_; rintro e wz ⟨aw, cw, rfl, hE⟩; replace S := S.ext (Keep.of_below hE); clear hE) | ((with_reducible apply wps_loada (T := 54) (k := 8) S 0); (case hx | hi => rfl); (case hk => exact Nat.le_of_ble_eq_true rfl); (case hT => decide +kernel)) | ((with_reducible apply wps_build1a (T := 44) (E := 54) S); (case hx => rfl); (case hr => intro w; kernel_rfl); clear S; intro bz wz S) | ((with_reducible apply wps_append1 elem_Bat bvcells bvone (by decide) S 5 (j := 0) (e := ⟨b,ai,ci,ao,co⟩)); (case hx | hy | hi | hj | he => rfl); (case hl => first | omega | (simp; omega)); clear S; intro az nz cz wz hnz S; simp only [List.set_cons_succ, List.set_cons_zero] at S)
          go_roundw
          case rel =>
            have S2 := S.pick [3, 6, 4, 7, 2, 5, 8, 9] rfl
            simp only [pick, nth] at S2
            have S3 := S2.freeze false 0 ecells rfl
            simp only [List.set_cons_zero] at S3
            have S4 := S3.slsSnoc.pick [1, 2, 0, 3, 4, 5, 6] rfl
            simp only [pick, nth] at S4
            have S5 := S4.freeze false 0 ecells rfl
            simp only [List.set_cons_zero] at S5
            have S6 := S5.slsSnoc
            refine ⟨k + 1, s2, l ++ [⟨b, ai, ci, ao, co⟩], by omega, by go_num, Lib.hid (by have := HL.out; rw [List.length_append]; simp only [List.length_cons, List.length_nil]; omega), Lib.hid (by rw [List.map_append]; exact HO2.out), HOK2, HK2, ?_⟩
            simp only [List.map_append, List.map_cons, List.map_nil]
            exact S6.pick [2, 3, 1, 0, 4, 5] rfl
          case measure => simp [intOf]; omega
    · obtain rfl : k = 60 := by omega
      have HE : Hid (o = none) := Lib.hid (by rw [HO.out]; rfl)
      go_wp2_with first | ((with_reducible apply wps_loada (T := 54) (k := 8) S 0); (case hx | hi => rfl); (case hk => exact Nat.le_of_ble_eq_true rfl); (case hT => decide +kernel))
      (try simp only [Exit.inBlock, Exit.then]); refine bodyPost_ret (results3 rfl (res_tmp rfl) (res_tmp rfl) (res_tmp rfl)) rfl ?_
      exact .inl ⟨HE.out, rfl, S.below⟩
end Go.Proofs.YtemgonomenjjaaaGreatDoor
