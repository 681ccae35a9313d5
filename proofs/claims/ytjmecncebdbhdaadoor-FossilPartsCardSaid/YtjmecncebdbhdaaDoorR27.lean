import Derived.Test.YtjmecncebdbhdaaDoorR15
import Derived.Test.YtjmecncebdbhdaaDoorR06
import Derived.Test.YtjmecncebdbhdaaDoorR26
import Derived.Test.YtjmecncebdbhdaaDoorR04
import Derived.Test.YtjmecncebdbhdaaDoorR05
import Derived.Deep.Cut
/- The walks of boomeranglaw05.Plain and the law's same. -/
namespace Go.Proofs.YtjmecncebdbhdaaDoor
open Go Go.RowKit Reg Mem

set_option maxRecDepth 100000 in
theorem elem_RIn : Elem Tryd.prog 102 138 5 40 := ⟨_, .agg #[.int .i64 0, .int .i64 0, .int .i64 0, .int .i64 0, .int .i64 0], Tryd.underlying102, rfl, by kernel_rfl, by kernel_rfl, by kernel_rfl, by kernel_rfl, by omega⟩
def PlRel (v out : Value) (p : List Instr) (w : World) (i : Value) (wr : World) : Prop :=
  ∃ j : Nat, j ≤ p.length ∧ i = .int .i64 j ∧ St (fun _ => False) w wr [Own 138 Instr.cells 5 out (p.take j), Sl true Instr.cells 5 v p]
/-- What Plain leaves. -/
def PlainPost (p : List Instr) (w : World) (e : Ending) (w' : World) : Prop :=
  ∃ ad c, e = .returned (.slice ad p.length c) ∧ St (fun _ => False) w w' [Own 138 Instr.cells 5 (.slice ad p.length c) p]
set_option maxRecDepth 100000 in
set_option maxHeartbeats 4000000 in
theorem lplain_calls (v : Value) (p : List Instr) (w : World) (F : Nat → Prop) (h : (Sl true Instr.cells 5 v p).at_ w F) (hn : p.length * 40 ≤ 140737488351232) : Calls Tryd.prog 43 #[v] w (PlainPost p w) := by
  have S : St (fun _ => False) w w [Sl true Instr.cells 5 v p] := (St.init _ w).share rfl rfl h
  obtain ⟨ad, cp, rfl, _⟩ := (S.sl 0 rfl).elim fun _ h => h.form
  clear h
  replace S := S.nil 138 Instr.cells 5
  go_enter Tryd.func43, Tryd.ntmps43
  go_wp2_with first | ((with_reducible refine tot_done ?ht ?_); (case ht => kernel_rfl)) | ((with_reducible apply wps_text S); (case hm => kernel_rfl); (case hB => decide +kernel); clear S; intro wz S) | ((with_reducible apply wps_load S 0); (case hx | hi | hu => rfl); (case hT => decide +kernel))
  go_loopw [3, 4] (fun out i wr => PlRel (.slice ad p.length cp) out p w i wr) (fun _ i _ => p.length - (intOf i).toNat)
  case atStart => exact ⟨0, Nat.zero_le _, rfl, S⟩
  case round =>
    clear S
    obtain ⟨j, hj, rfl, S⟩ := hrel
    obtain ⟨F0, hF0⟩ := S.get (i := 0) rfl
    obtain ⟨ad0, c0, rfl⟩ := hF0.1.form
    clear hF0
    by_cases hlt : j < p.length
    · obtain ⟨x, hx⟩ : ∃ x, p[j]? = some x := ⟨_, List.getElem?_eq_getElem hlt⟩
      obtain ⟨R, o, rfl⟩ : ∃ R o, ad = some ⟨R, o, none⟩ := (S.sl 1 rfl).elim fun F h => h.head (by omega)
      have hlt2 : (j : Int) < p.length := by omega
      have HT : Hid (p.take (j + 1) = p.take j ++ [x]) := by show _ = _; rw [List.take_add_one, hx]; rfl
      have htl : ((p.take j).length + 1) * 40 ≤ 140737488355328 := by rw [List.length_take, Nat.min_eq_left hj]; omega
      have hlj : (p.take j).length = j := by simp; omega
      rw [hlj] at S
      rw [hlj]
      have Hx := Lib.hid hx
      have Hlj := Lib.hid hlj
      clear hx hlj
      go_wp2_with first | ((with_reducible refine tot_done ?ht ?_); (case ht => kernel_rfl)) | ((with_reducible apply wps_load S 0); (case hx | hi | hu => rfl); (case hT => decide +kernel))
      replace S := S.pick [1, 0] rfl
      simp only [pick, nth] at S
      (refine wp_region_wt (soft := [0, 1, 2, 3, 4, 5, 6, 7, 8, 9, 10, 11, 12, 13, 14, 15, 16, 17, 18, 19, 20, 21, 22, 23, 24, 25, 26]) (L := [_]) (T := [_]) S ?hm ?hB ?_); (case hm => kernel_rfl); (case hB => decide +kernel); clear S
      iterate 27
        (with_reducible apply softs_cons)
        (case hw =>
          (with_reducible apply soft_of); (case hi => rfl)
          intro T wz S
          simp only [List.cons_append, List.nil_append] at S
          go_wp2_with first | ((with_reducible apply wps_load_el S 0 (hj := Hx.out) (q := 0) (u := .int .i64 x.op)); (case hx | hi => rfl); (case hn => omega); (case hu => rfl); (case hT => decide +kernel)) | ((with_reducible apply wps_load_el S 0 (hj := Hx.out) (q := 1) (u := .int .i64 x.a)); (case hx | hi => rfl); (case hn => omega); (case hu => rfl); (case hT => decide +kernel)) | ((with_reducible apply wps_load_el S 0 (hj := Hx.out) (q := 2) (u := .int .i64 x.b)); (case hx | hi => rfl); (case hn => omega); (case hu => rfl); (case hT => decide +kernel)) | ((with_reducible apply wps_load_el S 0 (hj := Hx.out) (q := 3) (u := .int .i64 x.c)); (case hx | hi => rfl); (case hn => omega); (case hu => rfl); (case hT => decide +kernel)) | ((with_reducible apply wps_load_el S 0 (hj := Hx.out) (q := 4) (u := .int .i64 x.d)); (case hx | hi => rfl); (case hn => omega); (case hu => rfl); (case hT => decide +kernel)) | ((with_reducible refine tot_done ?ht ?_); (case ht => kernel_rfl)) | ((with_reducible apply wps_load S 0); (case hx | hi | hu => rfl); (case hT => decide +kernel))
          exact ⟨rfl, S⟩)
        (case hs => exact ⟨_, rfl, by kernel_rfl⟩)
      refine softs_nil ?_
      (with_reducible apply W_hard1 (i := 27)); (case hn => rfl); (case hr => decide +kernel)
      intro wz S
      (with_reducible apply hard_of); (case hi => rfl)
      simp only [List.cons_append, List.nil_append] at S
      go_wp2_with first | ((with_reducible refine tot_done ?ht ?_); (case ht => kernel_rfl)) | ((with_reducible apply wps_build1a (T := 102) (E := 138) S); (case hx => rfl); (case hr => intro w; kernel_rfl); clear S; intro bz wz S)
      refine ⟨_, S.pick [1, 2, 0] rfl, ?_⟩
      (with_reducible apply W_hard1 (i := 28)); (case hn => rfl); (case hr => decide +kernel)
      clear S
      intro wz S
      (with_reducible apply hard_of); (case hi => rfl)
      simp only [List.cons_append, List.nil_append] at S
      try simp only [pick, nth] at S
      (with_reducible apply wps_append1B elem_RIn incells inone (by decide) S 1 (j := 2) (e := x))
      (case hi => rfl)
      (case hj => rfl)
      (case he => rfl)
      (case hl => first | omega | (simp; omega))
      (case hx => rfl)
      (case hy => rfl)
      clear S
      intro az nz cz wz hnz S
      simp only [List.set_cons_succ, List.set_cons_zero] at S
      go_wp2_with first | ((with_reducible refine tot_done ?ht ?_); (case ht => kernel_rfl))
      refine ⟨_, S, ?_⟩
      (with_reducible apply W_hard1 (i := 29)); (case hn => rfl); (case hr => decide +kernel)
      clear S
      intro wz S
      (with_reducible apply hard_of); (case hi => rfl)
      go_wp2_with first | ((with_reducible refine tot_done ?ht ?_); (case ht => kernel_rfl))
      refine ⟨_, S, ?_⟩
      (with_reducible apply W_done); (case hn => rfl); (case hr => decide +kernel)
      clear S
      intro wz S
      simp only [List.cons_append, List.nil_append] at S
      try simp only [pick, nth] at S
      go_wp2_with first | ((with_reducible refine tot_done ?ht ?_); (case ht => kernel_rfl)) | ((with_reducible apply wps_text S); (case hm => kernel_rfl); (case hB => decide +kernel); clear S; intro wz S) | ((with_reducible apply wps_load S 0); (case hx | hi | hu => rfl); (case hT => decide +kernel))
      go_roundw
      case rel => exact ⟨j + 1, by omega, by go_num, by rw [HT.out]; exact S.pick [1, 0] rfl⟩
      case measure => first | (simp [intOf]; done) | (simp [intOf]; omega)
    · obtain rfl : j = p.length := by omega
      rw [List.take_length] at S
      rw [List.take_length]
      go_wp2_with first | ((with_reducible refine tot_done ?ht ?_); (case ht => kernel_rfl)) | ((with_reducible apply wps_text S); (case hm => kernel_rfl); (case hB => decide +kernel); clear S; intro wz S) | ((with_reducible apply wps_load S 0); (case hx | hi | hu => rfl); (case hT => decide +kernel))
      go_ret
      exact ⟨_, _, rfl, S.pick [0] rfl⟩
end Go.Proofs.YtjmecncebdbhdaaDoor
/- Slices that are owned and written, of which only their room is known; and several owned slices at once. Over any program. -/
namespace Go.Proofs.YtjmecncebdbhdaaDoor.Mem
open Go Go.RowKit Reg

/-- Each of these has its room in blocks of its own. -/
def RoomAt (k : Nat) (w : World) (F : Nat → Prop) (vs : List Value) : Prop :=
  ∀ (i : Nat) v, vs[i]? = some v → ∃ ad n c, v = .slice ad n c ∧ (0 < n → ∃ R cs t, ad = some ⟨R, 0, none⟩ ∧ F R ∧ w.heap[R]? = some (.cells cs t (0, 0)) ∧ n * k ≤ cs.size)
def Room (k : Nat) (vs : List Value) : Asn where
  sh := false
  at_ w F := RoomAt k w F vs ∧ ∀ b, F b → b < w.heap.size
  loc h hb := ⟨fun i v hi => by
    obtain ⟨ad, n, c, e, h2⟩ := h.1 i v hi
    refine ⟨ad, n, c, e, fun h0 => ?_⟩
    obtain ⟨R, cs, t, e1, h3, h4, h5⟩ := h2 h0
    exact ⟨R, cs, t, e1, h3, (hb R h3).trans h4, h5⟩, lt_loc h.2 hb⟩
  lt h := h.2
/-- Several slices that are owned. -/
def Ows {α : Type} (E : TypeId) (enc : α → List Value) (k : Nat) (vs : List Value) (xss : List (List α)) : Asn where
  sh := false
  at_ w F := (vs.length = xss.length ∧ ∀ (i : Nat) v xs, vs[i]? = some v → xss[i]? = some xs → ∃ Fi, (Own E enc k v xs).at_ w Fi ∧ ∀ b, Fi b → F b) ∧ ∀ b, F b → b < w.heap.size
  loc h hb := ⟨⟨h.1.1, fun i v xs hv hx => by
    obtain ⟨Fi, h1, h2⟩ := h.1.2 i v xs hv hx
    exact ⟨Fi, (Own _ _ _ v xs).loc h1 (fun b hb' => hb b (h2 b hb')), h2⟩⟩, lt_loc h.2 hb⟩
  lt h := h.2
section
variable {α : Type} {E : TypeId} {enc : α → List Value} {k : Nat} {G : Nat → Prop} {w0 w : World} {L : List Asn}
theorem St.owsNil (S : St G w0 w L) (E : TypeId) (enc : α → List Value) (k : Nat) : St G w0 w (Ows E enc k [] ([] : List (List α)) :: L) :=
  S.grow (F := fun _ => False) (Keep.refl _ _) ⟨⟨rfl, fun i v xs h => by simp at h⟩, fun _ h => h.elim⟩ (fun _ h => h.elim)
theorem St.owsSnoc {vs : List Value} {xss : List (List α)} {v : Value} {xs : List α} (S : St G w0 w (Own E enc k v xs :: Ows E enc k vs xss :: L)) : St G w0 w (Ows E enc k (vs ++ [v]) (xss ++ [xs]) :: L) :=
  S.merge _ rfl rfl rfl fun F F' h h' => by
    refine ⟨⟨by simp [h'.1.1], fun j u ys hu hy => ?_⟩, fun b hb => hb.elim ((Own E enc k v xs).lt h b) (h'.2 b)⟩
    by_cases hj : j < vs.length
    · rw [List.getElem?_append_left hj] at hu
      rw [List.getElem?_append_left (by rw [← h'.1.1]; exact hj)] at hy
      obtain ⟨Fi, h1, h2⟩ := h'.1.2 j u ys hu hy
      exact ⟨Fi, h1, fun b hb => .inr (h2 b hb)⟩
    · have hjl := (List.getElem?_eq_some_iff.1 hu).1
      simp at hjl
      obtain rfl : j = vs.length := by omega
      rw [List.getElem?_append_right (Nat.le_refl _)] at hu
      rw [List.getElem?_append_right (by rw [h'.1.1]; exact Nat.le_refl _)] at hy
      simp [h'.1.1] at hu hy
      subst hu; subst hy
      exact ⟨F, h, fun b hb => .inl hb⟩
theorem ows_sls (hk : ∀ x, (enc x).length = k) {vs : List Value} {xss : List (List α)} {F : Nat → Prop} (h : (Ows E enc k vs xss).at_ w F) : (Sls true enc k vs xss).at_ w F :=
  ⟨⟨h.1.1, fun i v xs hv hx => let ⟨_, h1, h2⟩ := h.1.2 i v xs hv hx; (own_sl (sh := true) hk h1).1.mono h2⟩, h.2⟩
variable {P : Program} {ops : Array Oper} {rest : List Oper} {a : Act} {Q : Exit → Act → World → Prop} {d : Option Tmp} {tt : TypeId} {p : String} {af : Array Edge} {gd : Option (Nat × Bool)} {x y : Operand}
end
end Go.Proofs.YtjmecncebdbhdaaDoor.Mem
/- Heads of slices as data; what 'few' gives. -/
namespace Go.Proofs.YtjmecncebdbhdaaDoor
open Go Go.RowKit Reg Mem

theorem few_midK {c : Cfg} (h : fewB c = true) : Mid c := by
  have := few_iff.1 h; exact ⟨by omega, by omega, by omega⟩
theorem few_midK2 {c : Cfg} (h : fewB c = true) : ∀ p ∈ c.programs, p.length ≤ 65536 := fun p hp => by
  have := (few_iff.1 h).1 p hp; omega
/-- A slice's head. -/
structure Hd where
  ad : Option Addr
  n : Nat
  c : Nat
def Hd.val (h : Hd) : Value := .slice h.ad h.n h.c
def hcell (h : Hd) : List Value := [.slice h.ad h.n h.c]
theorem hcells : ∀ h : Hd, (hcell h).length = 1 := fun _ => rfl
theorem hone : ∀ h : Hd, ∀ u ∈ hcell h, u.oneCell' = true := fun _ => by simp [hcell, Value.oneCell']
theorem slat_map {α β : Type} {enc : α → List Value} {enc' : β → List Value} {k : Nat} {w : World} {F : Nat → Prop} {v : Value} {xs : List α} (f : α → β) (hf : ∀ x, enc' (f x) = enc x) (h : SlAt enc k w F v xs) : SlAt enc' k w F v (xs.map f) := by
  obtain ⟨a, c, e, h1, h2, h3⟩ := h
  refine ⟨a, c, by simpa using e, by simpa using h1, h2, fun i y hi => ?_⟩
  rw [List.getElem?_map] at hi
  cases hx : xs[i]? with
  | none => rw [hx] at hi; cases hi
  | some x =>
    rw [hx] at hi; simp at hi; subst hi
    obtain ⟨R, o, e1, hR, hc⟩ := h3 i x hx
    exact ⟨R, o, e1, hR, fun j u hj => hc j u (by rw [← hf]; exact hj)⟩
end Go.Proofs.YtjmecncebdbhdaaDoor
/- The walks of the reference's Word, Kinds, Number. -/
namespace Go.Proofs.YtjmecncebdbhdaaDoor
open Go Go.RowKit Reg Mem

def strE (s : ByteArray) : List Value := [.string s]
theorem strE_len : ∀ s, (strE s).length = 1 := fun _ => rfl
def wordsL : List ByteArray := [bytes [115, 101, 116], bytes [109, 111, 118, 101], bytes [97, 100, 100], bytes [115, 117, 98], bytes [109, 117, 108], bytes [109, 111, 100], bytes [108, 101, 115, 115], bytes [106, 117, 109, 112], bytes [122, 101, 114, 111], bytes [110, 111, 119], bytes [107, 105, 110, 100], bytes [100, 97, 116, 97], bytes [115, 101, 108, 102], bytes [115, 101, 110, 100], bytes [115, 116, 111, 112]]
def kindsL : List ByteArray := [bytes [99, 110], bytes [99, 99], bytes [99, 99, 99], bytes [99, 99, 99], bytes [99, 99, 99], bytes [99, 99, 99], bytes [99, 99, 99], bytes [112], bytes [99, 112], bytes [99], bytes [99], bytes [99], bytes [99], bytes [99, 99, 99, 107], bytes []]
set_option maxRecDepth 100000 in
theorem rword_calls (n : Nat) (s : ByteArray) (hs : wordsL[n]? = some s) (w : World) : Calls Tryd.prog 90 #[.int .i64 ((n : Int) + 1)] w fun r w' => r = .returned (.string s) ∧ Below w.heap.size w w' := by
  have S := St.init (fun _ => False) w
  have hn : n < 15 := (List.getElem?_eq_some_iff.1 hs).1
  have hn1 : (n : Int) < 15 := by omega
  have Hs := Lib.hid hs
  clear hs
  go_enter Tryd.func90, Tryd.ntmps90
  go_upto_region 4 with first | ((with_reducible apply wps_buildSlice (T := 178) (E := 9) (cs := #[.string (bytes [115, 101, 116]), .string (bytes [109, 111, 118, 101]), .string (bytes [97, 100, 100]), .string (bytes [115, 117, 98]), .string (bytes [109, 117, 108]), .string (bytes [109, 111, 100]), .string (bytes [108, 101, 115, 115]), .string (bytes [106, 117, 109, 112]), .string (bytes [122, 101, 114, 111]), .string (bytes [110, 111, 119]), .string (bytes [107, 105, 110, 100]), .string (bytes [100, 97, 116, 97]), .string (bytes [115, 101, 108, 102]), .string (bytes [115, 101, 110, 100]), .string (bytes [115, 116, 111, 112])]) S); (case hr => intro w; kernel_rfl); clear S; intro bz wz S)
  replace S := S.weak (i := 0) (A' := Sl true strE 1 (.slice (some ⟨bz, 0, none⟩) 15 15) wordsL) rfl (fun e => by cases e) (fun F h => ⟨F, fun _ hb => hb, blk_sl wordsL strE_len h rfl rfl⟩)
  simp only [List.set_cons_zero] at S
  go_wp2_with first | go_skip | ((with_reducible refine wpList_skip ?hw ?_); (case hw => with_unfolding_all rfl); simp only [Act.put, List.setIfInBounds_toArray, List.set_cons_succ, List.set_cons_zero]) | ((with_reducible apply wps_load_el S 0 (hj := Hs.out) (q := 0) (u := (.string s))); (case hx | hi => rfl); (case hn => omega); (case hu => rfl); (case hT => decide +kernel)) | ((with_reducible refine tot_done ?ht ?_); (case ht => kernel_rfl)) | ((with_reducible apply wps_load S 0); (case hx | hi | hu => rfl); (case hT => decide +kernel))
  go_ret
  exact ⟨by simp, S.below⟩
set_option maxRecDepth 100000 in
theorem rword_not (op : Int) (h : ¬ (1 ≤ op ∧ op ≤ 15)) (w : World) : Calls Tryd.prog 90 #[.int .i64 op] w fun r w' => r = .returned (.string ⟨#[]⟩) ∧ Below w.heap.size w w' := by
  have S := St.init (fun _ => False) w
  by_cases h1 : op < 1
  · go_enter Tryd.func90, Tryd.ntmps90
    go_wp2_with first | go_skip | ((with_reducible refine wpList_skip ?hw ?_); (case hw => with_unfolding_all rfl); simp only [Act.put, List.setIfInBounds_toArray, List.set_cons_succ, List.set_cons_zero]) | ((with_reducible refine tot_done ?ht ?_); (case ht => kernel_rfl)) | ((with_reducible apply wps_load S 0); (case hx | hi | hu => rfl); (case hT => decide +kernel))
    go_ret
    exact ⟨by simp, S.below⟩
  · have h2 : 15 < op := by omega
    go_enter Tryd.func90, Tryd.ntmps90
    go_wp2_with first | go_skip | ((with_reducible refine wpList_skip ?hw ?_); (case hw => with_unfolding_all rfl); simp only [Act.put, List.setIfInBounds_toArray, List.set_cons_succ, List.set_cons_zero]) | ((with_reducible refine tot_done ?ht ?_); (case ht => kernel_rfl)) | ((with_reducible apply wps_load S 0); (case hx | hi | hu => rfl); (case hT => decide +kernel))
    go_ret
    exact ⟨by simp, S.below⟩
set_option maxRecDepth 100000 in
theorem rkinds_calls (n : Nat) (s : ByteArray) (hs : kindsL[n]? = some s) (w : World) : Calls Tryd.prog 91 #[.int .i64 ((n : Int) + 1)] w fun r w' => r = .returned (.string s) ∧ Below w.heap.size w w' := by
  have S := St.init (fun _ => False) w
  have hn : n < 15 := (List.getElem?_eq_some_iff.1 hs).1
  have hn1 : (n : Int) < 15 := by omega
  have Hs := Lib.hid hs
  clear hs
  go_enter Tryd.func91, Tryd.ntmps91
  go_upto_region 4 with first | ((with_reducible apply wps_buildSlice (T := 178) (E := 9) (cs := #[.string (bytes [99, 110]), .string (bytes [99, 99]), .string (bytes [99, 99, 99]), .string (bytes [99, 99, 99]), .string (bytes [99, 99, 99]), .string (bytes [99, 99, 99]), .string (bytes [99, 99, 99]), .string (bytes [112]), .string (bytes [99, 112]), .string (bytes [99]), .string (bytes [99]), .string (bytes [99]), .string (bytes [99]), .string (bytes [99, 99, 99, 107]), .string (bytes [])]) S); (case hr => intro w; kernel_rfl); clear S; intro bz wz S)
  replace S := S.weak (i := 0) (A' := Sl true strE 1 (.slice (some ⟨bz, 0, none⟩) 15 15) kindsL) rfl (fun e => by cases e) (fun F h => ⟨F, fun _ hb => hb, blk_sl kindsL strE_len h rfl rfl⟩)
  simp only [List.set_cons_zero] at S
  go_wp2_with first | go_skip | ((with_reducible refine wpList_skip ?hw ?_); (case hw => with_unfolding_all rfl); simp only [Act.put, List.setIfInBounds_toArray, List.set_cons_succ, List.set_cons_zero]) | ((with_reducible apply wps_load_el S 0 (hj := Hs.out) (q := 0) (u := (.string s))); (case hx | hi => rfl); (case hn => omega); (case hu => rfl); (case hT => decide +kernel)) | ((with_reducible refine tot_done ?ht ?_); (case ht => kernel_rfl)) | ((with_reducible apply wps_load S 0); (case hx | hi | hu => rfl); (case hT => decide +kernel))
  go_ret
  exact ⟨by simp, S.below⟩
/-- The number at a place. -/
def numb (x : Instr) : Nat → Int
  | 0 => x.a
  | 1 => x.b
  | 2 => x.c
  | _ => x.d
def ask (s : State) : Nat → Int
  | 0 => s.n0
  | 1 => s.n1
  | 2 => s.n2
  | _ => s.n3
set_option maxRecDepth 100000 in
theorem rnumber_calls (x : Instr) (j : Nat) (hj : j < 4) (w : World) : Calls Tryd.prog 92 #[.agg #[.int .i64 x.op, .int .i64 x.a, .int .i64 x.b, .int .i64 x.c, .int .i64 x.d], .int .i64 j] w fun r w' => r = .returned (.int .i64 (numb x j)) ∧ Below w.heap.size w w' := by
  have S := St.init (fun _ => False) w
  obtain rfl | rfl | rfl | rfl : j = 0 ∨ j = 1 ∨ j = 2 ∨ j = 3 := by omega
  all_goals
    go_enter Tryd.func92, Tryd.ntmps92
    go_wp2_with first | ((with_reducible refine tot_done ?ht ?_); (case ht => kernel_rfl)) | ((with_reducible apply wps_boxa S); (case hx => rfl); clear S; intro bz wz S) | ((with_reducible apply wps_box1 (v := .int _ _) S); (case hx | h1 => rfl); clear S; intro bz wz S) | ((with_reducible apply wps_box1 (v := .bool _) S); (case hx | h1 => rfl); clear S; intro bz wz S) | ((with_reducible apply wps_box1 (v := .slice _ _ _) S); (case hx | h1 => rfl); clear S; intro bz wz S) | ((with_reducible apply wps_box1 (v := .pointer _) S); (case hx | h1 => rfl); clear S; intro bz wz S) | ((with_reducible apply wps_box1 (v := .map _) S); (case hx | h1 => rfl); clear S; intro bz wz S) | ((with_reducible apply wps_box1 (v := .string _) S); (case hx | h1 => rfl); clear S; intro bz wz S) | ((with_reducible apply wps_box1 (v := .func _ _ _) S); (case hx | h1 => rfl); clear S; intro bz wz S) | ((with_reducible apply wps_load S 0); (case hx | hi | hu => rfl); (case hT => decide +kernel))
    go_ret
    exact ⟨by simp [numb], S.below⟩
end Go.Proofs.YtjmecncebdbhdaaDoor
