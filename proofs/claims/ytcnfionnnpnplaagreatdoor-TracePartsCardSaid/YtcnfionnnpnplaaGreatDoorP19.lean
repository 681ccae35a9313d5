import Derived.Test.YtcnfionnnpnplaaGreatDoorP06
import Derived.Test.YtcnfionnnpnplaaGreatDoorP09
import Derived.Test.YtcnfionnnpnplaaGreatDoorP18
import Derived.Test.YtcnfionnnpnplaaGreatDoorP04
/- Opening a slice of batches that came in. -/
namespace Go.Proofs.YtcnfionnnpnplaaGreatDoor
open Go Go.ChangeShapes Go.WideShapes Go.ChangeAt Go.RowKit Mem

theorem list5' {α : Type} : ∀ {l : List α}, l.length = 5 → ∃ a b c d e, l = [a, b, c, d, e]
  | [a, b, c, d, e], _ => ⟨a, b, c, d, e, rfl⟩
theorem list8' {α : Type} : ∀ {l : List α}, l.length = 8 → ∃ a b c d e f g h, l = [a, b, c, d, e, f, g, h]
  | [a, b, c, d, e, f, g, h], _ => ⟨a, b, c, d, e, f, g, h, rfl⟩
section
variable {H : Type} {enc : TypeId × Value → H} {w : World} {base : Nat} {spare : Nat → Bool} {held : Bool}
def BatOk (w : World) (x : BatV) : Prop := SlAt Event.cells 7 w (fun b => b < w.heap.size) x.vi x.b.ins ∧ SlAt Event.cells 7 w (fun b => b < w.heap.size) x.vo x.b.sent ∧ x.b.ins.length ≤ maxLen ∧ x.b.sent.length ≤ maxLen
set_option maxRecDepth 100000 in
theorem batch_dec {fuel : Nat} {vs : List Value} {z : DataW H × List MemPlace} (hf : DataW.trod enc Tryz.prog w base spare held fuel 52 vs = some z) : ∃ x : BatV, x.cells = vs ∧ BatOk w x := by
  obtain ⟨xs, n, _, _, hlen, hxl, hfs⟩ := DataW.trod_struct Tryz.underlying52 hf
  have zC : Tryz.prog.cellsOf 52 = 8 := by kernel_rfl
  have zS : Tryz.prog.cellsOf 50 = 4 := by kernel_rfl
  have zL : Tryz.prog.cellsOf 48 = 1 := by kernel_rfl
  have zI : Tryz.prog.cellsOf 3 = 1 := by kernel_rfl
  rw [zC] at hlen
  obtain ⟨c0, c1, c2, c3, c4, c5, c6, c7, hcs⟩ := list8' hlen
  obtain ⟨y0, y1, y2, y3, y4, rfl⟩ := list5' (show xs.length = 5 from hxl)
  have f0 : DataW.trod enc Tryz.prog w base spare held n 3 [c0] = some y0 := by
    have h : DataW.trod enc Tryz.prog w base spare held n 3 ((vs.drop 0).take (Tryz.prog.cellsOf 3)) = some y0 := hfs 0 _ rfl
    rw [zI, hcs] at h
    exact h
  have f1 : DataW.trod enc Tryz.prog w base spare held n 3 [c1] = some y1 := by
    have h : DataW.trod enc Tryz.prog w base spare held n 3 ((vs.drop 1).take (Tryz.prog.cellsOf 3)) = some y1 := hfs 1 _ rfl
    rw [zI, hcs] at h
    exact h
  have f2 : DataW.trod enc Tryz.prog w base spare held n 48 [c2] = some y2 := by
    have h : DataW.trod enc Tryz.prog w base spare held n 48 ((vs.drop 2).take (Tryz.prog.cellsOf 48)) = some y2 := hfs 2 _ rfl
    rw [zL, hcs] at h
    exact h
  have f3 : DataW.trod enc Tryz.prog w base spare held n 50 [c3, c4, c5, c6] = some y3 := by
    have h : DataW.trod enc Tryz.prog w base spare held n 50 ((vs.drop 3).take (Tryz.prog.cellsOf 50)) = some y3 := hfs 3 _ rfl
    rw [zS, hcs] at h
    exact h
  have f4 : DataW.trod enc Tryz.prog w base spare held n 48 [c7] = some y4 := by
    have h : DataW.trod enc Tryz.prog w base spare held n 48 ((vs.drop 7).take (Tryz.prog.cellsOf 48)) = some y4 := hfs 4 _ rfl
    rw [zL, hcs] at h
    exact h
  obtain ⟨at_, g0, _⟩ := DataW.trod_int Tryz.underlying3 f0
  obtain ⟨lp, g1, _⟩ := DataW.trod_int Tryz.underlying3 f1
  obtain ⟨h3, _⟩ := trod_flat 100 50 i4 (by kernel_rfl) (by kernel_rfl) n _ _ f3
  obtain ⟨a, b, c, d, g3⟩ := dec4 h3
  obtain ⟨vI, l, g2, a2, l2⟩ := trod_sl (ks := i7) Event.cells 7 Tryz.underlying48 (by kernel_rfl) (by kernel_rfl) rfl (by decide) ecells event_dec f2
  obtain ⟨vO, m, g4, a4, l4⟩ := trod_sl (ks := i7) Event.cells 7 Tryz.underlying48 (by kernel_rfl) (by kernel_rfl) rfl (by decide) ecells event_dec f4
  cases g0; cases g1; cases g2; cases g3; cases g4
  obtain ⟨ai, ci, rfl, _⟩ := a2.form
  obtain ⟨ao, co, rfl, _⟩ := a4.form
  exact ⟨⟨⟨at_, lp, l, ⟨a, b, c, d⟩, m⟩, ai, ci, ao, co⟩, hcs.symm, a2, a4, l2, l4⟩
set_option maxRecDepth 100000 in
theorem open_bats {v : Value} {d : DataW H} {p : List MemPlace} {r : Reach} {base2 : Nat} (h : DataW.Trod enc Tryz.prog w base spare held 27 v d p) (hv : Value.okWide Tryz.prog w r base2 27 v) :
    ∃ (ad : Option Addr) (c : Nat) (l : List BatV), v = .slice ad l.length c ∧ (Sl true BatV.cells 8 (.slice ad l.length c) l).at_ w (fun b => b < w.heap.size) ∧ (insA true l).at_ w (fun b => b < w.heap.size) ∧ (outA true l).at_ w (fun b => b < w.heap.size) ∧ l.length ≤ maxLen ∧ ∀ x ∈ l, x.b.ins.length ≤ maxLen ∧ x.b.sent.length ≤ maxLen := by
  obtain ⟨fuel, hf⟩ := h
  obtain ⟨a0, len, cap, rfl⟩ := okWide_slice Tryz.underlying27 hv
  obtain ⟨a, c, ys, hcs, h1, hc2, h2, hok, hc⟩ := open_slice_any (α := BatV) (k := 8) BatV.cells (BatOk w) Tryz.underlying27 (by kernel_rfl) (by omega)
    (fun n vs x hx => batch_dec hx) hf
  have e : (Value.slice a0 len cap) = .slice a ys.length c := by simpa [Value.cells] using hcs
  rw [e]
  refine ⟨a, c, ys, rfl, ⟨⟨a, c, rfl, by simpa using h1, fun e => (h2 e).2, fun i y hi => ?_⟩, fun _ h => h⟩, ⟨⟨by simp, fun i v xs hv hx => ?_⟩, fun _ h => h⟩, ⟨⟨by simp, fun i v xs hv hx => ?_⟩, fun _ h => h⟩, by omega, fun x hx => (hok x hx).2.2⟩
  · obtain ⟨R, o, e, hcell⟩ := hc i y hi
    refine ⟨R, o, e, ?_, fun j u hj => hcell j u hj⟩
    have := hcell 0 _ rfl
    exact Nat.lt_of_not_le fun hge => by simp [World.cell?, Array.getElem?_eq_none hge] at this
  · rw [List.getElem?_map, Option.map_eq_some_iff] at hv hx
    obtain ⟨x, hx1, rfl⟩ := hv
    obtain ⟨y, hy1, rfl⟩ := hx
    rw [hx1] at hy1; cases hy1
    exact (hok x (List.mem_of_getElem? hx1)).1
  · rw [List.getElem?_map, Option.map_eq_some_iff] at hv hx
    obtain ⟨x, hx1, rfl⟩ := hv
    obtain ⟨y, hy1, rfl⟩ := hx
    rw [hx1] at hy1; cases hy1
    exact (hok x (List.mem_of_getElem? hx1)).2.1
end
end Go.Proofs.YtcnfionnnpnplaaGreatDoor
/- Slices that are owned and written, of which only their room is known; and several owned slices at once. Over any program. -/
namespace Go.Proofs.YtcnfionnnpnplaaGreatDoor.Mem
open Go Go.RowKit Reg

def RoomAt (k : Nat) (w : World) (F : Nat → Prop) (vs : List Value) : Prop :=
  ∀ (i : Nat) v, vs[i]? = some v → ∃ ad n c, v = .slice ad n c ∧ (0 < n → ∃ R cs t, ad = some ⟨R, 0, none⟩ ∧ F R ∧ w.heap[R]? = some (.cells cs t (0, 0)) ∧ n * k ≤ cs.size)
def Room (k : Nat) (vs : List Value) : Asn where
  sh := false
  at_ w F := RoomAt k w F vs ∧ ∀ b, F b → b < w.heap.size
  loc h hb := ⟨fun i v hi => by
    obtain ⟨ad, n, c, e, h2⟩ := h.1 i v hi
    refine ⟨ad, n, c, e, fun h0 => ?_⟩
    obtain ⟨R, cs, t, e1, h3, h4, h5⟩ := h2 h0
    exact ⟨R, cs, t, e1, h3, (hb R h3).trans h4, h5⟩, lt_loc h.2 hb⟩
  lt h := h.2
def Ows {α : Type} (E : TypeId) (enc : α → List Value) (k : Nat) (vs : List Value) (xss : List (List α)) : Asn where
  sh := false
  at_ w F := (vs.length = xss.length ∧ ∀ (i : Nat) v xs, vs[i]? = some v → xss[i]? = some xs → ∃ Fi, (Own E enc k v xs).at_ w Fi ∧ ∀ b, Fi b → F b) ∧ ∀ b, F b → b < w.heap.size
  loc h hb := ⟨⟨h.1.1, fun i v xs hv hx => by
    obtain ⟨Fi, h1, h2⟩ := h.1.2 i v xs hv hx
    exact ⟨Fi, (Own _ _ _ v xs).loc h1 (fun b hb' => hb b (h2 b hb')), h2⟩⟩, lt_loc h.2 hb⟩
  lt h := h.2
section
variable {α : Type} {E : TypeId} {enc : α → List Value} {k : Nat} {G : Nat → Prop} {w0 w : World} {L : List Asn}
theorem St.owsNil (S : St G w0 w L) (E : TypeId) (enc : α → List Value) (k : Nat) : St G w0 w (Ows E enc k [] ([] : List (List α)) :: L) :=
  S.grow (F := fun _ => False) (Keep.refl _ _) ⟨⟨rfl, fun i v xs h => by simp at h⟩, fun _ h => h.elim⟩ (fun _ h => h.elim)
theorem St.owsSnoc {vs : List Value} {xss : List (List α)} {v : Value} {xs : List α} (S : St G w0 w (Own E enc k v xs :: Ows E enc k vs xss :: L)) : St G w0 w (Ows E enc k (vs ++ [v]) (xss ++ [xs]) :: L) :=
  S.merge _ rfl rfl rfl fun F F' h h' => by
    refine ⟨⟨by simp [h'.1.1], fun j u ys hu hy => ?_⟩, fun b hb => hb.elim ((Own E enc k v xs).lt h b) (h'.2 b)⟩
    by_cases hj : j < vs.length
    · rw [List.getElem?_append_left hj] at hu
      rw [List.getElem?_append_left (by rw [← h'.1.1]; exact hj)] at hy
      obtain ⟨Fi, h1, h2⟩ := h'.1.2 j u ys hu hy
      exact ⟨Fi, h1, fun b hb => .inr (h2 b hb)⟩
    · have hjl := (List.getElem?_eq_some_iff.1 hu).1
      simp at hjl
      obtain rfl : j = vs.length := by omega
      rw [List.getElem?_append_right (Nat.le_refl _)] at hu
      rw [List.getElem?_append_right (by rw [h'.1.1]; exact Nat.le_refl _)] at hy
      simp [h'.1.1] at hu hy
      subst hu; subst hy
      exact ⟨F, h, fun b hb => .inl hb⟩
theorem own_room (_ : ∀ x, (enc x).length = k) {v : Value} {xs : List α} {F : Nat → Prop} (h : (Own E enc k v xs).at_ w F) : ∃ ad n c, v = .slice ad n c ∧ (0 < n → ∃ R cs t, ad = some ⟨R, 0, none⟩ ∧ F R ∧ w.heap[R]? = some (.cells cs t (0, 0)) ∧ n * k ≤ cs.size) := by
  rcases h.1.2 with ⟨rfl, h0⟩ | ⟨g, cap, cur, rfl, hb, hg, h1, h2, h3, h4⟩
  · exact ⟨none, 0, 0, rfl, fun h => absurd h (by omega)⟩
  · exact ⟨_, _, _, rfl, fun _ => ⟨g, cur, E, rfl, (h.2 g).2 rfl, hg, by rw [h3]; exact Nat.mul_le_mul_right _ h1⟩⟩
theorem St.rooms (S : St G w0 w L) (i : Nat) {vs : List Value} {xss : List (List α)} (hk : ∀ x, (enc x).length = k) (hi : L[i]? = some (Ows E enc k vs xss)) : St G w0 w (L.set i (Room k vs)) :=
  S.weak hi (fun _ => rfl) fun F h => ⟨F, fun _ hb => hb, fun j u hu => by
    obtain ⟨xs, hx⟩ : ∃ xs, xss[j]? = some xs := ⟨_, List.getElem?_eq_getElem (by rw [← h.1.1]; exact (List.getElem?_eq_some_iff.1 hu).1)⟩
    obtain ⟨Fi, h1, h2⟩ := h.1.2 j u xs hu hx
    obtain ⟨ad, n, c, e, h3⟩ := own_room hk h1
    refine ⟨ad, n, c, e, fun h0 => ?_⟩
    obtain ⟨R, cs, t, e1, h4, h5, h6⟩ := h3 h0
    exact ⟨R, cs, t, e1, h2 R h4, h5, h6⟩, h.2⟩
theorem ows_sls (hk : ∀ x, (enc x).length = k) {vs : List Value} {xss : List (List α)} {F : Nat → Prop} (h : (Ows E enc k vs xss).at_ w F) : (Sls true enc k vs xss).at_ w F :=
  ⟨⟨h.1.1, fun i v xs hv hx => let ⟨_, h1, h2⟩ := h.1.2 i v xs hv hx; (own_sl (sh := true) hk h1).1.mono h2⟩, h.2⟩
theorem St.roomForm {vs : List Value} (S : St G w0 w L) (i : Nat) (hi : L[i]? = some (Room k vs)) {q : Nat} {v : Value} (hv : vs[q]? = some v) : ∃ ad n c, v = .slice ad n c ∧ (0 < n → ∃ R, ad = some ⟨R, 0, none⟩) := by
  obtain ⟨F, h⟩ := S.get hi
  obtain ⟨ad, n, c, e, h2⟩ := h.1 q v hv
  exact ⟨ad, n, c, e, fun h0 => let ⟨R, _, _, e1, _⟩ := h2 h0; ⟨R, e1⟩⟩
variable {P : Program} {ops : Array Oper} {rest : List Oper} {a : Act} {Q : Exit → Act → World → Prop} {d : Option Tmp} {tt : TypeId} {p : String} {af : Array Edge} {gd : Option (Nat × Bool)} {x y : Operand}
theorem wps_store_room {vs : List Value} (S : St G w0 w L) (i : Nat) (hi : L[i]? = some (Room k vs)) {q R n c nn j : Nat} (hv : vs[q]? = some (.slice (some ⟨R, 0, none⟩) n c)) (us : List Value) {T : TypeId}
    (hx : a.eval x = .pointer (some ⟨R, nn, none⟩)) (hn : nn = j * k) (hj : j < n) (hy : a.eval y = .agg us.toArray) (hT : aggB P T k = true) (hm : us.length = k) (h1 : us.all Value.oneCell' = true)
    (next : ∀ w', St G w0 w' L → wpList P ops Q rest (a.put d undef) w') (hgd : gOk gd ops a = true := by with_unfolding_all rfl) :
    wpList P ops Q ({ dst := d, op := .store T x y, type := tt, pos := p, after := af, guard := gd } :: rest) a w := by
  obtain ⟨F0, hF0⟩ := S.get hi
  obtain ⟨ad, n', c', e, h2⟩ := hF0.1 q _ hv
  cases e
  obtain ⟨R', cs, t, e1, hFR, hh, hs⟩ := h2 (by omega)
  cases e1
  subst hn
  have hjk : j * k + k ≤ n * k := by have := Nat.mul_le_mul_right k (show j + 1 ≤ n from hj); rw [Nat.add_mul, Nat.one_mul] at this; exact this
  have hfit : j * k + us.length ≤ cs.size := by rw [hm]; omega
  refine wpList_store_agg (hgd := hgd) us (by rw [hm]; exact hT) hx hy hh hfit (by simpa using h1) fun w' hb hK => next w' ?_
  have hset : L.set i (Room k vs) = L := by
    obtain ⟨h1, h2⟩ := List.getElem?_eq_some_iff.1 hi
    rw [← h2, List.set_getElem_self]
  rw [← hset]
  refine S.step (w' := w') (A' := Room k vs) hi rfl fun F hF => ?_
  · obtain ⟨ad2, n2, c2, e2, h3⟩ := hF.1 q _ hv
    cases e2
    obtain ⟨R2, cs2, t2, e3, hFR2, hh2, hs2⟩ := h3 (by omega)
    cases e3
    refine ⟨F, hK.mono (fun b _ hn hb => hn (hb ▸ hFR2)), ⟨fun i v hi => ?_, fun b hb' => Nat.lt_of_lt_of_le (hF.2 b hb') hK.size⟩, fun _ h => .inl h⟩
    obtain ⟨ad, n3, c3, e, h4⟩ := hF.1 i v hi
    refine ⟨ad, n3, c3, e, fun h0 => ?_⟩
    obtain ⟨R3, cs3, t3, e4, h5, h6, h7⟩ := h4 h0
    by_cases hR : R3 = R
    · subst hR
      rw [hh] at h6
      cases h6
      exact ⟨R3, _, t, e4, h5, hb, by rw [splice_size hfit]; exact h7⟩
    · exact ⟨R3, cs3, t3, e4, h5, (hK.block R3 (hF.2 R3 h5) hR).trans h6, h7⟩
end
end Go.Proofs.YtcnfionnnpnplaaGreatDoor.Mem
/- The walk of trace's own: batches that share no memory with others. -/
namespace Go.Proofs.YtcnfionnnpnplaaGreatDoor
open Go Go.RowKit Reg Mem

def owI (d : List BatV) : Asn := Ows 56 Event.cells 7 (d.map (·.vi)) (d.map (·.b.ins))
theorem owi_snoc {G : Nat → Prop} {w0 w : World} {L : List Asn} {d : List BatV} (x : BatV) (S : St G w0 w (Mem.Own 56 Event.cells 7 x.vi x.b.ins :: owI d :: L)) : St G w0 w (owI (d ++ [x]) :: L) := by
  have S4 := S.owsSnoc
  unfold owI; rw [List.map_append, List.map_append]; exact S4
theorem owi_ins {G : Nat → Prop} {w0 w : World} {L : List Asn} {d : List BatV} (i : Nat) (S : St G w0 w L) (hi : L[i]? = some (owI d)) : St G w0 w (L.set i (insA false d)) :=
  S.weak hi (fun _ => rfl) fun F h => ⟨F, fun _ hb => hb, ows_sls ecells h⟩
def TOwnRel (v1 : Value) (l : List BatV) (w : World) (i : Value) (wr : World) : Prop :=
  ∃ (j : Nat) (d : List BatV), j ≤ l.length ∧ i = .int .i64 j ∧ d.length = j ∧ Hid (d.map (·.b) = (l.take j).map (·.b)) ∧
    St (fun _ => False) w wr [Mem.Own 52 BatV.cells 8 v1 (d ++ l.drop j), owI d, outA false d, insA true l, outA true l]
def TOwnPost2 (l : List BatV) (w : World) (e : Ending) (w' : World) : Prop :=
  ∃ a cp d, e = .returned (.slice a l.length cp) ∧ d.map (·.b) = l.map (·.b) ∧
    St (fun _ => False) w w' [Mem.Own 52 BatV.cells 8 (.slice a l.length cp) d, owI d, outA false d]
def TOwnPost (l : List BatV) (w : World) (e : Ending) (w' : World) : Prop :=
  ∃ a cp d, e = .returned (.slice a l.length cp) ∧ d.map (·.b) = l.map (·.b) ∧
    St (fun _ => False) w w' [Mem.Own 52 BatV.cells 8 (.slice a l.length cp) d, insA false d, outA false d]
set_option maxRecDepth 100000 in
set_option maxHeartbeats 8000000 in
theorem town_calls2 (ad : Option Addr) (c : Nat) (l : List BatV) (w : World) (F F2 F3 : Nat → Prop) (h : (Sl true BatV.cells 8 (.slice ad l.length c) l).at_ w F) (h2 : (insA true l).at_ w F2) (h3 : (outA true l).at_ w F3) (hn : SmallB (l.map (·.b))) :
    Calls Tryz.prog 31 #[.slice ad l.length c] w (TOwnPost2 l w) := by
  have S : St (fun _ => False) w w [Sl true BatV.cells 8 (.slice ad l.length c) l, insA true l, outA true l] := (((St.init _ w).share (A := outA true l) rfl rfl h3).share (A := insA true l) rfl rfl h2).share (A := Sl true BatV.cells 8 (.slice ad l.length c) l) rfl rfl h
  clear h h2 h3
  have hn0 : l.length ≤ 4294967296 := by have := hn.1; rw [List.length_map] at this; omega
  have HN : Hid (∀ x ∈ l, x.b.ins.length ≤ 4294967296 ∧ x.b.sent.length ≤ 4294967296) := Lib.hid fun x hx => by have := hn.2 x.b (List.mem_map.2 ⟨x, hx, rfl⟩); omega
  clear hn
  go_enter Tryz.func31, Tryz.ntmps31
  go_wp2_with first | (go_at_call 30; refine Calls.mono (clone_Bat _ _ (S.get (i := 0) rfl).choose_spec hn0) ?_; rintro e wz ⟨a1, c1, rfl, _, T⟩; replace S := S.join T rfl; clear T; simp only [List.cons_append, List.nil_append] at S)
  replace S := ((S.slsNil Event.cells 7).owsNil 56 Event.cells 7).pick [2, 0, 1, 4, 5] rfl
  simp only [pick, nth] at S
  go_loopw [9] (fun i wr => TOwnRel (.slice a1 l.length c1) l w i wr) (fun i _ => l.length - (intOf i).toNat)
  case atStart => exact ⟨0, [], Nat.zero_le _, rfl, rfl, Lib.hid rfl, S⟩
  case round =>
    clear S
    obtain ⟨j, d, hj, rfl, hd, HD, S⟩ := hrel
    by_cases hlt : j < l.length
    · obtain ⟨x, hx⟩ : ∃ x, l[j]? = some x := ⟨_, List.getElem?_eq_getElem hlt⟩
      have hlt2 : (j : Int) < l.length := by omega
      have hsz := HN.out x (List.mem_of_getElem? hx)
      have hs1 := hsz.1
      have hs2 := hsz.2
      have HX := Lib.hid (List.mem_of_getElem? hx)
      have hlen : (d ++ l.drop j).length = l.length := by rw [List.length_append, List.length_drop]; omega
      have HJ : Hid ((d ++ l.drop j)[j]? = some x) := Lib.hid (by rw [List.getElem?_append_right (by omega), hd, Nat.sub_self, List.getElem?_drop, Nat.add_zero]; exact hx)
      have HD2 : Hid (∀ y : BatV, y.b = x.b → (d ++ [y]).map (·.b) = (l.take (j + 1)).map (·.b)) := Lib.hid fun y hy => by rw [List.map_append, HD.out, take_snoc hx, List.map_append, List.map_singleton, List.map_singleton, hy]
      have HST : Hid (∀ y : BatV, (d ++ l.drop j).set j y = (d ++ [y]) ++ l.drop (j + 1)) := Lib.hid fun y => by
        rw [List.set_append_right _ _ (by omega), hd, Nat.sub_self, List.drop_eq_getElem_cons hlt, List.set_cons_zero, List.append_assoc]; rfl
      obtain ⟨Rr, crr, e⟩ := own_hd 0 S rfl (by omega)
      simp only [Value.slice.injEq] at e
      obtain ⟨rfl, hq, rfl⟩ := e
      clear hq hsz hx
      obtain ⟨⟨xat, xlp, xins, xthn, xsent⟩, xai, xci, xao, xco⟩ := x
      generalize hLL : d ++ l.drop j = LL at *
      go_upto_region 5 with first | ((with_reducible apply wps_loada_own bvcells S 0 (hj := HJ.out) (q := 0) (vs := [.int .i64 (⟨⟨xat,xlp,xins,xthn,xsent⟩,xai,xci,xao,xco⟩:BatV).b.at_, .int .i64 (⟨⟨xat,xlp,xins,xthn,xsent⟩,xai,xci,xao,xco⟩:BatV).b.lp, (⟨⟨xat,xlp,xins,xthn,xsent⟩,xai,xci,xao,xco⟩:BatV).vi, .int .i64 (⟨⟨xat,xlp,xins,xthn,xsent⟩,xai,xci,xao,xco⟩:BatV).b.thn.n0, .int .i64 (⟨⟨xat,xlp,xins,xthn,xsent⟩,xai,xci,xao,xco⟩:BatV).b.thn.n1, .int .i64 (⟨⟨xat,xlp,xins,xthn,xsent⟩,xai,xci,xao,xco⟩:BatV).b.thn.n2, .int .i64 (⟨⟨xat,xlp,xins,xthn,xsent⟩,xai,xci,xao,xco⟩:BatV).b.thn.n3, (⟨⟨xat,xlp,xins,xthn,xsent⟩,xai,xci,xao,xco⟩:BatV).vo]) (m := 8)); (case hx | hi => rfl); (case hn => omega); (case hm | hv => rfl); (case hT => decide +kernel)) | ((with_reducible apply wps_alloca (E := 52) S); (case hz => exact Tryz.zeroValue52); clear S; intro b4 wz S) | ((with_reducible apply wps_storea (T := 52) S 0 (vs := [.int .i64 xat, .int .i64 xlp, .slice xai xins.length xci, .int .i64 xthn.n0, .int .i64 xthn.n1, .int .i64 xthn.n2, .int .i64 xthn.n3, .slice xao xsent.length xco]) (m := 8)); (case hx | hy | hi | hm | h1 => rfl); (case hn => exact Nat.le_of_ble_eq_true rfl); (case hT => decide +kernel); clear S; intro wz S; simp only [List.set_cons_zero, List.set_cons_succ, setAll, List.setIfInBounds_toArray] at S)
      replace S := S.pick [2, 3, 4, 5, 0, 1] rfl
      simp only [pick, nth] at S
      have HSJ : Hid (∀ e : BatV, (LL.set j e)[j]? = some e) := Lib.hid fun e => List.getElem?_set_self (by omega)
      have hjl : j < LL.length := by omega
      have Hlen := Lib.hid hlen
      have HLL := Lib.hid hLL
      have Hd := Lib.hid hd
      clear hlen hLL hd
      (refine wp_region_wt (soft := [0, 1, 2, 3, 4, 5, 7, 8]) (L := [_, _, _, _, _]) (T := [_]) S ?hm ?hB ?_); (case hm => kernel_rfl); (case hB => decide +kernel); clear S
      iterate 8
        (with_reducible apply softs_cons)
        (case hw =>
          (with_reducible apply soft_of); (case hi => rfl)
          intro T wz S
          simp only [List.cons_append, List.nil_append] at S
          go_wp2_with first | ((with_reducible apply wps_load S 4); (case hx | hi | hu => rfl); (case hT => decide +kernel)) | ((with_reducible refine tot_done ?ht ?_); (case ht => kernel_rfl))
          exact ⟨rfl, S⟩)
        (case hs => exact ⟨_, rfl, by kernel_rfl⟩)
      refine softs_nil ?_
      (with_reducible apply W_hard1 (i := 6)); (case hn => rfl); (case hr => decide +kernel)
      intro wz S
      (with_reducible apply hard_of); (case hi => rfl)
      simp only [List.cons_append, List.nil_append] at S
      go_wp2_with first | (go_at_call 58; have hcz := fun w F h => clone_Ev (ad := xai) (n := xins.length) (c := xci) (xs := xins) w F h hs1; have hq : (Sl true Event.cells 7 (.slice xai xins.length xci) xins).at_ _ _ := ins_el (S.get (i := 2) rfl).choose_spec HX.out; (with_reducible refine Calls.mono (hcz _ _ hq) ?_); clear hcz hq; rintro e wz ⟨ai, ci, rfl, _, T⟩; replace S := S.join T rfl; clear T; simp only [List.cons_append, List.nil_append] at S) | ((with_reducible refine tot_done ?ht ?_); (case ht => kernel_rfl))
      refine ⟨_, S.pick [1, 2, 3, 4, 5, 6, 0] rfl, ?_⟩
      clear S
      (with_reducible apply W_hard1 (i := 9)); (case hn => rfl); (case hr => decide +kernel)
      intro wz S
      (with_reducible apply hard_of); (case hi => rfl)
      simp only [List.cons_append, List.nil_append] at S
      go_wp2_with first | (go_at_call 58; have hcz := fun w F h => clone_Ev (ad := xao) (n := xsent.length) (c := xco) (xs := xsent) w F h hs2; have hq : (Sl true Event.cells 7 (.slice xao xsent.length xco) xsent).at_ _ _ := out_el (S.get (i := 3) rfl).choose_spec HX.out; (with_reducible refine Calls.mono (hcz _ _ hq) ?_); clear hcz hq; rintro e wz ⟨ao, co, rfl, _, T⟩; replace S := S.join T rfl; clear T; simp only [List.cons_append, List.nil_append] at S) | ((with_reducible refine tot_done ?ht ?_); (case ht => kernel_rfl))
      refine ⟨_, S.pick [1, 2, 3, 4, 5, 6, 7, 0] rfl, ?_⟩
      clear S
      (refine W_mid (f := 4) (soft := [10, 11]) rfl ?hB ?_); (case hB => decide +kernel)
      iterate 2
        (with_reducible apply softs_cons)
        (case hw =>
          (with_reducible apply soft_of); (case hi => rfl)
          intro T wz S
          simp only [List.cons_append, List.nil_append] at S
          go_wp2_with first | ((with_reducible refine tot_done ?ht ?_); (case ht => kernel_rfl))
          exact ⟨rfl, S⟩)
        (case hs => exact ⟨_, rfl, by kernel_rfl⟩)
      refine softs_nil ?_
      (with_reducible apply W_hard1 (i := 12)); (case hn => rfl); (case hr => decide +kernel)
      intro wz S
      (with_reducible apply hard_of); (case hi => rfl)
      simp only [List.cons_append, List.nil_append] at S
      go_wp2_with first | ((with_reducible apply wps_store_own bvcells S 5 (hj := HJ.out) (e' := (⟨⟨xat,xlp,xins,xthn,xsent⟩,ai,ci,xao,xco⟩:BatV)) (q := 2)); (case hx => rfl); (case hn => omega); (case hi | hy | h1 | he => rfl); (case hq => decide); (case hT => decide +kernel); clear S; intro wz S; simp only [List.set_cons_succ, List.set_cons_zero] at S) | ((with_reducible refine tot_done ?ht ?_); (case ht => kernel_rfl))
      refine ⟨_, S, ?_⟩
      clear S
      (refine W_mid (f := 1) (soft := [13, 14]) rfl ?hB ?_); (case hB => decide +kernel)
      iterate 2
        (with_reducible apply softs_cons)
        (case hw =>
          (with_reducible apply soft_of); (case hi => rfl)
          intro T wz S
          simp only [List.cons_append, List.nil_append] at S
          go_wp2_with first | ((with_reducible refine tot_done ?ht ?_); (case ht => kernel_rfl))
          exact ⟨rfl, S⟩)
        (case hs => exact ⟨_, rfl, by kernel_rfl⟩)
      refine softs_nil ?_
      (with_reducible apply W_hard1 (i := 15)); (case hn => rfl); (case hr => decide +kernel)
      intro wz S
      (with_reducible apply hard_of); (case hi => rfl)
      simp only [List.cons_append, List.nil_append] at S
      go_wp2_with first | ((with_reducible apply wps_store_own bvcells S 5 (hj := (HSJ.out ⟨⟨xat,xlp,xins,xthn,xsent⟩,ai,ci,xao,xco⟩)) (e' := (⟨⟨xat,xlp,xins,xthn,xsent⟩,ai,ci,ao,co⟩:BatV)) (q := 7)); (case hx => rfl); (case hn => omega); (case hi | hy | h1 | he => rfl); (case hq => decide); (case hT => decide +kernel); clear S; intro wz S; simp only [List.set_cons_succ, List.set_cons_zero] at S) | ((with_reducible refine tot_done ?ht ?_); (case ht => kernel_rfl))
      refine ⟨_, S, ?_⟩
      clear S
      (with_reducible apply W_done); (case hn => rfl); (case hr => decide +kernel)
      intro wz S
      repeat (first | simp only at S | simp only [pick] at S | simp only [nth] at S | simp only [List.set_cons_succ] at S | simp only [List.set_cons_zero] at S | simp only [List.setIfInBounds_toArray] at S | simp only [setAll] at S | simp only [List.cons_append] at S | simp only [List.nil_append] at S | simp only [List.append_nil] at S)
      rw [List.set_set, HST.out] at S
      go_wp2_with first | ((with_reducible apply wps_loada (T := 52) (k := 8) S 0); (case hx | hi => rfl); (case hk => exact Nat.le_of_ble_eq_true rfl); (case hT => decide +kernel))
      go_roundw
      case rel =>
        refine ⟨j + 1, d ++ [⟨⟨xat,xlp,xins,xthn,xsent⟩,ai,ci,ao,co⟩], by omega, by go_num, by rw [List.length_append, Hd.out]; rfl, Lib.hid (HD2.out _ rfl), ?_⟩
        have S2 := S.pick [6, 0, 7, 1, 2, 3, 5] rfl
        simp only [pick, nth] at S2
        have S4 := (owi_snoc (⟨⟨xat,xlp,xins,xthn,xsent⟩,ai,ci,ao,co⟩ : BatV) S2).pick [1, 2, 0, 3, 4, 5] rfl
        simp only [pick, nth] at S4
        exact (out_snoc (⟨⟨xat,xlp,xins,xthn,xsent⟩,ai,ci,ao,co⟩ : BatV) S4).pick [4, 1, 0, 2, 3] rfl
      case measure => simp [intOf]; omega
    · obtain rfl : j = l.length := by omega
      rw [List.drop_length, List.append_nil] at S
      have HD2 : Hid (d.map (·.b) = l.map (·.b)) := Lib.hid (by rw [HD.out, List.take_length])
      go_wp2_with first | ((with_reducible apply wps_loada (T := 52) (k := 8) S 0); (case hx | hi => rfl); (case hk => exact Nat.le_of_ble_eq_true rfl); (case hT => decide +kernel))
      go_ret
      exact ⟨_, _, d, rfl, HD2.out, S.pick [0, 1, 2] rfl⟩
theorem town_calls (ad : Option Addr) (c : Nat) (l : List BatV) (w : World) (F F2 F3 : Nat → Prop) (h : (Sl true BatV.cells 8 (.slice ad l.length c) l).at_ w F) (h2 : (insA true l).at_ w F2) (h3 : (outA true l).at_ w F3) (hn : SmallB (l.map (·.b))) :
    Calls Tryz.prog 31 #[.slice ad l.length c] w (TOwnPost l w) :=
  (town_calls2 ad c l w F F2 F3 h h2 h3 hn).mono fun e w' ⟨a, cp, d, h1, h2, S⟩ => ⟨a, cp, d, h1, h2, by have := owi_ins 1 S rfl; simpa using this⟩
end Go.Proofs.YtcnfionnnpnplaaGreatDoor
