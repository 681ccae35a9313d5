import Derived.Test.YtcbdacmdmaoegaaK2
import Derived.Shelf.SlSortCmp.NoneTotal
/- The walk of keys.byID: the places of messages, sorted by IDs. -/
namespace Go.Proofs.Ytcbdacmdmaoegaa
open Go Go.RowKit Reg Mem Go.Shelf Go.Sort

def natE (x : Nat) : List Value := [.int .i64 x]
theorem natE_len : ∀ x, (natE x).length = 1 := fun _ => rfl
theorem natE_one : ∀ x, ∀ u ∈ natE x, u.oneCell' = true := fun x u hu => by simp [natE] at hu; subst hu; rfl
set_option maxRecDepth 100000 in
theorem elem_Pl : Elem Try.prog 61 3 1 8 := ⟨_, .int .i64 0, Try.underlying61, rfl, by kernel_rfl, by kernel_rfl, by kernel_rfl, by kernel_rfl, by omega⟩
set_option maxRecDepth 100000 in
theorem zero_Pl : zeroIs Try.prog 3 1 (natE 0) := ⟨_, .int .i64 0, rfl, by kernel_rfl, by kernel_rfl, rfl, by decide⟩
theorem filled_get {j n : Nat} (h : j < n) : (List.range j ++ List.replicate (n - j) 0)[j]? = some 0 := by
  rw [List.getElem?_append_right (by simp), List.length_range, Nat.sub_self, List.getElem?_replicate, if_pos (by omega)]
theorem filled_set {j n : Nat} (h : j < n) : (List.range j ++ List.replicate (n - j) 0).set j j = List.range (j + 1) ++ List.replicate (n - (j + 1)) 0 := by
  obtain ⟨m, hm⟩ : ∃ m, n - j = m + 1 := ⟨n - j - 1, by omega⟩
  rw [hm, show n - (j + 1) = m by omega, List.set_append_right _ _ (by simp), List.range_succ, List.replicate_succ]
  simp
def finV {n : Nat} (i : Fin n) : Value := .int .i64 (i.val : Nat)
theorem swo_place (l : List Message) : SWO (ltOf fun (x y : Fin l.length) => Key.cmp (placeKey l x) (placeKey l y)) := by
  have := swo_key (placeKey l)
  have e : (ltOf fun (x y : Fin l.length) => Key.cmp (placeKey l x) (placeKey l y)) = fun x y => (placeKey l x).lt (placeKey l y) := by
    funext x y; exact Key.cmp_neg _ _
  rw [e]; exact this
theorem ltOf_place (l : List Message) (x y : Fin l.length) : ltOf (fun (x y : Fin l.length) => Key.cmp (placeKey l x) (placeKey l y)) x y = (placeKey l x).lt (placeKey l y) := Key.cmp_neg _ _
theorem flat_fin (n : Nat) (ys : List (Fin n)) : flatE (fun x => [finV x]) ys = flatE natE (ys.map (·.val)) := by
  induction ys with
  | nil => rfl
  | cons a l ih => simp only [flatE, List.flatMap_cons, List.map_cons] at *; rw [ih]; rfl
theorem range_fin (n : Nat) : List.range n = (List.finRange n).map (·.val) := List.ext_getElem (by simp) (fun i h1 h2 => by simp)
def ByRel (c : Nat) (ad : Option Addr) (cp b : Nat) (l : List Message) (w : World) (i : Value) (wr : World) : Prop :=
  ∃ j : Nat, j ≤ l.length ∧ i = .int .i64 j ∧ St (fun _ => False) w wr [Own 3 natE 1 (.slice (some ⟨b, 0, none⟩) l.length l.length) (List.range j ++ List.replicate (l.length - j) 0),
    Blk false c #[.slice ad l.length cp] 68, Sl true Message.cells 8 (.slice ad l.length cp) l]
def ByPost (l : List Message) (w : World) (e : Ending) (w' : World) : Prop := ∃ ad c ps, e = .returned (.slice ad l.length c) ∧ Places l ps ∧ (0 < l.length → ∃ R, ad = some ⟨R, 0, none⟩) ∧ St (fun _ => False) w w' [Own 3 natE 1 (.slice ad l.length c) ps]
set_option maxRecDepth 100000 in
set_option maxHeartbeats 4000000 in
theorem byid_calls (v : Value) (l : List Message) (w : World) (F : Nat → Prop) (h : (Sl true Message.cells 8 v l).at_ w F) (hn : l.length ≤ 65536) : Calls Try.prog 51 #[v] w (ByPost l w) := by
  have S : St (fun _ => False) w w [Sl true Message.cells 8 v l] := (St.init _ w).share rfl rfl h
  obtain ⟨ad, cp, rfl, _⟩ := (S.sl 0 rfl).elim fun _ h => h.form
  clear h
  go_enter Try.func51, Try.ntmps51
  go_wp2_with first
    | ((with_reducible apply wps_box1 (v := .slice _ _ _) S); (case hx => rfl); (case h1 => rfl); clear S; intro cb wz S)
    | ((with_reducible apply wps_make natE_len Try.underlying61 _ zero_Pl S (n := l.length)); (case hx => rfl); (case hy => rfl); (case hn => omega); clear S; intro bz wz S)
    | ((with_reducible refine tot_done ?ht ?_); (case ht => kernel_rfl))
    | ((with_reducible apply wps_boxa S); (case hx => rfl); clear S; intro bz wz S)
    | ((with_reducible apply wps_box1 (v := .int _ _) S); (case hx => rfl); (case h1 => rfl); clear S; intro bz wz S)
    | ((with_reducible apply wps_box1 (v := .bool _) S); (case hx => rfl); (case h1 => rfl); clear S; intro bz wz S)
    | ((with_reducible apply wps_box1 (v := .slice _ _ _) S); (case hx => rfl); (case h1 => rfl); clear S; intro bz wz S)
    | ((with_reducible apply wps_box1 (v := .pointer _) S); (case hx => rfl); (case h1 => rfl); clear S; intro bz wz S)
    | ((with_reducible apply wps_box1 (v := .map _) S); (case hx => rfl); (case h1 => rfl); clear S; intro bz wz S)
    | ((with_reducible apply wps_box1 (v := .string _) S); (case hx => rfl); (case h1 => rfl); clear S; intro bz wz S)
    | ((with_reducible apply wps_box1 (v := .func _ _ _) S); (case hx => rfl); (case h1 => rfl); clear S; intro bz wz S)
    | ((with_reducible apply wps_load S 0); (case hx => rfl); (case hi => rfl); (case hT => decide +kernel); (case hu => rfl))
    | ((with_reducible apply wps_load S 1); (case hx => rfl); (case hi => rfl); (case hT => decide +kernel); (case hu => rfl))
    | ((with_reducible apply wps_load S 2); (case hx => rfl); (case hi => rfl); (case hT => decide +kernel); (case hu => rfl))
    | ((with_reducible apply wps_load S 3); (case hx => rfl); (case hi => rfl); (case hT => decide +kernel); (case hu => rfl))
  go_loopw [10] (fun i wr => ByRel cb ad cp bz l w i wr) (fun i _ => l.length - (intOf i).toNat)
  case atStart => exact ⟨0, Nat.zero_le _, rfl, S⟩
  case round =>
    clear S
    obtain ⟨j, hj, rfl, S⟩ := hrel
    by_cases hlt : j < l.length
    · have hlt2 : (j : Int) < l.length := by omega
      have Hj := Lib.hid (filled_get hlt)
      go_wp2_with first
        | ((with_reducible apply wps_store_own natE_len S 0 (hj := Hj.out) (e' := j) (q := 0)); (case hx => rfl); (case hn => omega); (case hi => rfl); (case hy => rfl); (case hT => decide +kernel); (case h1 => rfl); (case he => rfl); (case hq => decide); clear S; intro wz S; simp only [List.set_cons_zero] at S)
        | ((with_reducible refine tot_done ?ht ?_); (case ht => kernel_rfl))
        | ((with_reducible apply wps_load S 0); (case hx => rfl); (case hi => rfl); (case hT => decide +kernel); (case hu => rfl))
        | ((with_reducible apply wps_load S 1); (case hx => rfl); (case hi => rfl); (case hT => decide +kernel); (case hu => rfl))
        | ((with_reducible apply wps_load S 2); (case hx => rfl); (case hi => rfl); (case hT => decide +kernel); (case hu => rfl))
        | ((with_reducible apply wps_load S 3); (case hx => rfl); (case hi => rfl); (case hT => decide +kernel); (case hu => rfl))
      go_roundw
      case rel => exact ⟨j + 1, by omega, by go_num, by rw [filled_set hlt] at S; exact S⟩
      case measure => simp [intOf]; omega
    · obtain rfl : j = l.length := by omega
      simp only [Nat.sub_self, List.replicate_zero, List.append_nil] at S
      go_wp2_with first
        | ((with_reducible refine tot_done ?ht ?_); (case ht => kernel_rfl))
        | ((with_reducible apply wps_load S 0); (case hx => rfl); (case hi => rfl); (case hT => decide +kernel); (case hu => rfl))
        | ((with_reducible apply wps_load S 1); (case hx => rfl); (case hi => rfl); (case hT => decide +kernel); (case hu => rfl))
        | ((with_reducible apply wps_load S 2); (case hx => rfl); (case hi => rfl); (case hT => decide +kernel); (case hu => rfl))
        | ((with_reducible apply wps_load S 3); (case hx => rfl); (case hi => rfl); (case hT => decide +kernel); (case hu => rfl))
      by_cases h0 : l.length = 0
      · obtain rfl : l = [] := List.eq_nil_of_length_eq_zero h0
        refine Calls.mono (AnyF.slices_SortFunc_none (P := Try.prog) (ρ := sortInts_ren) { sortInts with } _ _ _ _) ?_
        rintro e wz ⟨rfl, rfl⟩
        go_wp2_with first
          | ((with_reducible refine tot_done ?ht ?_); (case ht => kernel_rfl))
          | ((with_reducible apply wps_load S 0); (case hx => rfl); (case hi => rfl); (case hT => decide +kernel); (case hu => rfl))
          | ((with_reducible apply wps_load S 1); (case hx => rfl); (case hi => rfl); (case hT => decide +kernel); (case hu => rfl))
          | ((with_reducible apply wps_load S 2); (case hx => rfl); (case hi => rfl); (case hT => decide +kernel); (case hu => rfl))
          | ((with_reducible apply wps_load S 3); (case hx => rfl); (case hi => rfl); (case hT => decide +kernel); (case hu => rfl))
        go_ret
        exact ⟨_, _, [], rfl, ⟨.refl _, fun q r s x y z a b c _ _ h => by simp at h⟩, fun h => absurd h (by simp), S.pick [0] rfl⟩
      · have hi : Inhabited (Fin l.length) := ⟨⟨0, by omega⟩⟩
        have S1 := S.conv (enc' := fun (x : Fin l.length) => [finV x]) 0 rfl (List.finRange l.length) (by simp) (by rw [flat_fin, range_fin])
        simp only [List.set_cons_zero] at S1
        refine Calls.mono (sort1 (P := Try.prog) (ρ := sortInts_ren) (i := 0) (en := finV) sortInts (fun _ => rfl) (fun x y => Key.cmp (placeKey l x) (placeKey l y)) (swo_place l) 61 #[.pointer (some ⟨cb, 0, none⟩)] (fun _ _ => rfl) S1 rfl (by simp; omega) ?_) ?_
        · intro W hK x y
          obtain ⟨F1, h1⟩ := S1.beside (i := 0) rfl hK (j := 1) rfl (by decide)
          obtain ⟨F2, h2⟩ := S1.beside (i := 0) rfl hK (j := 2) rfl (by decide)
          exact (byid1_calls l x y cb _ W h1 h2).mono fun e w' ⟨he, hb⟩ => ⟨he, Grew.of_keep (Keep.of_below hb)⟩
        rintro e wz ⟨rfl, ys, hp, hs, S2⟩
        have S3 := S2.conv (enc' := natE) 0 rfl (ys.map (·.val)) (by simp) (flat_fin _ _)
        simp only [List.set_cons_zero] at S3
        have hps : Hid (Places l (ys.map (·.val))) := places_of hp (hs.imp fun {a b} h => by rw [ltOf_place] at h; exact h)
        clear hp hs S S1 S2
        go_wp2_with first
          | ((with_reducible refine tot_done ?ht ?_); (case ht => kernel_rfl))
          | ((with_reducible apply wps_load S 0); (case hx => rfl); (case hi => rfl); (case hT => decide +kernel); (case hu => rfl))
          | ((with_reducible apply wps_load S 1); (case hx => rfl); (case hi => rfl); (case hT => decide +kernel); (case hu => rfl))
          | ((with_reducible apply wps_load S 2); (case hx => rfl); (case hi => rfl); (case hT => decide +kernel); (case hu => rfl))
          | ((with_reducible apply wps_load S 3); (case hx => rfl); (case hi => rfl); (case hT => decide +kernel); (case hu => rfl))
        go_ret
        exact ⟨_, _, _, rfl, hps.out, fun _ => ⟨_, rfl⟩, S3.pick [0] rfl⟩
end Go.Proofs.Ytcbdacmdmaoegaa
