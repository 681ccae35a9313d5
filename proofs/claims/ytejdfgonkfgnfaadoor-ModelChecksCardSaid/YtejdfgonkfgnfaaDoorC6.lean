import Derived.Test.YtejdfgonkfgnfaaDoorC1
import Derived.Deep.Cut
/- The walks of the reference's Word, Kinds, Number. -/
namespace Go.Proofs.YtejdfgonkfgnfaaDoor
open Go Go.RowKit Reg Mem

def strE (s : ByteArray) : List Value := [.string s]
theorem strE_len : ∀ s, (strE s).length = 1 := fun _ => rfl
theorem strE_one : ∀ s, ∀ u ∈ strE s, u.oneCell' = true := fun s u hu => by simp [strE] at hu; subst hu; rfl
def wordsL : List ByteArray := [bytes [115, 101, 116], bytes [109, 111, 118, 101], bytes [97, 100, 100], bytes [115, 117, 98], bytes [109, 117, 108], bytes [109, 111, 100], bytes [108, 101, 115, 115], bytes [106, 117, 109, 112], bytes [122, 101, 114, 111], bytes [110, 111, 119], bytes [107, 105, 110, 100], bytes [100, 97, 116, 97], bytes [115, 101, 108, 102], bytes [115, 101, 110, 100], bytes [115, 116, 111, 112]]
def kindsL : List ByteArray := [bytes [99, 110], bytes [99, 99], bytes [99, 99, 99], bytes [99, 99, 99], bytes [99, 99, 99], bytes [99, 99, 99], bytes [99, 99, 99], bytes [112], bytes [99, 112], bytes [99], bytes [99], bytes [99], bytes [99], bytes [99, 99, 99, 107], bytes []]
set_option maxRecDepth 100000 in
theorem rword_calls (n : Nat) (s : ByteArray) (hs : wordsL[n]? = some s) (w : World) : Calls Tryd.prog 50 #[.int .i64 ((n : Int) + 1)] w fun r w' => r = .returned (.string s) ∧ Below w.heap.size w w' := by
  have S := St.init (fun _ => False) w
  have hn : n < 15 := (List.getElem?_eq_some_iff.1 hs).1
  have hn1 : (n : Int) < 15 := by omega
  have Hs := Lib.hid hs
  clear hs
  go_enter Tryd.func50, Tryd.ntmps50
  go_upto_region 4 with first
    | ((with_reducible apply wps_buildSlice (T := 100) (E := 9) (cs := #[.string (bytes [115, 101, 116]), .string (bytes [109, 111, 118, 101]), .string (bytes [97, 100, 100]), .string (bytes [115, 117, 98]), .string (bytes [109, 117, 108]), .string (bytes [109, 111, 100]), .string (bytes [108, 101, 115, 115]), .string (bytes [106, 117, 109, 112]), .string (bytes [122, 101, 114, 111]), .string (bytes [110, 111, 119]), .string (bytes [107, 105, 110, 100]), .string (bytes [100, 97, 116, 97]), .string (bytes [115, 101, 108, 102]), .string (bytes [115, 101, 110, 100]), .string (bytes [115, 116, 111, 112])]) S); (case hr => intro w; kernel_rfl); clear S; intro bz wz S)
  replace S := S.weak (i := 0) (A' := Sl true strE 1 (.slice (some ⟨bz, 0, none⟩) 15 15) wordsL) rfl (fun e => by cases e) (fun F h => ⟨F, fun _ hb => hb, blk_sl wordsL strE_len h rfl rfl⟩)
  simp only [List.set_cons_zero] at S
  go_wp2_with first
    | go_skip
    | ((with_reducible refine wpList_skip ?hw ?_); (case hw => with_unfolding_all rfl); simp only [Act.put, List.setIfInBounds_toArray, List.set_cons_succ, List.set_cons_zero])
    | ((with_reducible apply wps_load_el S 0 (hj := Hs.out) (q := 0) (u := (.string s))); (case hx => rfl); (case hi => rfl); (case hn => omega); (case hT => decide +kernel); (case hu => rfl))
    | ((with_reducible refine tot_done ?ht ?_); (case ht => kernel_rfl))
    | ((with_reducible apply wps_load S 0); (case hx => rfl); (case hi => rfl); (case hT => decide +kernel); (case hu => rfl))
  go_ret
  exact ⟨by simp, S.below⟩
set_option maxRecDepth 100000 in
theorem rword_not (op : Int) (h : ¬ (1 ≤ op ∧ op ≤ 15)) (w : World) : Calls Tryd.prog 50 #[.int .i64 op] w fun r w' => r = .returned (.string ⟨#[]⟩) ∧ Below w.heap.size w w' := by
  have S := St.init (fun _ => False) w
  by_cases h1 : op < 1
  · go_enter Tryd.func50, Tryd.ntmps50
    go_wp2_with first
      | go_skip
      | ((with_reducible refine wpList_skip ?hw ?_); (case hw => with_unfolding_all rfl); simp only [Act.put, List.setIfInBounds_toArray, List.set_cons_succ, List.set_cons_zero])
      | ((with_reducible refine tot_done ?ht ?_); (case ht => kernel_rfl))
      | ((with_reducible apply wps_load S 0); (case hx => rfl); (case hi => rfl); (case hT => decide +kernel); (case hu => rfl))
    go_ret
    exact ⟨by simp, S.below⟩
  · have h2 : 15 < op := by omega
    go_enter Tryd.func50, Tryd.ntmps50
    go_wp2_with first
      | go_skip
      | ((with_reducible refine wpList_skip ?hw ?_); (case hw => with_unfolding_all rfl); simp only [Act.put, List.setIfInBounds_toArray, List.set_cons_succ, List.set_cons_zero])
      | ((with_reducible refine tot_done ?ht ?_); (case ht => kernel_rfl))
      | ((with_reducible apply wps_load S 0); (case hx => rfl); (case hi => rfl); (case hT => decide +kernel); (case hu => rfl))
    go_ret
    exact ⟨by simp, S.below⟩
set_option maxRecDepth 100000 in
theorem rkinds_calls (n : Nat) (s : ByteArray) (hs : kindsL[n]? = some s) (w : World) : Calls Tryd.prog 51 #[.int .i64 ((n : Int) + 1)] w fun r w' => r = .returned (.string s) ∧ Below w.heap.size w w' := by
  have S := St.init (fun _ => False) w
  have hn : n < 15 := (List.getElem?_eq_some_iff.1 hs).1
  have hn1 : (n : Int) < 15 := by omega
  have Hs := Lib.hid hs
  clear hs
  go_enter Tryd.func51, Tryd.ntmps51
  go_upto_region 4 with first
    | ((with_reducible apply wps_buildSlice (T := 100) (E := 9) (cs := #[.string (bytes [99, 110]), .string (bytes [99, 99]), .string (bytes [99, 99, 99]), .string (bytes [99, 99, 99]), .string (bytes [99, 99, 99]), .string (bytes [99, 99, 99]), .string (bytes [99, 99, 99]), .string (bytes [112]), .string (bytes [99, 112]), .string (bytes [99]), .string (bytes [99]), .string (bytes [99]), .string (bytes [99]), .string (bytes [99, 99, 99, 107]), .string (bytes [])]) S); (case hr => intro w; kernel_rfl); clear S; intro bz wz S)
  replace S := S.weak (i := 0) (A' := Sl true strE 1 (.slice (some ⟨bz, 0, none⟩) 15 15) kindsL) rfl (fun e => by cases e) (fun F h => ⟨F, fun _ hb => hb, blk_sl kindsL strE_len h rfl rfl⟩)
  simp only [List.set_cons_zero] at S
  go_wp2_with first
    | go_skip
    | ((with_reducible refine wpList_skip ?hw ?_); (case hw => with_unfolding_all rfl); simp only [Act.put, List.setIfInBounds_toArray, List.set_cons_succ, List.set_cons_zero])
    | ((with_reducible apply wps_load_el S 0 (hj := Hs.out) (q := 0) (u := (.string s))); (case hx => rfl); (case hi => rfl); (case hn => omega); (case hT => decide +kernel); (case hu => rfl))
    | ((with_reducible refine tot_done ?ht ?_); (case ht => kernel_rfl))
    | ((with_reducible apply wps_load S 0); (case hx => rfl); (case hi => rfl); (case hT => decide +kernel); (case hu => rfl))
  go_ret
  exact ⟨by simp, S.below⟩
set_option maxRecDepth 100000 in
theorem rkinds_not (op : Int) (h : ¬ (1 ≤ op ∧ op ≤ 15)) (w : World) : Calls Tryd.prog 51 #[.int .i64 op] w fun r w' => r = .returned (.string ⟨#[]⟩) ∧ Below w.heap.size w w' := by
  have S := St.init (fun _ => False) w
  by_cases h1 : op < 1
  · go_enter Tryd.func51, Tryd.ntmps51
    go_wp2_with first
      | go_skip
      | ((with_reducible refine wpList_skip ?hw ?_); (case hw => with_unfolding_all rfl); simp only [Act.put, List.setIfInBounds_toArray, List.set_cons_succ, List.set_cons_zero])
      | ((with_reducible refine tot_done ?ht ?_); (case ht => kernel_rfl))
      | ((with_reducible apply wps_load S 0); (case hx => rfl); (case hi => rfl); (case hT => decide +kernel); (case hu => rfl))
    go_ret
    exact ⟨by simp, S.below⟩
  · have h2 : 15 < op := by omega
    go_enter Tryd.func51, Tryd.ntmps51
    go_wp2_with first
      | go_skip
      | ((with_reducible refine wpList_skip ?hw ?_); (case hw => with_unfolding_all rfl); simp only [Act.put, List.setIfInBounds_toArray, List.set_cons_succ, List.set_cons_zero])
      | ((with_reducible refine tot_done ?ht ?_); (case ht => kernel_rfl))
      | ((with_reducible apply wps_load S 0); (case hx => rfl); (case hi => rfl); (case hT => decide +kernel); (case hu => rfl))
    go_ret
    exact ⟨by simp, S.below⟩
/-- The number at a place. -/
def numb (x : Instr) : Nat → Int
  | 0 => x.a
  | 1 => x.b
  | 2 => x.c
  | _ => x.d
def ask (s : State) : Nat → Int
  | 0 => s.n0
  | 1 => s.n1
  | 2 => s.n2
  | _ => s.n3
set_option maxRecDepth 100000 in
theorem rnumber_calls (x : Instr) (j : Nat) (hj : j < 4) (w : World) : Calls Tryd.prog 52 #[.agg #[.int .i64 x.op, .int .i64 x.a, .int .i64 x.b, .int .i64 x.c, .int .i64 x.d], .int .i64 j] w fun r w' => r = .returned (.int .i64 (numb x j)) ∧ Below w.heap.size w w' := by
  have S := St.init (fun _ => False) w
  obtain rfl | rfl | rfl | rfl : j = 0 ∨ j = 1 ∨ j = 2 ∨ j = 3 := by omega
  all_goals
    go_enter Tryd.func52, Tryd.ntmps52
    go_wp2_with first
      | ((with_reducible refine tot_done ?ht ?_); (case ht => kernel_rfl))
      | ((with_reducible apply wps_boxa S); (case hx => rfl); clear S; intro bz wz S)
      | ((with_reducible apply wps_box1 (v := .int _ _) S); (case hx => rfl); (case h1 => rfl); clear S; intro bz wz S)
      | ((with_reducible apply wps_box1 (v := .bool _) S); (case hx => rfl); (case h1 => rfl); clear S; intro bz wz S)
      | ((with_reducible apply wps_box1 (v := .slice _ _ _) S); (case hx => rfl); (case h1 => rfl); clear S; intro bz wz S)
      | ((with_reducible apply wps_box1 (v := .pointer _) S); (case hx => rfl); (case h1 => rfl); clear S; intro bz wz S)
      | ((with_reducible apply wps_box1 (v := .map _) S); (case hx => rfl); (case h1 => rfl); clear S; intro bz wz S)
      | ((with_reducible apply wps_box1 (v := .string _) S); (case hx => rfl); (case h1 => rfl); clear S; intro bz wz S)
      | ((with_reducible apply wps_box1 (v := .func _ _ _) S); (case hx => rfl); (case h1 => rfl); clear S; intro bz wz S)
      | ((with_reducible apply wps_load S 0); (case hx => rfl); (case hi => rfl); (case hT => decide +kernel); (case hu => rfl))
    go_ret
    exact ⟨by simp [numb], S.below⟩
end Go.Proofs.YtejdfgonkfgnfaaDoor
