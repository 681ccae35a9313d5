import Derived.Test.YtnkngclfbmcmhaaW10b
namespace Go.Proofs.Ytnkngclfbmcmhaa
open Go.RowKit Reg Mem

set_option maxHeartbeats 2000000 in
set_option maxRecDepth 100000 in
theorem order_calls (sv : Value) (l : List Key) (w : World) (hl : KeysAt w sv l) : Calls Try.prog 3 #[sv] w fun e w' => e = .returned (.bool true) ∧ Below w.heap.size w w' := by
  obtain ⟨a0, c0, rfl, hk⟩ := hl
  have HK := Lib.hid hk
  clear hk
  have HN := Lib.hid (hs_new w.heap.size w (Nat.le_refl _))
  go_enter Try.func3, Try.ntmps3
  go_wp2_with fail
  refine HN.out.mono ?_
  rintro e w1 ⟨rfl, h1, hb1⟩
  have HB1 := Lib.hid hb1
  have HA1 := Lib.hid h1
  have HN2 := Lib.hid (hs_new w.heap.size w1 hb1.size)
  clear h1 hb1 HN
  go_wp2_with fail
  refine HN2.out.mono ?_
  rintro e w2 ⟨rfl, h2, hb2⟩
  have HB2 := Lib.hid (HB1.out.trans (hb2.mono HB1.out.size))
  have HA2 := Lib.hid (HA1.out.keep (Keep.of_below (S := fun _ => False) hb2) (fun _ _ => id))
  have HC2 := Lib.hid h2
  have HD2 := Lib.hid (fun x hx => (HA1.out.bound x hx).2)
  clear h2 hb2 HN2
  by_cases hbig : 60 < l.length
  · generalize l.length = n at *
    have hbig2 : 60 < (n : Int) := by omega
    go_wp2_with fail
    refine (awake_calls _).mono ?_
    rintro e w3 ⟨rfl, hb3⟩
    have HB3 := Lib.hid (HB2.out.trans (hb3.mono HB2.out.size))
    clear hb3
    go_wp2_with fail
    go_ret
    exact ⟨rfl, HB3.out⟩
  · obtain ⟨Ba, hBa⟩ : ∃ Ba, Ba = w.heap.size + 1 := ⟨_, rfl⟩
    obtain ⟨Bb, hBb⟩ : ∃ Bb, Bb = w1.heap.size + 1 := ⟨_, rfl⟩
    rw [← hBa] at HA1 HA2
    rw [← hBb] at HC2
    rw [← hBa, ← hBb]
    have hs60 : l.length ≤ 60 := by omega
    generalize hn : l.length = n at *
    have hle : (n : Int) ≤ 60 := by omega
    have HLN := Lib.hid hn
    clear hn hBa hBb hbig
    go_wp2_with fail
    go_loopw [5, 6] (fun n i wr => PushRel l Ba Bb w n i wr) (fun _ i _ => n - (intOf i).toNat)
    case atStart =>
      exact ⟨0, [], _, _, rfl, rfl, by omega, HA2.out, HC2.out, fun x hx hy => by have := HD2.out x hx; have := hy.1; omega, HB2.out, by simp, by simp⟩
    case round =>
      obtain ⟨k, s, Fa, Fb, rfl, rfl, hk, hA, hB, hd, hb, hgood, hlen⟩ := hrel
      have HBL := Lib.hid hb
      have HG := Lib.hid hgood
      have HLE := Lib.hid hlen
      have HHA := Lib.hid hA
      have HHB := Lib.hid hB
      have HDJ := Lib.hid hd
      by_cases hkn : k < n
      · have hkn2 : (k : Int) < n := by omega
        obtain ⟨key, hkey⟩ : ∃ key, l[k]? = some key := ⟨_, List.getElem?_eq_getElem (by rw [HLN.out]; exact hkn)⟩
        obtain ⟨R, o, rfl, hc⟩ := HK.out k key hkey
        obtain ⟨a, b, c, d⟩ := key
        have hcw : ∀ j u, (Key.cells ⟨a, b, c, d⟩)[j]? = some u → R < w.heap.size := fun j u h => World.block_lt_of_cell? w _ (hc j u h)
        have hRl : R < w.heap.size := hcw 0 _ rfl
        have cells : ∀ W, Below w.heap.size w W → W.cell? ⟨R, o + k * 4, none⟩ = some (.int .i64 a) ∧ W.cell? ⟨R, o + k * 4 + 1, none⟩ = some (.int .i64 b) ∧ W.cell? ⟨R, o + k * 4 + 2, none⟩ = some (.int .i64 c) ∧ W.cell? ⟨R, o + k * 4 + 3, none⟩ = some (.int .i64 d) := fun W hW =>
          ⟨(hW.cell (p := ⟨R, o + k * 4, none⟩) hRl).trans (hc 0 _ rfl), (hW.cell (p := ⟨R, o + k * 4 + 1, none⟩) hRl).trans (hc 1 _ rfl), (hW.cell (p := ⟨R, o + k * 4 + 2, none⟩) hRl).trans (hc 2 _ rfl), (hW.cell (p := ⟨R, o + k * 4 + 3, none⟩) hRl).trans (hc 3 _ rfl)⟩
        have HCL := Lib.hid cells
        obtain ⟨k0, k1, k2, k3⟩ := cells wr hb
        have HPA := Lib.hid (hs_push w.heap.size Fa Ba s a b c d k wr hA (by omega) hb.size)
        have hkl : (k : Int) ≤ 60 := by omega
        have hsl : (s.length : Int) ≤ 60 := by omega
        generalize hsn : s.length = sn at *
        have HSN := Lib.hid hsn
        have HKEY := Lib.hid hkey
        clear hc hcw cells hA hB hd hb hgood hlen hkey hsn hk
        go_wp2_with fail
        refine HPA.out.mono ?_
        rintro e w4 ⟨rfl, Fa4, h4, hk4, hf4⟩
        have HB4 := Lib.hid (below_keep HBL.out hk4 (fun x hx => (HHA.out.bound x hx).1))
        have hHB4 := HHB.out.keep hk4 (fun x hx hy => HDJ.out x hy hx)
        have HPB := Lib.hid (hs_push w.heap.size Fb Bb s a b c d k w4 hHB4 (by rw [HSN.out]; omega) HB4.out.size)
        have HA4 := Lib.hid h4
        have HBB4 := Lib.hid hHB4
        have HF4 := Lib.hid hf4
        have hsz4 := hk4.size
        clear k0 k1 k2 k3 h4 hk4 hf4 hHB4 HPA
        obtain ⟨k0, k1, k2, k3⟩ := HCL.out w4 HB4.out
        go_wp2_with fail
        refine HPB.out.mono ?_
        rintro e w5 ⟨rfl, Fb5, h5, hk5, hf5⟩
        have HB5 := Lib.hid (below_keep HB4.out hk5 (fun x hx => (HBB4.out.bound x hx).1))
        have hHA5 := HA4.out.keep hk5 (fun x hx hy => by
          rcases HF4.out x hx with h | h
          · exact HDJ.out x h hy
          · have := (HHB.out.bound x hy).2; omega)
        have HA5 := Lib.hid hHA5
        have HBB5 := Lib.hid h5
        have HDJ5 : Hid (∀ x, Fa4 x → ¬ Fb5 x) := Lib.hid fun x hx hy => by
          rcases hf5 x hy with h | h
          · rcases HF4.out x hx with h' | h'
            · exact HDJ.out x h' h
            · have := (HHB.out.bound x h).2; omega
          · have := (HA4.out.bound x hx).2; omega
        clear k0 k1 k2 k3 h5 hk5 hf5 hHA5 HPB
        by_cases hin : (⟨a, b, c, d⟩ : Key) ∈ s.map (·.key)
        · have e1 : PushAns s ⟨⟨a, b, c, d⟩, k⟩ = 13 := by rw [PushAns, if_pos hin]
          have e2 : pushed s ⟨⟨a, b, c, d⟩, k⟩ = s := by rw [pushed, if_pos hin]
          rw [e1]
          rw [e2] at HA5 HBB5
          clear hin e1 e2
          go_wp2_with fail
          go_roundw
          case rel =>
            refine ⟨k + 1, s, Fa4, Fb5, by rw [HSN.out], by go_num, by rw [HLN.out]; omega, HA5.out, HBB5.out, HDJ5.out, HB5.out, fun r hr => ?_, by rw [HSN.out]; have := HLE.out; omega⟩
            obtain ⟨j, h1, h2, h3⟩ := HG.out r hr
            exact ⟨j, by omega, h2, h3⟩
          case measure => simp [intOf]; omega
        · have e1 : PushAns s ⟨⟨a, b, c, d⟩, k⟩ = 0 := by rw [PushAns, if_neg hin]
          have e2 : pushed s ⟨⟨a, b, c, d⟩, k⟩ = ins ⟨⟨a, b, c, d⟩, k⟩ s := by rw [pushed, if_neg hin]
          rw [e1]
          rw [e2] at HA5 HBB5
          clear hin e1 e2
          go_wp2_with fail
          go_roundw
          case rel =>
            refine ⟨k + 1, _, Fa4, Fb5, by rw [ins_length, HSN.out]; go_num, by go_num, by rw [HLN.out]; omega, HA5.out, HBB5.out, HDJ5.out, HB5.out, fun r hr => ?_, by rw [ins_length, HSN.out]; have := HLE.out; omega⟩
            rcases List.mem_cons.1 ((ins_perm _ _).mem_iff.1 hr) with rfl | hr
            · exact ⟨k, by omega, rfl, HKEY.out⟩
            · obtain ⟨j, h1, h2, h3⟩ := HG.out r hr
              exact ⟨j, by omega, h2, h3⟩
          case measure => simp [intOf]; omega
      · obtain rfl : n = k := by have := HLN.out; omega
        have hsl : (s.length : Int) ≤ 60 := by omega
        have hsl2 : s.length ≤ 60 := by omega
        clear hkn hA hB hd hb hgood hlen hk
        have hmk := run_make_row' (P := Try.prog) 30 4 (.bool false) 1 Try.underlying30 (by kernel_rfl) rfl .i64 .i64 n (by omega) (by omega)
        generalize hsn : s.length = sn at *
        have HSN := Lib.hid hsn
        clear hsn
        go_wp2_with fail
        obtain ⟨wp, rfl⟩ : ∃ wp : World, wp = wr := ⟨_, rfl⟩
        go_loopw [11, 12, 126] (fun all i u wr' => PopRel w.heap.size l Ba Bb wp.heap.size s Fa Fb w all i u wr') (fun _ i _ _ => sn - (intOf i).toNat)
        case atStart =>
          have hKa := ((Keep.refl (fun _ => False) wp).alloc (.cells (madeCells #[.bool false] n) 4)).alloc (.cells #[.int .i64 0, .int .i64 0, .int .i64 0, .int .i64 0] 29)
          have hs2 := heap_alloc_new (wp.alloc (.cells (madeCells #[.bool false] n) 4)) (.cells #[.int .i64 0, .int .i64 0, .int .i64 0, .int .i64 0] 29)
          rw [World.size_alloc] at hs2
          refine ⟨0, List.replicate n false, ⟨0, 0, 0, 0⟩, rfl, fun _ => rfl, by omega, HHA.out.keep hKa (fun _ _ => id), HHB.out.keep hKa (fun _ _ => id), ⟨rfl, .inl ⟨rfl, rfl⟩⟩, ?_, by simp [HLN.out], fun j hj => ?_, hs2, fun h => by omega, below_keep HBL.out hKa (fun _ h => h.elim)⟩
          · rw [Below.heap_alloc _ _ _ (by simp)]
            rw [← made_bools]
            exact heap_alloc_new wp _
          · rw [List.getElem?_replicate] at hj
            split at hj <;> cases hj
        case round =>
          obtain ⟨k, bs, kk, rfl, hu, hk, hA, hB, hO, hS, hSl, hSb, hLb, hLk, hb⟩ := hrel
          have HA := Lib.hid hA
          have HB := Lib.hid hB
          have HO := Lib.hid hO
          have HS9 := Lib.hid hS
          have HSL := Lib.hid hSl
          have HSB := Lib.hid hSb
          have HLB := Lib.hid hLb
          have HLK := Lib.hid hLk
          have HBW := Lib.hid hb
          have h9l := (Array.getElem?_eq_some_iff.1 hS).1
          have h10l := (Array.getElem?_eq_some_iff.1 hLb).1
          by_cases hks : k < sn
          · have hks2 : (k : Int) < sn := by omega
            obtain ⟨r, hr⟩ : ∃ r, s[k]? = some r := ⟨_, List.getElem?_eq_getElem (by rw [HSN.out]; exact hks)⟩
            obtain ⟨hr1, hr2⟩ := List.getElem?_eq_some_iff.1 hr
            have hdrop : s.drop k = r :: s.drop (k + 1) := by rw [← hr2]; exact List.drop_eq_getElem_cons hr1
            obtain ⟨j, hjn, hjv, hjl⟩ := HG.out r (List.mem_of_getElem? hr)
            have hjb : bs[j]? = some false := by
              obtain ⟨y, hy⟩ : ∃ y, bs[j]? = some y := ⟨_, List.getElem?_eq_getElem (by rw [hSl, HLN.out]; exact hjn)⟩
              cases y with
              | false => exact hy
              | true =>
                exfalso
                obtain ⟨r', hr', hv'⟩ := hSb j hy
                obtain ⟨j', _, hj2, hj3⟩ := HG.out r' (List.mem_of_mem_take hr')
                obtain rfl : j' = j := by omega
                rw [hjl] at hj3
                exact take_ne HHB.out.sorted hr r' hr' (Option.some.inj hj3)
            have HR := Lib.hid hr
            have HJB := Lib.hid hjb
            have HJL := Lib.hid hjl
            obtain ⟨⟨a, b, c, d⟩, x⟩ := r
            obtain rfl : x = (j : Int) := hjv
            rw [hdrop] at hA
            have HPOP : Hid (Calls Try.prog 12 #[.pointer (some ⟨Ba, 0, none⟩)] wr fun e w' => e = .returned (.tuple #[.agg #[.int .i64 a, .int .i64 b, .int .i64 c, .int .i64 d], .int .i64 j, .int .i64 0]) ∧ HKept w.heap.size Fa Ba wr (s.drop (k + 1)) w') :=
              Lib.hid (hs_pop _ _ _ _ wr hA (by rw [← hdrop, List.length_drop, HSN.out]; omega))
            have h9n : ∀ F : Nat → Prop, HS w.heap.size F wp 0 [] → True := fun _ _ => trivial
            have HNA : Hid (¬ Fa wp.heap.size ∧ ¬ Fa (wp.heap.size + 1)) := Lib.hid ⟨fun h => by have := (HHA.out.bound _ h).2; omega, fun h => by have := (HHA.out.bound _ h).2; omega⟩
            obtain ⟨R, o, rfl, hc⟩ := HK.out j _ hjl
            have hcw : ∀ j' u, (Key.cells ⟨a, b, c, d⟩)[j']? = some u → R < w.heap.size := fun j' u h => World.block_lt_of_cell? w _ (hc j' u h)
            have hRl : R < w.heap.size := hcw 0 _ rfl
            have cells : ∀ W, Below w.heap.size w W → W.cell? ⟨R, o + j * 4, none⟩ = some (.int .i64 a) ∧ W.cell? ⟨R, o + j * 4 + 1, none⟩ = some (.int .i64 b) ∧ W.cell? ⟨R, o + j * 4 + 2, none⟩ = some (.int .i64 c) ∧ W.cell? ⟨R, o + j * 4 + 3, none⟩ = some (.int .i64 d) := fun W hW =>
              ⟨(hW.cell (p := ⟨R, o + j * 4, none⟩) hRl).trans (hc 0 _ rfl), (hW.cell (p := ⟨R, o + j * 4 + 1, none⟩) hRl).trans (hc 1 _ rfl), (hW.cell (p := ⟨R, o + j * 4 + 2, none⟩) hRl).trans (hc 2 _ rfl), (hW.cell (p := ⟨R, o + j * 4 + 3, none⟩) hRl).trans (hc 3 _ rfl)⟩
            have HCL := Lib.hid cells
            have hjn2 : (j : Int) < n := by omega
            have hj0 : 0 ≤ (j : Int) := by omega
            clear hcw hc cells hjb hjl hr hr1 hr2 hdrop hA hB hO hS hSl hSb hLb hLk hb h9n
            go_wp2_with fail
            refine HPOP.out.mono ?_
            rintro e w4 ⟨rfl, hA4, hK4⟩
            have hB4 := below_keep HBW.out hK4 (fun x hx => (HHA.out.bound x hx).1)
            obtain ⟨k0, k1, k2, k3⟩ := HCL.out w4 hB4
            have h9 := hK4.heap HS9.out HNA.out.1
            have h10 := hK4.heap HLB.out HNA.out.2
            have hbool : w4.cell? ⟨wp.heap.size, j, none⟩ = some (.bool false) := by
              rw [cell_of h9]
              simp [HJB.out, boolE]
            obtain ⟨l0, l1, l2, l3, lf⟩ := four h10
            have hfz : ∀ o, w4.frozen? ⟨wp.heap.size, o, none⟩ = false := fun o => frozen_of h9 o
            have hsz4 := hK4.size
            have HA4 := Lib.hid hA4
            have HK4 := Lib.hid hK4
            have HB4 := Lib.hid hB4
            have H94 := Lib.hid h9
            have H104 := Lib.hid h10
            have hR4 : R < w4.heap.size := by have := hB4.size; omega
            have h94 : wp.heap.size < w4.heap.size := by omega
            have h104 : wp.heap.size + 1 < w4.heap.size := by omega
            clear hA4 hK4 hB4 h9 h10 HPOP
            have hlO := own_bound HO.out
            have HOB := Lib.hid hlO
            have hmx : ((s.take k).map (·.v)).length + 1 ≤ maxLen := by simp [maxLen]; omega
            have hby : (((s.take k).map (·.v)).length + 1) * 8 ≤ 140737488355328 := by simp; omega
            have HSK := Lib.hid (take_snoc HR.out)
            have HB4' := Lib.hid (HB.out.keep HK4.out (fun x hx hy => HDJ.out x hy hx))
            have HO4 := Lib.hid (HO.out.keep HK4.out (fun x e hx => by have h1 := (HOB.out x e).2; have h2 := (HHA.out.bound x hx).2; omega))
            clear hlO
            by_cases hk0 : k = 0
            · subst hk0
              obtain rfl := hu rfl
              go_wp2_with first
                | ((with_reducible refine tot_done ?ht ?_); (case ht => kernel_rfl))
                | ((with_reducible refine wp_region_text ?hm ?hb ?_); (case hm => kernel_rfl); (case hb => decide +kernel))
                | ((with_reducible refine wpList_append (v := u11) (sv := .slice (some ⟨w4.heap.size + 1, 0, none⟩) 1 1) (lo := wp.heap.size + 2) (xs := (s.take 0).map (·.v)) (ys := [(j : Int)]) elemInt intE_len intE_one ?hO ?hr hmx hby ?hlo ?hx ?hy ?_); (case hx => rfl); (case hy => rfl))
              case hO => exact HO4.out.keep (((((chain_keep w4 wp.heap.size (wp.heap.size + 1) j a b c d).alloc _).alloc _).drew)) (fun x e hx => by have := (HOB.out x e).2; omega)
              case hr =>
                have := heap_alloc_new ((((((w4.setCell ⟨wp.heap.size, j, none⟩ (.bool true)).setCell ⟨wp.heap.size + 1, 0, none⟩ (.int .i64 a)).setCell ⟨wp.heap.size + 1, 1, none⟩ (.int .i64 b)).setCell ⟨wp.heap.size + 1, 2, none⟩ (.int .i64 c)).setCell ⟨wp.heap.size + 1, 3, none⟩ (.int .i64 d)).alloc (.cells #[.int .i64 a, .int .i64 b, .int .i64 c, .int .i64 d] 29)) (.cells #[.int .i64 j] 3)
                simp only [World.size_alloc, World.size_setCell] at this
                exact int_rd (E := 3) this
              case hlo => simp; omega
              intro v' w6 hO6 hK6 hv6
              go_wp2_with first
                | ((with_reducible refine tot_done ?ht ?_); (case ht => rfl))
              go_roundw
              case rel =>
                exact pop_next HA4.out HB4'.out HO4.out (fun x hx => (HHA.out.bound x hx).2) (fun x hx => (HHB.out.bound x hx).2) HBL.out.size HB4.out H94.out H104.out ((((Keep.refl _ _).alloc _).alloc _).drew) hK6 hO6 HR.out HSL.out HSB.out
              case measure => simp [intOf]; omega
            · have hk1 : 0 < (k : Int) := by omega
              obtain ⟨pr, hpr⟩ : ∃ pr, s[k - 1]? = some pr := ⟨_, List.getElem?_eq_getElem (by rw [HSN.out]; omega)⟩
              have hkk := HLK.out (by omega) pr hpr
              have HCMP : Hid (Key.cmp ⟨kk.at_, kk.src, kk.sent, kk.no⟩ ⟨a, b, c, d⟩ = -1) := Lib.hid (by
                have := cmp_nonneg (sorted_lt HHB.out.sorted (show k - 1 < k by omega) hpr HR.out)
                rw [← hkk] at this
                exact this)
              clear hpr hkk hu
              go_wp2_with first
                | ((with_reducible refine tot_done ?ht ?_); (case ht => rfl))
                | ((with_reducible refine wp_region_text ?hm ?hb ?_); (case hm => kernel_rfl); (case hb => decide +kernel))
              refine (compare_calls _ _ _ _ _ _ _ _ _).mono ?_
              rintro e w5 ⟨rfl, hb5⟩
              rw [HCMP.out]
              have hKc : Keep (fun _ => False) w4 w5 := (((Keep.refl _ w4).alloc _).drew).trans (Keep.of_below (S := fun _ => False) hb5) (fun _ _ h => ⟨h, h⟩)
              have h95 := hKc.heap H94.out id
              have h105 := hKc.heap H104.out id
              have h135 : w5.heap[w4.heap.size]? = some (.cells #[.int .i64 a, .int .i64 b, .int .i64 c, .int .i64 d] 29 (0, 0)) := (hb5.block _ (by simp)).trans (heap_alloc_new w4 (.cells #[.int .i64 a, .int .i64 b, .int .i64 c, .int .i64 d] 29))
              have HA5 := Lib.hid (HA4.out.keep hKc (fun _ _ => id))
              have HB5 := Lib.hid (HB4'.out.keep hKc (fun _ _ => id))
              have HO5 := Lib.hid (HO4.out.keep hKc (fun _ _ => id))
              have HBW5 := Lib.hid (below_keep HB4.out hKc (fun _ h => h.elim))
              have H95 := Lib.hid h95
              have H105 := Lib.hid h105
              have hbool5 : w5.cell? ⟨wp.heap.size, j, none⟩ = some (.bool false) := by
                rw [cell_of h95]
                simp [HJB.out, boolE]
              have hfz5 : ∀ o, w5.frozen? ⟨wp.heap.size, o, none⟩ = false := fun o => frozen_of h95 o
              have hsz5 := hKc.size
              have n1 : w4.heap.size ≠ wp.heap.size := by omega
              have n2 : w4.heap.size ≠ wp.heap.size + 1 := by omega
              clear l0 l1 l2 l3 lf k0 k1 k2 k3 hbool hfz
              obtain ⟨l0, l1, l2, l3, lf⟩ := four h105
              obtain ⟨k0, k1, k2, k3, _⟩ := four h135
              clear hb5 hKc h95 h105 h135
              go_wp2_with first
                | ((with_reducible refine tot_done ?ht ?_); (case ht => kernel_rfl))
                | ((with_reducible refine wp_region_text ?hm ?hb ?_); (case hm => kernel_rfl); (case hb => decide +kernel))
                | ((with_reducible refine wpList_append (v := u11) (sv := .slice (some ⟨w5.heap.size, 0, none⟩) 1 1) (lo := wp.heap.size + 2) (xs := (s.take k).map (·.v)) (ys := [(j : Int)]) elemInt intE_len intE_one ?hO ?hr hmx hby ?hlo ?hx ?hy ?_); (case hx => rfl); (case hy => rfl))
              case hO => exact HO5.out.keep (((chain_keep w5 wp.heap.size (wp.heap.size + 1) j a b c d).alloc _)) (fun x e hx => by have := (HOB.out x e).2; omega)
              case hr =>
                have := heap_alloc_new (((((w5.setCell ⟨wp.heap.size, j, none⟩ (.bool true)).setCell ⟨wp.heap.size + 1, 0, none⟩ (.int .i64 a)).setCell ⟨wp.heap.size + 1, 1, none⟩ (.int .i64 b)).setCell ⟨wp.heap.size + 1, 2, none⟩ (.int .i64 c)).setCell ⟨wp.heap.size + 1, 3, none⟩ (.int .i64 d)) (.cells #[.int .i64 j] 3)
                simp only [World.size_setCell] at this
                exact int_rd (E := 3) this
              case hlo => simp; omega
              intro v' w6 hO6 hK6 hv6
              go_wp2_with first
                | ((with_reducible refine tot_done ?ht ?_); (case ht => rfl))
              go_roundw
              case rel =>
                exact pop_next HA5.out HB5.out HO5.out (fun x hx => (HHA.out.bound x hx).2) (fun x hx => (HHB.out.bound x hx).2) HBL.out.size HBW5.out H95.out H105.out ((Keep.refl _ _).alloc _) hK6 hO6 HR.out HSL.out HSB.out
              case measure => simp [intOf]; omega
          · obtain rfl : k = sn := by have := HSN.out; omega
            have hdr : s.drop k = [] := List.drop_eq_nil_of_le (by have := HSN.out; omega)
            rw [hdr] at hA
            have HPOP : Hid (Calls Try.prog 12 #[.pointer (some ⟨Ba, 0, none⟩)] wr fun e w' => e = .returned (.tuple #[.agg #[.int .i64 0, .int .i64 0, .int .i64 0, .int .i64 0], .int .i64 0, .int .i64 14]) ∧ HKept w.heap.size Fa Ba wr [] w') :=
              Lib.hid (hs_pop _ _ _ _ wr hA (by simp))
            clear hA hB hO hS hSl hSb hLb hLk hb hk hu
            go_wp2_with fail
            refine HPOP.out.mono ?_
            rintro e w4 ⟨rfl, hA4, hK4⟩
            have hB4 := below_keep HBW.out hK4 (fun x hx => (HHA.out.bound x hx).1)
            have HB4 := Lib.hid hB4
            have HBB4 := Lib.hid (HB.out.keep hK4 (fun x hx hy => HDJ.out x hy hx))
            have hOb := own_bound HO.out
            have HOB := Lib.hid hOb
            have HO4 := Lib.hid (HO.out.keep hK4 (fun x e hx => by have h1 := (hOb x e).2; have h2 := (HHA.out.bound x hx).2; omega))
            have hsz4 : wp.heap.size ≤ w4.heap.size := by have := hK4.size; omega
            clear hA4 hK4 hB4 hOb HPOP
            go_wp2_with fail
            obtain ⟨wq, rfl⟩ : ∃ wq : World, wq = wr := ⟨_, rfl⟩
            have hFb9 : ∀ x, Fb x → x < wp.heap.size := fun x hx => (HHB.out.bound x hx).2
            have HFB := Lib.hid hFb9
            have hst : (s.take k).map (·.v) = s.map (·.v) := by rw [List.take_of_length_le (by have := HSN.out; omega)]
            rw [hst] at HO4
            clear hst hFb9
            go_loopw [19, 20, 21] (fun other t i wr' => BatRel w.heap.size Bb w4.heap.size s Fb w w4 other t i wr') (fun _ _ i _ => k - (intOf i).toNat)
            case atStart =>
              have hKa := (Keep.refl (fun _ => False) w4).alloc (.cells #[.int .i64 0, .int .i64 0, .int .i64 0, .int .i64 0] 29)
              exact ⟨0, 0, 0, rfl, rfl, by omega, by omega, by omega, fun _ => rfl, fun h => by omega, HBB4.out.keep hKa (fun _ _ => id), ⟨rfl, .inl ⟨rfl, rfl⟩⟩, hKa.mono (fun _ _ _ => id), below_keep HB4.out hKa (fun _ h => h.elim)⟩
            case round =>
              obtain ⟨q, c, tm, rfl, rfl, hqc, hcs, hqs, hq0, htm, hB, hO, hKq, hb⟩ := hrel
              have HBq := Lib.hid hB
              have HOq := Lib.hid hO
              have HKq := Lib.hid hKq
              have HBWq := Lib.hid hb
              have HTM := Lib.hid htm
              have HQ0 := Lib.hid hq0
              have HLEN := Lib.hid (fun w' (hK : Keep (fun _ => False) wr w') => hs_len _ _ _ _ w' (hB.keep hK (fun _ _ => id)))
              have hsl3 : ((s.drop c).length : Int) ≤ 60 := by rw [List.length_drop, HSN.out]; omega
              rw [HSN.out] at hcs hqs
              cases hdr : s.drop c with
              | nil =>
                have hc : c = k := by have := congrArg List.length hdr; rw [List.length_drop, HSN.out] at this; simp at this; omega
                rw [hdr] at HLEN
                have hta : (s.take c).map (·.v) = s.map (·.v) := by rw [List.take_of_length_le (by rw [HSN.out]; omega)]
                rw [hta] at HOq
                have HI1 := Lib.hid ((IntsAt.own HO4.out).keep HKq.out (fun R e hx => by have h1 := (HOB.out R e).2; have h2 := HFB.out R hx; omega))
                have HI2 := Lib.hid (IntsAt.own HOq.out)
                have hml : (s.map (·.v)).length ≤ 4294967296 := by rw [List.length_map, HSN.out]; omega
                have HML := Lib.hid hml
                clear hB hO hKq hb htm hq0 hdr hta hml hsl3 hc
                by_cases hqk : q < k
                · have hqk2 : (q : Int) < k := by omega
                  go_wp2_with fail
                  refine (HLEN.out _ (Keep.refl _ _)).mono ?_
                  rintro e wz ⟨rfl, rfl⟩
                  simp only [List.length_nil]
                  go_wp2_with fail
                  refine (ints_calls _ _ (s.map (·.v)) (s.map (·.v)) _ HI1.out HI2.out HML.out).mono ?_
                  rintro e wy ⟨rfl, hby⟩
                  have HBY := Lib.hid hby
                  clear hby
                  simp only [decide_true]
                  go_wp2_with fail
                  refine (HLEN.out _ (Keep.of_below HBY.out)).mono ?_
                  rintro e wz ⟨rfl, rfl⟩
                  simp only [List.length_nil]
                  go_wp2_with fail
                  refine (awake_calls _).mono ?_
                  rintro e wx ⟨rfl, hbx⟩
                  have HBX := Lib.hid hbx
                  clear hbx
                  go_wp2_with fail
                  go_ret
                  refine ⟨rfl, ?_⟩
                  have h1 := HBWq.out.trans (HBY.out.mono HBWq.out.size)
                  exact h1.trans (HBX.out.mono h1.size)
                · obtain rfl : q = k := by omega
                  clear hqk
                  go_wp2_with fail
                  refine (ints_calls _ _ (s.map (·.v)) (s.map (·.v)) _ HI1.out HI2.out HML.out).mono ?_
                  rintro e wy ⟨rfl, hby⟩
                  have HBY := Lib.hid hby
                  clear hby
                  simp only [decide_true]
                  go_wp2_with fail
                  refine (HLEN.out _ (Keep.of_below HBY.out)).mono ?_
                  rintro e wz ⟨rfl, rfl⟩
                  simp only [List.length_nil]
                  go_wp2_with fail
                  refine (awake_calls _).mono ?_
                  rintro e wx ⟨rfl, hbx⟩
                  have HBX := Lib.hid hbx
                  clear hbx
                  go_wp2_with fail
                  go_ret
                  refine ⟨rfl, ?_⟩
                  have h1 := HBWq.out.trans (HBY.out.mono HBWq.out.size)
                  exact h1.trans (HBX.out.mono h1.size)
              | cons r rest =>
                have hck : c < k := by have := congrArg List.length hdr; rw [List.length_drop, HSN.out] at this; simp at this; omega
                have hqk2 : (q : Int) < k := by omega
                rw [hdr] at HLEN HBq hsl3
                have HDR := Lib.hid hdr
                have hbat := batch_some _ _ _ r rest wr HBq.out (by have := congrArg List.length hdr; rw [List.length_drop, HSN.out] at this; omega)
                have HBAT := Lib.hid hbat
                have htm2 : 0 < q → tm < r.key.at_ := fun h => htm h r (by rw [hdr]; simp)
                have hl0 : (0 : Int) < (rest.length : Int) + 1 := by omega
                have hl1 : ((r :: rest).length : Int) = (rest.length : Int) + 1 := by simp
                have HL1 := Lib.hid hl1
                clear hB hO hKq hb htm hq0 hdr hbat hsl3 hl1
                go_wp2_with fail
                refine (HLEN.out _ (Keep.refl _ _)).mono ?_
                rintro e wz ⟨rfl, rfl⟩
                rw [HL1.out]
                go_wp2_with fail
                refine HBAT.out.mono ?_
                rintro e w5 ⟨v, rfl, hO5, hH5, hK5⟩
                have hlod := own_bound HOq.out
                have hkv : Keep Fb wr w5 := hK5
                have hOq5 := HOq.out.keep hkv (fun x e hx => by have h1 := (hlod x e).2; have h2 := HFB.out x hx; omega)
                have hK45 : Keep Fb w4 w5 := HKq.out.trans hkv (fun _ _ h => ⟨h, h⟩)
                have hbw5 := below_keep HBWq.out hkv (fun x hx => (HBB4.out.bound x hx).1)
                have hw45 : w4.heap.size ≤ w5.heap.size := hK45.size
                obtain ⟨mm, hm0, hmm, hmd, hmt, hms, hml⟩ := batch_cut HDR.out HHB.out.sorted (by rw [HSN.out]; omega)
                have hmv : (((r :: rest).takeWhile (same_at r.key.at_)).map (·.v)).length = mm := by rw [List.length_map, hmm]
                have hrd := hO5.rd
                have hia := IntsAt.own hO5
                have hmemb : ∀ x ∈ (r :: rest).takeWhile (same_at r.key.at_), x ∈ s ∧ x.key.at_ = r.key.at_ := fun x hx => by
                  obtain ⟨h1, h2⟩ := mem_takeWhile hx
                  exact ⟨List.mem_of_mem_drop (by rw [HDR.out]; exact h1), h2⟩
                rw [HSN.out] at hms
                have hO5' : Owns 3 intE 1 wr.heap.size w5 v (((r :: rest).takeWhile (same_at r.key.at_)).map (·.v)) := hO5
                have hH5' : HS w.heap.size Fb w5 Bb ((r :: rest).dropWhile (same_at r.key.at_)) := hH5
                clear hO5 hH5
                generalize hT : (r :: rest).takeWhile (same_at r.key.at_) = T at *
                generalize hD : (r :: rest).dropWhile (same_at r.key.at_) = D at *
                obtain ⟨am, cm, hvm⟩ := hO5'.form
                rw [hmv] at hvm
                subst hvm
                have HT := Lib.hid hmt
                have HD := Lib.hid hmd
                have HH5 := Lib.hid hH5'
                have HOQ5 := Lib.hid hOq5
                have HK45 := Lib.hid hK45
                have HBW5 := Lib.hid hbw5
                have HRD := Lib.hid hrd
                have HIA := Lib.hid hia
                have HMV := Lib.hid hmv
                have HMM := Lib.hid hmm
                have HMB := Lib.hid hmemb
                have HLT := Lib.hid hml
                have hm0' : ((mm : Int) == 0) = false := by simp; omega
                have hmi : (mm : Int) ≤ 60 := by omega
                have hmx : ((s.take c).map (·.v)).length + (T.map (·.v)).length ≤ maxLen := by rw [hmv]; simp [maxLen]; omega
                have hby : (((s.take c).map (·.v)).length + (T.map (·.v)).length) * 8 ≤ 140737488355328 := by rw [hmv]; simp; omega
                have HMX := Lib.hid hmx
                have HBY := Lib.hid hby
                have HTM2 := Lib.hid htm2
                clear hlod hkv hOq5 hK45 hbw5 hmm hmd hmt hml hmv hrd hia hmemb hO5' hH5' hT hD hK5 HBAT HLEN hmx hby htm2
                have hcase : q = 0 ∨ (0 < (q : Int) ∧ ¬ (r.key.at_ ≤ tm)) := by
                  by_cases h0 : q = 0
                  · exact .inl h0
                  · right
                    have := HTM2.out (by omega)
                    omega
                rcases hcase with rfl | ⟨hq1, hq2⟩
                all_goals
                  go_wp2_with fail
                  obtain ⟨wb, rfl⟩ : ∃ wb : World, wb = w5 := ⟨_, rfl⟩
                  go_loopw [25] (fun x wr' => MemRel wb mm x wr') (fun x _ => mm - (intOf x).toNat)
                  case atStart => exact ⟨0, rfl, by omega, rfl⟩
                  case round =>
                    obtain ⟨g, rfl, hg, rfl⟩ := hrel
                    by_cases hgm : g < mm
                    · have hgm2 : (g : Int) < mm := by omega
                      obtain ⟨x, hx⟩ : ∃ x, T[g]? = some x := ⟨_, List.getElem?_eq_getElem (by rw [HMM.out]; exact hgm)⟩
                      obtain ⟨hxs, hxat⟩ := HMB.out x (List.mem_of_getElem? hx)
                      obtain ⟨j, hjn, hjv, hjl⟩ := HG.out x hxs
                      obtain ⟨a', c', e', hcell⟩ := HIA.out
                      have ea : am = a' := by simp only [Value.slice.injEq] at e'; exact e'.1
                      subst ea
                      obtain ⟨R1, hR1, hc1⟩ := hcell g x.v (by rw [List.getElem?_map, hx]; rfl)
                      obtain ⟨R, o, ha0, hc⟩ := HK.out j _ hjl
                      subst hR1
                      subst ha0
                      have hRc := hc 0 _ rfl
                      have hRl : R < w.heap.size := World.block_lt_of_cell? w _ hRc
                      have hc2 := (HBW5.out.cell (p := ⟨R, o + j * 4 + 0, none⟩) hRl).trans hRc
                      rw [Nat.add_zero, hxat] at hc2
                      rw [hjv] at hc1
                      have hjn2 : (j : Int) < n := by omega
                      have hj0 : 0 ≤ (j : Int) := by omega
                      clear hx hxs hxat hjv hjl e' hcell hc hRc
                      go_wp2_with fail
                      go_roundw
                      case rel => exact ⟨g + 1, by go_num, by omega, rfl⟩
                      case measure => simp [intOf]; omega
                    · obtain rfl : g = mm := by omega
                      clear hgm
                      have hmx2 := HMX.out
                      have hby2 := HBY.out
                      go_wp2_with first
                        | ((with_reducible refine tot_done ?ht ?_); (case ht => rfl))
                        | ((with_reducible refine wpList_append (v := u19) (sv := .slice am g cm) (lo := w4.heap.size) (xs := (s.take c).map (·.v)) (ys := T.map (·.v)) elemInt intE_len intE_one HOQ5.out HRD.out hmx2 hby2 hw45 ?hx ?hy ?_); (case hx => rfl); (case hy => rfl))
                      intro v' w6 hO6 hK6 hv6
                      have hlod := own_bound HOQ5.out
                      have hKF : ∀ x, u19.ownBlock = some x → w4.heap.size ≤ x := fun x e => (hlod x e).2
                      have hF4 : ∀ x, Fb x → x < w4.heap.size := fun x hx => (HBB4.out.bound x hx).2
                      go_wp2_with first
                        | ((with_reducible refine tot_done ?ht ?_); (case ht => rfl))
                      go_roundw
                      case rel =>
                        first
                        | refine ⟨q + 1, c + g, r.key.at_, by go_num, rfl, ?_, by rw [HSN.out]; exact hms, ?_, fun h => by omega, fun _ x hx => HLT.out x (by rw [← HD.out]; exact hx), ?_, ?_, ?_, ?_⟩
                        | refine ⟨1, c + g, r.key.at_, by go_num, rfl, ?_, by rw [HSN.out]; exact hms, ?_, fun h => by omega, fun _ x hx => HLT.out x (by rw [← HD.out]; exact hx), ?_, ?_, ?_, ?_⟩
                        · omega
                        · rw [HSN.out]; omega
                        · rw [HD.out]; exact HH5.out.keep hK6 (fun x hx e => by have := hKF x e; have := hF4 x hx; omega)
                        · rw [HT.out, List.map_append]; exact hO6
                        · exact HK45.out.trans hK6 (fun x hx h => ⟨h, fun e => by have := hKF x e; omega⟩)
                        · exact below_keep HBW5.out hK6 (fun x e => by have := hKF x e; have := HB4.out.size; omega)
                      case measure => simp [intOf]; omega
end Go.Proofs.Ytnkngclfbmcmhaa
