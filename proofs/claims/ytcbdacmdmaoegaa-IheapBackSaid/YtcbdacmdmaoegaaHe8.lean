import Derived.Test.YtcbdacmdmaoegaaHe6
import Derived.Test.YtcbdacmdmaoegaaHe7
import Derived.Test.YtcbdacmdmaoegaaSort
import Derived.Test.YtcbdacmdmaoegaaHLay
import Derived.Test.YtcbdacmdmaoegaaYl
import Derived.Deep.Cut
import Derived.Shelf.SlSortCmp.NoneTotal
/- The walk of a heap's All. -/
namespace Go.Proofs.Ytcbdacmdmaoegaa
open Go Go.RowKit Reg Mem Go.Shelf Go.Sort

theorem before_grew (k l : Key) (w : World) : Calls Try.prog 53 #[.agg #[.int .i64 k.at_, .int .i64 k.src, .int .i64 k.sent, .int .i64 k.no], .agg #[.int .i64 l.at_, .int .i64 l.src, .int .i64 l.sent, .int .i64 l.no]] w fun e w' => e = .returned (.bool (k.lt l)) ∧ Grew w w' :=
  (before_calls _ _ _ _ _ _ _ _ w).mono fun _ _ h => ⟨h.1, Grew.of_keep (Keep.of_below h.2)⟩
theorem compare_grew (k l : Key) (w : World) : Calls Try.prog 32 #[.agg #[.int .i64 k.at_, .int .i64 k.src, .int .i64 k.sent, .int .i64 k.no], .agg #[.int .i64 l.at_, .int .i64 l.src, .int .i64 l.sent, .int .i64 l.no]] w fun e w' => e = .returned (.int .i64 (k.cmp l)) ∧ Grew w w' :=
  (compare_calls _ _ _ _ _ _ _ _ w).mono fun _ _ h => ⟨h.1, Grew.of_keep (Keep.of_below h.2)⟩
set_option maxRecDepth 100000 in
theorem all1_grew (x y : Row) (w : World) : Calls Try.prog 49 #[.agg x.cells.toArray, .agg y.cells.toArray] w fun e w' => e = .returned (.int .i64 (x.key.cmp y.key)) ∧ Grew w w' := by
  have S := St.init (fun _ => False) w
  show Calls Try.prog 49 #[.agg #[.int .i64 x.key.at_, .int .i64 x.key.src, .int .i64 x.key.sent, .int .i64 x.key.no, .int .i64 x.v], .agg #[.int .i64 y.key.at_, .int .i64 y.key.src, .int .i64 y.key.sent, .int .i64 y.key.no, .int .i64 y.v]] w _
  go_enter Try.func49, Try.ntmps49
  go_wp2_with first
    | (go_at_call 32; refine Calls.mono (compare_calls _ _ _ _ _ _ _ _ _) ?_; rintro e wz ⟨rfl, hE⟩; replace S := S.ext (Keep.of_below hE); clear hE)
    | ((with_reducible refine tot_done ?ht ?_); (case ht => kernel_rfl))
    | ((with_reducible apply wps_boxa S); (case hx => rfl); clear S; intro bz wz S)
    | ((with_reducible apply wps_box1 (v := .int _ _) S); (case hx => rfl); (case h1 => rfl); clear S; intro bz wz S)
    | ((with_reducible apply wps_box1 (v := .bool _) S); (case hx => rfl); (case h1 => rfl); clear S; intro bz wz S)
    | ((with_reducible apply wps_box1 (v := .slice _ _ _) S); (case hx => rfl); (case h1 => rfl); clear S; intro bz wz S)
    | ((with_reducible apply wps_box1 (v := .pointer _) S); (case hx => rfl); (case h1 => rfl); clear S; intro bz wz S)
    | ((with_reducible apply wps_box1 (v := .map _) S); (case hx => rfl); (case h1 => rfl); clear S; intro bz wz S)
    | ((with_reducible apply wps_box1 (v := .string _) S); (case hx => rfl); (case h1 => rfl); clear S; intro bz wz S)
    | ((with_reducible apply wps_box1 (v := .func _ _ _) S); (case hx => rfl); (case h1 => rfl); clear S; intro bz wz S)
    | ((with_reducible apply wps_loada (T := 28) (k := 4) S 0); (case hx => rfl); (case hi => rfl); (case hT => decide +kernel); (case hk => exact Nat.le_of_ble_eq_true rfl))
    | ((with_reducible apply wps_loada (T := 28) (k := 4) S 1); (case hx => rfl); (case hi => rfl); (case hT => decide +kernel); (case hk => exact Nat.le_of_ble_eq_true rfl))
    | ((with_reducible apply wps_loada (T := 28) (k := 4) S 2); (case hx => rfl); (case hi => rfl); (case hT => decide +kernel); (case hk => exact Nat.le_of_ble_eq_true rfl))
    | ((with_reducible apply wps_loada (T := 28) (k := 4) S 3); (case hx => rfl); (case hi => rfl); (case hT => decide +kernel); (case hk => exact Nat.le_of_ble_eq_true rfl))
  go_ret
  exact ⟨rfl, Grew.of_keep S.keep⟩
theorem swo_rows : SWO (ltOf fun (x y : Row) => Key.cmp x.key y.key) := by
  have e : (ltOf fun (x y : Row) => Key.cmp x.key y.key) = fun x y => x.key.lt y.key := by
    funext x y; exact Key.cmp_neg _ _
  rw [e]; exact swo_key (fun r : Row => r.key)
theorem sorted_eq {s ys : List Row} (hs : HSorted s) (hp : ys.Perm s) (hy : ys.Pairwise (fun a b => ltOf (fun (x y : Row) => Key.cmp x.key y.key) b a = false)) : ys = s := by
  refine List.Perm.eq_of_pairwise (le := fun a b => b.key.lt a.key = false) (fun a b ha hb h1 h2 => ?_) (hy.imp fun h => by rw [← h]; exact (Key.cmp_neg _ _).symm) (hs.imp fun h => Key.lt_asymm' h) hp
  have hk : a.key = b.key := Key.eq_of h2 h1
  have h3 := find_key (hp.mem_iff.1 ha) hs.nodup
  have h4 := find_key hb hs.nodup
  rw [hk, h4] at h3
  exact (Option.some.inj h3).symm
def AllPost (s : List Row) (w : World) (e : Ending) (w' : World) : Prop :=
  ∃ b ad c, e = .returned (.func (.func 50) #[] #[.pointer (some ⟨b, 0, none⟩)]) ∧ St (fun _ => False) w w' [Blk false b #[.slice ad s.length c] 83, Mem.Own 90 Row.cells 5 (.slice ad s.length c) s]
set_option maxRecDepth 100000 in
theorem hall_calls (B : Nat) (s : List Row) (w : World) (F : Nat → Prop) (h : (heapA B s).at_ w F) (hmax : s.length ≤ 4294967296) :
    Calls Try.prog 24 #[.pointer (some ⟨B, 0, none⟩)] w (AllPost s w) := by
  obtain ⟨M, v, rows, ho, hp, hs, S⟩ := heapR_st h
  obtain ⟨ad, cp, rfl, _⟩ := (S.sl 1 rfl).elim fun _ h => h.form
  have hlen : rows.length ≤ 4294967296 := by rw [hp.length_eq]; exact hmax
  clear h
  go_enter Try.func24, Try.ntmps24
  go_wp2_with first
    | (go_at_call 46; refine Calls.mono (clone_Row _ _ (S.get (i := 2) rfl).choose_spec hlen) ?_; rintro e wz ⟨ad1, c1, rfl, hR1, T⟩; replace S := S.join T rfl; clear T; simp only [List.cons_append, List.nil_append] at S)
    | ((with_reducible apply wps_store (u := (.slice ad1 rows.length c1)) S 1); (case hx => rfl); (case hy => rfl); (case hi => rfl); (case hT => decide +kernel); (case h1 => rfl); (case hn => exact Nat.le_of_ble_eq_true rfl); clear S; intro wz S; simp only [List.set_cons_succ, List.set_cons_zero, List.setIfInBounds_toArray] at S)
    | ((with_reducible refine tot_done ?ht ?_); (case ht => kernel_rfl))
    | ((with_reducible apply wps_alloc1 (E := 83) S); (case hz => exact Try.zeroValue83); (case h1 => rfl); clear S; intro bz wz S)
    | ((with_reducible apply wps_load S 0); (case hx => rfl); (case hi => rfl); (case hT => decide +kernel); (case hu => rfl))
    | ((with_reducible apply wps_load S 1); (case hx => rfl); (case hi => rfl); (case hT => decide +kernel); (case hu => rfl))
    | ((with_reducible apply wps_load S 2); (case hx => rfl); (case hi => rfl); (case hT => decide +kernel); (case hu => rfl))
    | ((with_reducible apply wps_load S 3); (case hx => rfl); (case hi => rfl); (case hT => decide +kernel); (case hu => rfl))
  by_cases h0 : rows.length = 0
  · obtain rfl : rows = [] := List.eq_nil_of_length_eq_zero h0
    obtain rfl : s = [] := hp.symm.eq_nil
    refine Calls.mono (AnyF.slices_SortFunc_none (P := Try.prog) (ρ := sortRows_ren) { sortRows with } _ _ _ _) ?_
    rintro e wz ⟨rfl, rfl⟩
    go_wp2_with first
      | ((with_reducible refine tot_done ?ht ?_); (case ht => kernel_rfl))
      | ((with_reducible apply wps_alloc1 (E := 83) S); (case hz => exact Try.zeroValue83); (case h1 => rfl); clear S; intro bz wz S)
      | ((with_reducible apply wps_load S 0); (case hx => rfl); (case hi => rfl); (case hT => decide +kernel); (case hu => rfl))
      | ((with_reducible apply wps_load S 1); (case hx => rfl); (case hi => rfl); (case hT => decide +kernel); (case hu => rfl))
      | ((with_reducible apply wps_load S 2); (case hx => rfl); (case hi => rfl); (case hT => decide +kernel); (case hu => rfl))
      | ((with_reducible apply wps_load S 3); (case hx => rfl); (case hi => rfl); (case hT => decide +kernel); (case hu => rfl))
    go_ret
    exact ⟨_, _, _, rfl, S.pick [1, 0] rfl⟩
  · obtain ⟨R, rfl⟩ := hR1 (by omega)
    have hi : Inhabited Row := ⟨row0⟩
    refine Calls.mono (sortK (P := Try.prog) (ρ := sortRows_ren) (i := 0) (enc := Row.cells) (k := 5) sortRows (fun w => by kernel_rfl) sizeRow hcells hone (fun x y => Key.cmp x.key y.key) swo_rows 49 #[] (fun _ _ => rfl) S rfl (by omega) (fun W _ x y => all1_grew x y W)) ?_
    rintro e wz ⟨rfl, ys, hp2, hs2, S2⟩
    have hys := sorted_eq hs (hp2.trans hp) hs2
    subst hys
    have hl := hp.length_eq
    rw [hl] at S2
    clear S
    have S := S2
    clear S2 hp2 hs2
    simp only [List.set_cons_zero] at S
    go_wp2_with first
      | ((with_reducible refine tot_done ?ht ?_); (case ht => kernel_rfl))
      | ((with_reducible apply wps_alloc1 (E := 83) S); (case hz => exact Try.zeroValue83); (case h1 => rfl); clear S; intro bz wz S)
      | ((with_reducible apply wps_load S 0); (case hx => rfl); (case hi => rfl); (case hT => decide +kernel); (case hu => rfl))
      | ((with_reducible apply wps_load S 1); (case hx => rfl); (case hi => rfl); (case hT => decide +kernel); (case hu => rfl))
      | ((with_reducible apply wps_load S 2); (case hx => rfl); (case hi => rfl); (case hT => decide +kernel); (case hu => rfl))
      | ((with_reducible apply wps_load S 3); (case hx => rfl); (case hi => rfl); (case hT => decide +kernel); (case hu => rfl))
    go_ret
    exact ⟨_, _, _, rfl, S.pick [1, 0] rfl⟩
/-- What is handed over in a round. -/
def MadeR (r : Row) (args : Array Value) (N : List Asn) : Prop := args = #[.agg #[.int .i64 r.key.at_, .int .i64 r.key.src, .int .i64 r.key.sent, .int .i64 r.key.no], .int .i64 r.v] ∧ N = []
def All2Rel (b : Nat) (ad : Option Addr) (cp : Nat) (s : List Row) (G : Nat → Prop) (w0 : World) (Φ : Nat → List Asn → Prop) (i : Value) (wr : World) : Prop :=
  ∃ (k : Nat) (L : List Asn), k ≤ s.length ∧ i = .int .i64 k ∧ Φ k L ∧ St G w0 wr (Blk true b #[.slice ad s.length cp] 83 :: Sl true Row.cells 5 (.slice ad s.length cp) s :: L)
theorem Mem.St.drop1 {G : Nat → Prop} {w0 w : World} {L : List Asn} {A B : Asn} (S : St G w0 w (A :: B :: L)) : St G w0 w (B :: L) := S.tail
set_option maxRecDepth 100000 in
set_option maxHeartbeats 4000000 in
theorem all2_iter (b : Nat) (ad : Option Addr) (cp : Nat) (s : List Row) (hn : s.length ≤ 65536) :
    IterC Try.prog 50 #[.pointer (some ⟨b, 0, none⟩)] [Blk true b #[.slice ad s.length cp] 83, Sl true Row.cells 5 (.slice ad s.length cp) s] s MadeR := by
  intro l G w0 W Φ Ψ L hY h0 S
  simp only [List.cons_append, List.nil_append] at S
  show Calls Try.prog 50 #[.func (.yield l) #[] #[], .pointer (some ⟨b, 0, none⟩)] W _
  have HY := Lib.hid hY
  clear hY
  go_enter Try.func50, Try.ntmps50
  go_wp2_with first
    | ((with_reducible refine tot_done ?ht ?_); (case ht => kernel_rfl))
    | ((with_reducible apply wps_alloca (E := 90) S); (case hz => exact Try.zeroValue90); clear S; intro bz wz S)
    | ((with_reducible apply wps_load S 0); (case hx => rfl); (case hi => rfl); (case hT => decide +kernel); (case hu => rfl))
    | ((with_reducible apply wps_loada (T := 28) (k := 4) S 0); (case hx => rfl); (case hi => rfl); (case hT => decide +kernel); (case hk => exact Nat.le_of_ble_eq_true rfl))
    | ((with_reducible apply wps_loada (T := 90) (k := 5) S 0); (case hx => rfl); (case hi => rfl); (case hT => decide +kernel); (case hk => exact Nat.le_of_ble_eq_true rfl))
  go_loopw [7] (fun i wr => All2Rel b ad cp s G w0 Φ i wr) (fun i _ => s.length - (intOf i).toNat)
  case atStart => exact ⟨0, L, Nat.zero_le _, rfl, h0, S⟩
  case round =>
    clear S h0
    obtain ⟨k, L, hk, rfl, hΦ, S⟩ := hrel
    by_cases hlt : k < s.length
    · obtain ⟨x, hx⟩ : ∃ x, s[k]? = some x := ⟨_, List.getElem?_eq_getElem hlt⟩
      obtain ⟨R, o, rfl⟩ : ∃ R o, ad = some ⟨R, o, none⟩ := (S.sl 1 rfl).elim fun F h => h.head (by omega)
      have hlt2 : (k : Int) < s.length := by omega
      have Hx := Lib.hid hx
      have HΦ := Lib.hid hΦ
      clear hx hΦ
      go_upto_region 3 with first
        | ((with_reducible apply wps_loada_el S 1 (hj := Hx.out) (q := 0) (vs := [.int .i64 x.key.at_, .int .i64 x.key.src, .int .i64 x.key.sent, .int .i64 x.key.no, .int .i64 x.v]) (m := 5)); (case hx => rfl); (case hT => decide +kernel); (case hi => rfl); (case hn => omega); (case hm => rfl); (case hv => rfl))
        | ((with_reducible apply wps_loada_el S 1 (hj := Hx.out) (q := 0) (vs := [.int .i64 x.key.at_, .int .i64 x.key.src, .int .i64 x.key.sent, .int .i64 x.key.no]) (m := 4)); (case hx => rfl); (case hT => decide +kernel); (case hi => rfl); (case hn => omega); (case hm => rfl); (case hv => rfl))
        | ((with_reducible apply wps_load_el S 1 (hj := Hx.out) (q := 4) (u := .int .i64 x.v)); (case hx => rfl); (case hi => rfl); (case hn => omega); (case hT => decide +kernel); (case hu => rfl))
        | ((with_reducible apply wps_storea (T := 90) S 0 (vs := [.int .i64 x.key.at_, .int .i64 x.key.src, .int .i64 x.key.sent, .int .i64 x.key.no, .int .i64 x.v]) (m := 5)); (case hx => rfl); (case hy => rfl); (case hi => rfl); (case hT => decide +kernel); (case hm => rfl); (case h1 => rfl); (case hn => exact Nat.le_of_ble_eq_true rfl); clear S; intro wz S; simp only [List.set_cons_zero, List.set_cons_succ, setAll, List.setIfInBounds_toArray] at S)
        | ((with_reducible refine tot_done ?ht ?_); (case ht => kernel_rfl))
        | ((with_reducible apply wps_alloca (E := 90) S); (case hz => exact Try.zeroValue90); clear S; intro bz wz S)
        | ((with_reducible apply wps_load S 0); (case hx => rfl); (case hi => rfl); (case hT => decide +kernel); (case hu => rfl))
        | ((with_reducible apply wps_loada (T := 28) (k := 4) S 0); (case hx => rfl); (case hi => rfl); (case hT => decide +kernel); (case hk => exact Nat.le_of_ble_eq_true rfl))
        | ((with_reducible apply wps_loada (T := 90) (k := 5) S 0); (case hx => rfl); (case hi => rfl); (case hT => decide +kernel); (case hk => exact Nat.le_of_ble_eq_true rfl))
      refine wp_region_yl 5 rfl rfl rfl fun K hK => ?_
      simp only [List.take_succ_cons, List.take_zero]
      simp only [List.drop_succ_cons, List.drop_zero] at hK
      go_wp2_with first
        | ((with_reducible refine tot_done ?ht ?_); (case ht => kernel_rfl))
        | ((with_reducible apply wps_alloca (E := 90) S); (case hz => exact Try.zeroValue90); clear S; intro bz wz S)
        | ((with_reducible apply wps_load S 0); (case hx => rfl); (case hi => rfl); (case hT => decide +kernel); (case hu => rfl))
        | ((with_reducible apply wps_loada (T := 28) (k := 4) S 0); (case hx => rfl); (case hi => rfl); (case hT => decide +kernel); (case hk => exact Nat.le_of_ble_eq_true rfl))
        | ((with_reducible apply wps_loada (T := 90) (k := 5) S 0); (case hx => rfl); (case hi => rfl); (case hT => decide +kernel); (case hk => exact Nat.le_of_ble_eq_true rfl))
      refine hK _ _ ?_
      clear hK K
      (try simp only [Act.put]); (try simp only [List.setIfInBounds_toArray]); (try simp only [List.set_cons_succ]); (try simp only [List.set_cons_zero])
      refine yield_in (l := l) rfl rfl rfl rfl rfl (HY.out k x _ [] L wz Hx.out ⟨rfl, rfl⟩ HΦ.out S.tail) ?_
      rintro e w' ⟨L', S, (⟨rfl, hΦ'⟩ | ⟨rfl, hΨ⟩)⟩
      · refine ⟨_, rfl, ?_⟩
        refine list_only rfl fun K hK => ?_
        go_wp2_with first
          | ((with_reducible refine tot_done ?ht ?_); (case ht => kernel_rfl))
          | ((with_reducible apply wps_alloca (E := 90) S); (case hz => exact Try.zeroValue90); clear S; intro bz wz S)
          | ((with_reducible apply wps_load S 0); (case hx => rfl); (case hi => rfl); (case hT => decide +kernel); (case hu => rfl))
          | ((with_reducible apply wps_loada (T := 28) (k := 4) S 0); (case hx => rfl); (case hi => rfl); (case hT => decide +kernel); (case hk => exact Nat.le_of_ble_eq_true rfl))
          | ((with_reducible apply wps_loada (T := 90) (k := 5) S 0); (case hx => rfl); (case hi => rfl); (case hT => decide +kernel); (case hk => exact Nat.le_of_ble_eq_true rfl))
        refine hK _ _ ?_
        clear hK K
        have HΦ' := Lib.hid hΦ'
        clear hΦ'
        go_wp2_with first
          | ((with_reducible refine tot_done ?ht ?_); (case ht => kernel_rfl))
          | ((with_reducible apply wps_alloca (E := 90) S); (case hz => exact Try.zeroValue90); clear S; intro bz wz S)
          | ((with_reducible apply wps_load S 0); (case hx => rfl); (case hi => rfl); (case hT => decide +kernel); (case hu => rfl))
          | ((with_reducible apply wps_loada (T := 28) (k := 4) S 0); (case hx => rfl); (case hi => rfl); (case hT => decide +kernel); (case hk => exact Nat.le_of_ble_eq_true rfl))
          | ((with_reducible apply wps_loada (T := 90) (k := 5) S 0); (case hx => rfl); (case hi => rfl); (case hT => decide +kernel); (case hk => exact Nat.le_of_ble_eq_true rfl))
        go_roundw
        case rel => exact ⟨k + 1, L', by omega, by go_num, HΦ'.out, S⟩
        case measure => first | (simp [intOf]; done) | (simp [intOf]; omega)
      · refine ⟨_, rfl, ?_⟩
        refine list_only rfl fun K hK => ?_
        go_wp2_with first
          | ((with_reducible refine tot_done ?ht ?_); (case ht => kernel_rfl))
          | ((with_reducible apply wps_alloca (E := 90) S); (case hz => exact Try.zeroValue90); clear S; intro bz wz S)
          | ((with_reducible apply wps_load S 0); (case hx => rfl); (case hi => rfl); (case hT => decide +kernel); (case hu => rfl))
          | ((with_reducible apply wps_loada (T := 28) (k := 4) S 0); (case hx => rfl); (case hi => rfl); (case hT => decide +kernel); (case hk => exact Nat.le_of_ble_eq_true rfl))
          | ((with_reducible apply wps_loada (T := 90) (k := 5) S 0); (case hx => rfl); (case hi => rfl); (case hT => decide +kernel); (case hk => exact Nat.le_of_ble_eq_true rfl))
        refine hK _ _ ?_
        clear hK K
        have HΨ := Lib.hid hΨ
        clear hΨ
        go_wp2_with first
          | ((with_reducible refine tot_done ?ht ?_); (case ht => kernel_rfl))
          | ((with_reducible apply wps_alloca (E := 90) S); (case hz => exact Try.zeroValue90); clear S; intro bz wz S)
          | ((with_reducible apply wps_load S 0); (case hx => rfl); (case hi => rfl); (case hT => decide +kernel); (case hu => rfl))
          | ((with_reducible apply wps_loada (T := 28) (k := 4) S 0); (case hx => rfl); (case hi => rfl); (case hT => decide +kernel); (case hk => exact Nat.le_of_ble_eq_true rfl))
          | ((with_reducible apply wps_loada (T := 90) (k := 5) S 0); (case hx => rfl); (case hi => rfl); (case hT => decide +kernel); (case hk => exact Nat.le_of_ble_eq_true rfl))
        (try simp only [Exit.inBlock, Exit.then]); refine bodyPost_ret (results_none rfl _ _ _) rfl ?_
        exact ⟨⟨_, rfl⟩, L', S, .inr ⟨k + 1, by omega, HΨ.out⟩⟩
    · obtain rfl : k = s.length := by omega
      go_wp2_with first
        | ((with_reducible refine tot_done ?ht ?_); (case ht => kernel_rfl))
        | ((with_reducible apply wps_alloca (E := 90) S); (case hz => exact Try.zeroValue90); clear S; intro bz wz S)
        | ((with_reducible apply wps_load S 0); (case hx => rfl); (case hi => rfl); (case hT => decide +kernel); (case hu => rfl))
        | ((with_reducible apply wps_loada (T := 28) (k := 4) S 0); (case hx => rfl); (case hi => rfl); (case hT => decide +kernel); (case hk => exact Nat.le_of_ble_eq_true rfl))
        | ((with_reducible apply wps_loada (T := 90) (k := 5) S 0); (case hx => rfl); (case hi => rfl); (case hT => decide +kernel); (case hk => exact Nat.le_of_ble_eq_true rfl))
      go_end0
      exact ⟨⟨_, rfl⟩, L, S, .inl hΦ⟩
end Go.Proofs.Ytcbdacmdmaoegaa
