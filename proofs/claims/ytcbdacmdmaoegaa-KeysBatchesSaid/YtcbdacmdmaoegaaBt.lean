import Derived.Test.YtcbdacmdmaoegaaYld
import Derived.Test.YtcbdacmdmaoegaaBatP0
/- The walks of keys.Batches and of the iterator that it hands back. -/
namespace Go.Proofs.Ytcbdacmdmaoegaa
open Go Go.RowKit Reg Mem

/-- Events in order, parted by their times. -/
def batchesE : List Event → List (List Event)
  | [] => []
  | x :: l => (x :: l.takeWhile (fun y => y.key.at_ == x.key.at_)) :: batchesE (l.dropWhile (fun y => y.key.at_ == x.key.at_))
termination_by l => l.length
decreasing_by
  have : (l.dropWhile (fun y => y.key.at_ == x.key.at_)).length ≤ l.length := (List.dropWhile_sublist _).length_le
  simp; omega
theorem tw_split {p : Event → Bool} : ∀ {l : List Event} {n : Nat}, n ≤ l.length → (∀ (q : Nat) y, q < n → l[q]? = some y → p y = true) → (∀ y, l[n]? = some y → p y = false) → l.takeWhile p = l.take n ∧ l.dropWhile p = l.drop n
  | [], n, hn, _, _ => by simp
  | x :: l, 0, _, _, h => by simp [h x rfl]
  | x :: l, n + 1, hn, h, h2 => by
    have hx := h 0 x (by omega) rfl
    have ih := tw_split (l := l) (n := n) (by simpa using hn) (fun q y hq hy => h (q + 1) y (by omega) (by simpa using hy)) (fun y hy => h2 y (by simpa using hy))
    simp [hx, ih.1, ih.2]
theorem batches_step {s : List Event} {i j : Nat} {x : Event} (hx : s[i]? = some x) (hij : i < j) (hj : j ≤ s.length) (h : ∀ (q : Nat) y, i ≤ q → q < j → s[q]? = some y → y.key.at_ = x.key.at_) (h2 : ∀ y, s[j]? = some y → y.key.at_ ≠ x.key.at_) :
    batchesE (s.drop i) = ((s.drop i).take (j - i)) :: batchesE (s.drop j) ∧ atE ((s.drop i).take (j - i)) = x.key.at_ := by
  have hi : i < s.length := by omega
  have e : s.drop i = x :: s.drop (i + 1) := by
    rw [List.drop_eq_getElem_cons hi]; congr 1; rw [List.getElem?_eq_getElem hi] at hx; exact Option.some.inj hx
  obtain ⟨m, rfl⟩ : ∃ m, j = i + 1 + m := ⟨j - (i + 1), by omega⟩
  have sp := tw_split (p := fun y => y.key.at_ == x.key.at_) (l := s.drop (i + 1)) (n := m) (by simp; omega)
    (fun q y hq hy => by rw [List.getElem?_drop] at hy; simpa using h _ y (by omega) (by omega) hy)
    (fun y hy => by rw [List.getElem?_drop] at hy; simpa using h2 y hy)
  rw [e, batchesE, sp.1, sp.2, show i + 1 + m - i = m + 1 by omega, List.take_succ_cons, List.drop_drop]
  exact ⟨rfl, rfl⟩
/-- What is handed over in a round. -/
def MadeB (g : List Event) (args : Array Value) (N : List Asn) : Prop := ∃ a v, args = #[.int .i64 a, v] ∧ a = atE g ∧ N = [Mem.Own 30 Event.cells 7 v g]
theorem Mem.St.takeTwo {G : Nat → Prop} {w0 w : World} {L : List Asn} {A B : Asn} (S : St G w0 w (L ++ [A, B])) : St G w0 w (B :: L) := by
  have S1 : St G w0 w ((L ++ [A]) ++ [B]) := by simpa using S
  have S2 : St G w0 w ((B :: L) ++ [A]) := S1.unrot
  exact S2.unrot.tail
def BtRel1 (b : Nat) (ad : Option Addr) (cp : Nat) (s : List Event) (G : Nat → Prop) (w0 : World) (Φ : Nat → List Asn → Prop) (i : Value) (wr : World) : Prop :=
  ∃ (k p : Nat) (L : List Asn), p ≤ s.length ∧ i = .int .i64 p ∧ Hid ((batchesE s).drop k = batchesE (s.drop p)) ∧ Hid (k ≤ (batchesE s).length) ∧ Φ k L ∧ St G w0 wr (Blk true b #[.slice ad s.length cp] 22 :: Sl true Event.cells 7 (.slice ad s.length cp) s :: L)
def BtRel2 (b : Nat) (ad : Option Addr) (cp : Nat) (s : List Event) (G : Nat → Prop) (w0 : World) (L : List Asn) (p : Nat) (x : Event) (j : Value) (wr : World) : Prop :=
  ∃ q : Nat, p < q ∧ q ≤ s.length ∧ j = .int .i64 q ∧ Hid (∀ (r : Nat) y, p ≤ r → r < q → s[r]? = some y → y.key.at_ = x.key.at_) ∧ St G w0 wr (Blk true b #[.slice ad s.length cp] 22 :: Sl true Event.cells 7 (.slice ad s.length cp) s :: L)
set_option maxRecDepth 100000 in
set_option maxHeartbeats 8000000 in
theorem batches1_iter (b : Nat) (ad : Option Addr) (cp : Nat) (s : List Event) (hn : s.length ≤ 65536) :
    IterC Try.prog 35 #[.pointer (some ⟨b, 0, none⟩)] [Blk true b #[.slice ad s.length cp] 22, Sl true Event.cells 7 (.slice ad s.length cp) s] (batchesE s) MadeB := by
  intro l G w0 W Φ Ψ L hY h0 S
  simp only [List.cons_append, List.nil_append] at S
  show Calls Try.prog 35 #[.func (.yield l) #[] #[], .pointer (some ⟨b, 0, none⟩)] W _
  have HY := Lib.hid hY
  clear hY
  go_enter Try.func35, Try.ntmps35
  go_wp2_with first
    | go_skip
    | ((with_reducible refine wpList_skip ?hw ?_); (case hw => with_unfolding_all rfl); simp only [Act.put, List.setIfInBounds_toArray, List.set_cons_succ, List.set_cons_zero])
    | ((with_reducible refine tot_done ?ht ?_); (case ht => kernel_rfl))
    | ((with_reducible apply wps_text S); (case hm => kernel_rfl); (case hB => decide +kernel); clear S; intro wz S)
    | ((with_reducible apply wps_load S 0); (case hx => rfl); (case hi => rfl); (case hT => decide +kernel); (case hu => rfl))
  go_loopw [3] (fun i wr => BtRel1 b ad cp s G w0 Φ i wr) (fun i _ => s.length - (intOf i).toNat)
  case atStart => exact ⟨0, 0, L, Nat.zero_le _, rfl, rfl, Nat.zero_le _, h0, S⟩
  case round =>
    clear S h0
    obtain ⟨k, p, L, hp, rfl, Hk, Hkl, hΦ, S⟩ := hrel
    by_cases hlt : p < s.length
    · obtain ⟨x, hx⟩ : ∃ x, s[p]? = some x := ⟨_, List.getElem?_eq_getElem hlt⟩
      obtain ⟨R, o, rfl⟩ : ∃ R o, ad = some ⟨R, o, none⟩ := (S.sl 1 rfl).elim fun F h => h.head (by omega)
      have hlt2 : (p : Int) < s.length := by omega
      have Hx := Lib.hid hx
      have HΦ := Lib.hid hΦ
      clear hx hΦ
      go_wp2_with first
        | go_skip
        | ((with_reducible refine wpList_skip ?hw ?_); (case hw => with_unfolding_all rfl); simp only [Act.put, List.setIfInBounds_toArray, List.set_cons_succ, List.set_cons_zero])
        | ((with_reducible refine tot_done ?ht ?_); (case ht => kernel_rfl))
        | ((with_reducible apply wps_text S); (case hm => kernel_rfl); (case hB => decide +kernel); clear S; intro wz S)
        | ((with_reducible apply wps_load S 0); (case hx => rfl); (case hi => rfl); (case hT => decide +kernel); (case hu => rfl))
      go_loopw [4] (fun j wr => BtRel2 b (some ⟨R, o, none⟩) cp s G w0 L p x j wr) (fun j _ => s.length - (intOf j).toNat)
      case atStart =>
        refine ⟨p + 1, by omega, by omega, by go_num, fun r y h1 h2 hy => ?_, S⟩
        obtain rfl : r = p := by omega
        rw [Hx.out] at hy; cases hy; rfl
      case round =>
        clear S
        obtain ⟨q, hpq, hq, rfl, Hz, S⟩ := hrel
        by_cases hqt : q < s.length
        · obtain ⟨y, hy⟩ : ∃ y, s[q]? = some y := ⟨_, List.getElem?_eq_getElem hqt⟩
          have hqt2 : (q : Int) < s.length := by omega
          by_cases hk : y.key.at_ = x.key.at_
          · have k1 : (y.key.at_ == x.key.at_) = true := by rw [hk]; simp
            have HKe := Lib.hid hk
            clear hk
            have Hy := Lib.hid hy
            clear hy
            go_wp2_with first
              | go_skip
              | ((with_reducible refine wpList_skip ?hw ?_); (case hw => with_unfolding_all rfl); simp only [Act.put, List.setIfInBounds_toArray, List.set_cons_succ, List.set_cons_zero])
              | ((with_reducible apply wps_load_el S 1 (hj := Hy.out) (q := 0) (u := .int .i64 y.key.at_)); (case hx => rfl); (case hi => rfl); (case hn => omega); (case hT => decide +kernel); (case hu => rfl))
              | ((with_reducible apply wps_load_el S 1 (hj := Hx.out) (q := 0) (u := .int .i64 x.key.at_)); (case hx => rfl); (case hi => rfl); (case hn => omega); (case hT => decide +kernel); (case hu => rfl))
              | ((with_reducible refine tot_done ?ht ?_); (case ht => kernel_rfl))
              | ((with_reducible apply wps_text S); (case hm => kernel_rfl); (case hB => decide +kernel); clear S; intro wz S)
              | ((with_reducible apply wps_load S 0); (case hx => rfl); (case hi => rfl); (case hT => decide +kernel); (case hu => rfl))
            go_roundw
            case rel =>
              refine ⟨q + 1, by omega, by omega, by go_num, fun r z h1 h2 hz => ?_, S⟩
              by_cases e : r = q
              · subst e; rw [Hy.out] at hz; cases hz; exact HKe.out
              · exact Hz.out r z h1 (by omega) hz
            case measure => first | (simp [intOf]; done) | (simp [intOf]; omega)
          · have k1 : (y.key.at_ == x.key.at_) = false := by simpa using hk
            have hstop : ∀ z, s[q]? = some z → z.key.at_ ≠ x.key.at_ := fun z hz => by rw [hy] at hz; cases hz; exact hk
            have hst := batches_step Hx.out hpq hq Hz.out hstop
            have Hat : Hid (x.key.at_ = atE ((s.take q).drop p)) := by show _ = _; rw [List.drop_take]; exact hst.2.symm
            have hd1 : (batchesE s).drop k = ((s.take q).drop p) :: batchesE (s.drop q) := by rw [Hk.out, hst.1, List.drop_take]
            have Hg : Hid ((batchesE s)[k]? = some ((s.take q).drop p)) := by
              have := congrArg (fun m : List (List Event) => m[0]?) hd1
              show _ = _
              simpa [List.getElem?_drop] using this
            have Hkl2 : Hid (k + 1 ≤ (batchesE s).length) := (List.getElem?_eq_some_iff.1 Hg.out).1
            have Hk2 : Hid ((batchesE s).drop (k + 1) = batchesE (s.drop q)) := by
              show _ = _
              rw [← List.drop_drop, hd1]; rfl
            clear hst hd1
            clear hk hstop
            have Hy := Lib.hid hy
            clear hy
            go_wp2_with first
              | go_skip
              | ((with_reducible refine wpList_skip ?hw ?_); (case hw => with_unfolding_all rfl); simp only [Act.put, List.setIfInBounds_toArray, List.set_cons_succ, List.set_cons_zero])
              | ((with_reducible apply wps_load_el S 1 (hj := Hy.out) (q := 0) (u := .int .i64 y.key.at_)); (case hx => rfl); (case hi => rfl); (case hn => omega); (case hT => decide +kernel); (case hu => rfl))
              | ((with_reducible apply wps_load_el S 1 (hj := Hx.out) (q := 0) (u := .int .i64 x.key.at_)); (case hx => rfl); (case hi => rfl); (case hn => omega); (case hT => decide +kernel); (case hu => rfl))
              | ((with_reducible refine tot_done ?ht ?_); (case ht => kernel_rfl))
              | ((with_reducible apply wps_text S); (case hm => kernel_rfl); (case hB => decide +kernel); clear S; intro wz S)
              | ((with_reducible apply wps_load S 0); (case hx => rfl); (case hi => rfl); (case hT => decide +kernel); (case hu => rfl))
            (refine wp_region_yi (soft := [0, 1, 2, 3, 4, 5, 6, 7, 8, 9]) 12 S ?hm ?hB ?_); (case hm => kernel_rfl); (case hB => decide +kernel); clear S
            iterate 10
              (with_reducible apply softs_cons)
              (case hw =>
                (with_reducible apply soft_of); (case hi => rfl)
                intro T wz S
                simp only [List.cons_append] at S
                go_wp2_with first
                  | go_skip
                  | ((with_reducible apply wps_load_el S 1 (hj := Hx.out) (q := 0) (u := .int .i64 x.key.at_)); (case hx => rfl); (case hi => rfl); (case hn => omega); (case hT => decide +kernel); (case hu => rfl))
                  | ((with_reducible apply wps_slice (E := 30) S 1 (l := p) (u := q)); (case hx => rfl); (case hi => rfl); (case hT => exact Try.underlying22); (case hE => intro w; kernel_rfl); (case hlo => first | exact .inr rfl | exact .inl ⟨rfl, rfl⟩); (case hhi => first | exact .inr rfl | exact .inl ⟨rfl, rfl⟩); (case h1 => first | omega | (simp; omega)); (case h2 => first | omega | (simp; omega)); clear S; intro az nz cz hnz S)
                  | (go_at_call 36; have S3 := (show St _ _ _ ((_ :: _ :: L) ++ [_]) from S).unrot; refine Calls.mono (clone_Ev _ _ (S3.get (i := 0) rfl).choose_spec (by simp; omega)) ?_; clear S3; rintro r wz ⟨ad2, c2, rfl, _, T⟩;  replace S := S.join T rfl; clear T; simp only [List.cons_append, List.nil_append] at S)
                  | ((with_reducible refine tot_done ?ht ?_); (case ht => kernel_rfl))
                  | ((with_reducible apply wps_load S 0); (case hx => rfl); (case hi => rfl); (case hT => decide +kernel); (case hu => rfl))
                exact ⟨rfl, S⟩)
              (case hs => exact ⟨_, rfl, by kernel_rfl⟩)
            refine softsI_nil ?_
            (with_reducible apply WI_hard1 (i := 10)); (case hn => rfl); (case hr => decide +kernel); (case hiy => rfl)
            intro wz S
            (with_reducible apply hardI_of); (case hi => rfl)
            simp only [List.cons_append] at S
            go_wp2_with first
              | go_skip
              | ((with_reducible apply wps_load_el S 1 (hj := Hx.out) (q := 0) (u := .int .i64 x.key.at_)); (case hx => rfl); (case hi => rfl); (case hn => omega); (case hT => decide +kernel); (case hu => rfl))
              | ((with_reducible apply wps_slice (E := 30) S 1 (l := p) (u := q)); (case hx => rfl); (case hi => rfl); (case hT => exact Try.underlying22); (case hE => intro w; kernel_rfl); (case hlo => first | exact .inr rfl | exact .inl ⟨rfl, rfl⟩); (case hhi => first | exact .inr rfl | exact .inl ⟨rfl, rfl⟩); (case h1 => first | omega | (simp; omega)); (case h2 => first | omega | (simp; omega)); clear S; intro az nz cz hnz S)
              | (go_at_call 36; have S3 := (show St _ _ _ ((_ :: _ :: L) ++ [_]) from S).unrot; refine Calls.mono (clone_Ev _ _ (S3.get (i := 0) rfl).choose_spec (by simp; omega)) ?_; clear S3; rintro r wz ⟨ad2, c2, rfl, _, T⟩;  replace S := S.join T rfl; clear T; simp only [List.cons_append, List.nil_append] at S)
              | ((with_reducible refine tot_done ?ht ?_); (case ht => kernel_rfl))
              | ((with_reducible apply wps_load S 0); (case hx => rfl); (case hi => rfl); (case hT => decide +kernel); (case hu => rfl))
            refine ⟨[_], by have S2 := S.rot; simpa only [List.append_nil, List.cons_append, List.append_assoc, List.nil_append] using S2, ?_⟩
            clear S
            (with_reducible apply WI_hard1 (i := 11)); (case hn => rfl); (case hr => decide +kernel); (case hiy => rfl)
            intro wz S
            (with_reducible apply hardI_of); (case hi => rfl)
            simp only [List.cons_append] at S
            go_wp2_with first
              | go_skip
              | ((with_reducible apply wps_load_el S 1 (hj := Hx.out) (q := 0) (u := .int .i64 x.key.at_)); (case hx => rfl); (case hi => rfl); (case hn => omega); (case hT => decide +kernel); (case hu => rfl))
              | ((with_reducible apply wps_slice (E := 30) S 1 (l := p) (u := q)); (case hx => rfl); (case hi => rfl); (case hT => exact Try.underlying22); (case hE => intro w; kernel_rfl); (case hlo => first | exact .inr rfl | exact .inl ⟨rfl, rfl⟩); (case hhi => first | exact .inr rfl | exact .inl ⟨rfl, rfl⟩); (case h1 => first | omega | (simp; omega)); (case h2 => first | omega | (simp; omega)); clear S; intro az nz cz hnz S)
              | (go_at_call 36; have S3 := (show St _ _ _ ((_ :: _ :: L) ++ [_]) from S).unrot; refine Calls.mono (clone_Ev _ _ (S3.get (i := 0) rfl).choose_spec (by simp; omega)) ?_; clear S3; rintro r wz ⟨ad2, c2, rfl, _, T⟩;  replace S := S.join T rfl; clear T; simp only [List.cons_append, List.nil_append] at S)
              | ((with_reducible refine tot_done ?ht ?_); (case ht => kernel_rfl))
              | ((with_reducible apply wps_load S 0); (case hx => rfl); (case hi => rfl); (case hT => decide +kernel); (case hu => rfl))
            refine ⟨[_, _], by have S2 := S.rot; simpa only [List.append_nil, List.cons_append, List.append_assoc, List.nil_append] using S2, ?_⟩
            clear S
            (with_reducible apply WI_yield); (case hn => rfl); (case hr => decide +kernel)
            intro wz S
            have S3 := (show St G w0 wz ((_ :: _ :: L) ++ [_, _]) from S).takeTwo
            rw [show ((s.take q).drop p).length = q - p by rw [List.length_drop, List.length_take, Nat.min_eq_left (by omega)]] at S3
            clear S
            refine wpOpIn_yield (l := l) rfl rfl rfl rfl rfl rfl (HY.out k _ _ _ L wz Hg.out ⟨_, _, rfl, Hat.out, rfl⟩ HΦ.out S3) ?_
            clear S3
            rintro e w' ⟨L', S, (⟨rfl, hΦ'⟩ | ⟨rfl, hΨ⟩)⟩
            · refine ⟨_, rfl, ?_⟩
              refine anyIn_one (i := 13) rfl (by decide +kernel) rfl ?_
              go_wp2_with first
                | ((with_reducible refine tot_done ?ht ?_); (case ht => kernel_rfl))
              refine anyIn_done (by decide +kernel) ?_
              have HΦ' := Lib.hid hΦ'
              clear hΦ'
              go_wp2_with first
                | go_skip
                | ((with_reducible refine wpList_skip ?hw ?_); (case hw => with_unfolding_all rfl); simp only [Act.put, List.setIfInBounds_toArray, List.set_cons_succ, List.set_cons_zero])
                | ((with_reducible refine tot_done ?ht ?_); (case ht => kernel_rfl))
                | ((with_reducible apply wps_text S); (case hm => kernel_rfl); (case hB => decide +kernel); clear S; intro wz S)
                | ((with_reducible apply wps_load S 0); (case hx => rfl); (case hi => rfl); (case hT => decide +kernel); (case hu => rfl))
              go_roundw
              case rel => exact ⟨k + 1, q, L', by omega, by go_num, Hk2.out, Hkl2.out, HΦ'.out, S⟩
              case measure => first | (simp [intOf]; done) | (simp [intOf]; omega)
            · refine ⟨_, rfl, ?_⟩
              refine anyIn_one (i := 13) rfl (by decide +kernel) rfl ?_
              go_wp2_with first
                | ((with_reducible refine tot_done ?ht ?_); (case ht => kernel_rfl))
              refine anyIn_done (by decide +kernel) ?_
              have HΨ := Lib.hid hΨ
              clear hΨ
              go_wp2_with first
                | go_skip
                | ((with_reducible refine wpList_skip ?hw ?_); (case hw => with_unfolding_all rfl); simp only [Act.put, List.setIfInBounds_toArray, List.set_cons_succ, List.set_cons_zero])
                | ((with_reducible refine tot_done ?ht ?_); (case ht => kernel_rfl))
                | ((with_reducible apply wps_text S); (case hm => kernel_rfl); (case hB => decide +kernel); clear S; intro wz S)
                | ((with_reducible apply wps_load S 0); (case hx => rfl); (case hi => rfl); (case hT => decide +kernel); (case hu => rfl))
              (try simp only [Exit.inBlock, Exit.then]); refine bodyPost_ret (results_none rfl _ _ _) rfl ?_
              exact ⟨⟨_, rfl⟩, L', S, .inr ⟨k + 1, Hkl2.out, HΨ.out⟩⟩
        · obtain rfl : q = s.length := by omega
          have hstop : ∀ z, s[s.length]? = some z → z.key.at_ ≠ x.key.at_ := fun z hz => by simp at hz
          have hst := batches_step Hx.out hpq hq Hz.out hstop
          have Hat : Hid (x.key.at_ = atE ((s.take s.length).drop p)) := by show _ = _; rw [List.drop_take]; exact hst.2.symm
          have hd1 : (batchesE s).drop k = ((s.take s.length).drop p) :: batchesE (s.drop s.length) := by rw [Hk.out, hst.1, List.drop_take]
          have Hg : Hid ((batchesE s)[k]? = some ((s.take s.length).drop p)) := by
            have := congrArg (fun m : List (List Event) => m[0]?) hd1
            show _ = _
            simpa [List.getElem?_drop] using this
          have Hkl2 : Hid (k + 1 ≤ (batchesE s).length) := (List.getElem?_eq_some_iff.1 Hg.out).1
          have Hk2 : Hid ((batchesE s).drop (k + 1) = batchesE (s.drop s.length)) := by
            show _ = _
            rw [← List.drop_drop, hd1]; rfl
          clear hst hd1
          clear hstop
          go_wp2_with first
            | go_skip
            | ((with_reducible refine wpList_skip ?hw ?_); (case hw => with_unfolding_all rfl); simp only [Act.put, List.setIfInBounds_toArray, List.set_cons_succ, List.set_cons_zero])
            | ((with_reducible apply wps_load_el S 1 (hj := Hx.out) (q := 0) (u := .int .i64 x.key.at_)); (case hx => rfl); (case hi => rfl); (case hn => omega); (case hT => decide +kernel); (case hu => rfl))
            | ((with_reducible refine tot_done ?ht ?_); (case ht => kernel_rfl))
            | ((with_reducible apply wps_text S); (case hm => kernel_rfl); (case hB => decide +kernel); clear S; intro wz S)
            | ((with_reducible apply wps_load S 0); (case hx => rfl); (case hi => rfl); (case hT => decide +kernel); (case hu => rfl))
          (refine wp_region_yi (soft := [0, 1, 2, 3, 4, 5, 6, 7, 8, 9]) 12 S ?hm ?hB ?_); (case hm => kernel_rfl); (case hB => decide +kernel); clear S
          iterate 10
            (with_reducible apply softs_cons)
            (case hw =>
              (with_reducible apply soft_of); (case hi => rfl)
              intro T wz S
              simp only [List.cons_append] at S
              go_wp2_with first
                | go_skip
                | ((with_reducible apply wps_load_el S 1 (hj := Hx.out) (q := 0) (u := .int .i64 x.key.at_)); (case hx => rfl); (case hi => rfl); (case hn => omega); (case hT => decide +kernel); (case hu => rfl))
                | ((with_reducible apply wps_slice (E := 30) S 1 (l := p) (u := s.length)); (case hx => rfl); (case hi => rfl); (case hT => exact Try.underlying22); (case hE => intro w; kernel_rfl); (case hlo => first | exact .inr rfl | exact .inl ⟨rfl, rfl⟩); (case hhi => first | exact .inr rfl | exact .inl ⟨rfl, rfl⟩); (case h1 => first | omega | (simp; omega)); (case h2 => first | omega | (simp; omega)); clear S; intro az nz cz hnz S)
                | (go_at_call 36; have S3 := (show St _ _ _ ((_ :: _ :: L) ++ [_]) from S).unrot; refine Calls.mono (clone_Ev _ _ (S3.get (i := 0) rfl).choose_spec (by simp; omega)) ?_; clear S3; rintro r wz ⟨ad2, c2, rfl, _, T⟩;  replace S := S.join T rfl; clear T; simp only [List.cons_append, List.nil_append] at S)
                | ((with_reducible refine tot_done ?ht ?_); (case ht => kernel_rfl))
                | ((with_reducible apply wps_load S 0); (case hx => rfl); (case hi => rfl); (case hT => decide +kernel); (case hu => rfl))
              exact ⟨rfl, S⟩)
            (case hs => exact ⟨_, rfl, by kernel_rfl⟩)
          refine softsI_nil ?_
          (with_reducible apply WI_hard1 (i := 10)); (case hn => rfl); (case hr => decide +kernel); (case hiy => rfl)
          intro wz S
          (with_reducible apply hardI_of); (case hi => rfl)
          simp only [List.cons_append] at S
          go_wp2_with first
            | go_skip
            | ((with_reducible apply wps_load_el S 1 (hj := Hx.out) (q := 0) (u := .int .i64 x.key.at_)); (case hx => rfl); (case hi => rfl); (case hn => omega); (case hT => decide +kernel); (case hu => rfl))
            | ((with_reducible apply wps_slice (E := 30) S 1 (l := p) (u := s.length)); (case hx => rfl); (case hi => rfl); (case hT => exact Try.underlying22); (case hE => intro w; kernel_rfl); (case hlo => first | exact .inr rfl | exact .inl ⟨rfl, rfl⟩); (case hhi => first | exact .inr rfl | exact .inl ⟨rfl, rfl⟩); (case h1 => first | omega | (simp; omega)); (case h2 => first | omega | (simp; omega)); clear S; intro az nz cz hnz S)
            | (go_at_call 36; have S3 := (show St _ _ _ ((_ :: _ :: L) ++ [_]) from S).unrot; refine Calls.mono (clone_Ev _ _ (S3.get (i := 0) rfl).choose_spec (by simp; omega)) ?_; clear S3; rintro r wz ⟨ad2, c2, rfl, _, T⟩;  replace S := S.join T rfl; clear T; simp only [List.cons_append, List.nil_append] at S)
            | ((with_reducible refine tot_done ?ht ?_); (case ht => kernel_rfl))
            | ((with_reducible apply wps_load S 0); (case hx => rfl); (case hi => rfl); (case hT => decide +kernel); (case hu => rfl))
          refine ⟨[_], by have S2 := S.rot; simpa only [List.append_nil, List.cons_append, List.append_assoc, List.nil_append] using S2, ?_⟩
          clear S
          (with_reducible apply WI_hard1 (i := 11)); (case hn => rfl); (case hr => decide +kernel); (case hiy => rfl)
          intro wz S
          (with_reducible apply hardI_of); (case hi => rfl)
          simp only [List.cons_append] at S
          go_wp2_with first
            | go_skip
            | ((with_reducible apply wps_load_el S 1 (hj := Hx.out) (q := 0) (u := .int .i64 x.key.at_)); (case hx => rfl); (case hi => rfl); (case hn => omega); (case hT => decide +kernel); (case hu => rfl))
            | ((with_reducible apply wps_slice (E := 30) S 1 (l := p) (u := s.length)); (case hx => rfl); (case hi => rfl); (case hT => exact Try.underlying22); (case hE => intro w; kernel_rfl); (case hlo => first | exact .inr rfl | exact .inl ⟨rfl, rfl⟩); (case hhi => first | exact .inr rfl | exact .inl ⟨rfl, rfl⟩); (case h1 => first | omega | (simp; omega)); (case h2 => first | omega | (simp; omega)); clear S; intro az nz cz hnz S)
            | (go_at_call 36; have S3 := (show St _ _ _ ((_ :: _ :: L) ++ [_]) from S).unrot; refine Calls.mono (clone_Ev _ _ (S3.get (i := 0) rfl).choose_spec (by simp; omega)) ?_; clear S3; rintro r wz ⟨ad2, c2, rfl, _, T⟩;  replace S := S.join T rfl; clear T; simp only [List.cons_append, List.nil_append] at S)
            | ((with_reducible refine tot_done ?ht ?_); (case ht => kernel_rfl))
            | ((with_reducible apply wps_load S 0); (case hx => rfl); (case hi => rfl); (case hT => decide +kernel); (case hu => rfl))
          refine ⟨[_, _], by have S2 := S.rot; simpa only [List.append_nil, List.cons_append, List.append_assoc, List.nil_append] using S2, ?_⟩
          clear S
          (with_reducible apply WI_yield); (case hn => rfl); (case hr => decide +kernel)
          intro wz S
          have S3 := (show St G w0 wz ((_ :: _ :: L) ++ [_, _]) from S).takeTwo
          rw [show ((s.take s.length).drop p).length = s.length - p by rw [List.length_drop, List.length_take, Nat.min_eq_left (by omega)]] at S3
          clear S
          refine wpOpIn_yield (l := l) rfl rfl rfl rfl rfl rfl (HY.out k _ _ _ L wz Hg.out ⟨_, _, rfl, Hat.out, rfl⟩ HΦ.out S3) ?_
          clear S3
          rintro e w' ⟨L', S, (⟨rfl, hΦ'⟩ | ⟨rfl, hΨ⟩)⟩
          · refine ⟨_, rfl, ?_⟩
            refine anyIn_one (i := 13) rfl (by decide +kernel) rfl ?_
            go_wp2_with first
              | ((with_reducible refine tot_done ?ht ?_); (case ht => kernel_rfl))
            refine anyIn_done (by decide +kernel) ?_
            have HΦ' := Lib.hid hΦ'
            clear hΦ'
            go_wp2_with first
              | go_skip
              | ((with_reducible refine wpList_skip ?hw ?_); (case hw => with_unfolding_all rfl); simp only [Act.put, List.setIfInBounds_toArray, List.set_cons_succ, List.set_cons_zero])
              | ((with_reducible refine tot_done ?ht ?_); (case ht => kernel_rfl))
              | ((with_reducible apply wps_text S); (case hm => kernel_rfl); (case hB => decide +kernel); clear S; intro wz S)
              | ((with_reducible apply wps_load S 0); (case hx => rfl); (case hi => rfl); (case hT => decide +kernel); (case hu => rfl))
            go_roundw
            case rel => exact ⟨k + 1, s.length, L', by omega, by go_num, Hk2.out, Hkl2.out, HΦ'.out, S⟩
            case measure => first | (simp [intOf]; done) | (simp [intOf]; omega)
          · refine ⟨_, rfl, ?_⟩
            refine anyIn_one (i := 13) rfl (by decide +kernel) rfl ?_
            go_wp2_with first
              | ((with_reducible refine tot_done ?ht ?_); (case ht => kernel_rfl))
            refine anyIn_done (by decide +kernel) ?_
            have HΨ := Lib.hid hΨ
            clear hΨ
            go_wp2_with first
              | go_skip
              | ((with_reducible refine wpList_skip ?hw ?_); (case hw => with_unfolding_all rfl); simp only [Act.put, List.setIfInBounds_toArray, List.set_cons_succ, List.set_cons_zero])
              | ((with_reducible refine tot_done ?ht ?_); (case ht => kernel_rfl))
              | ((with_reducible apply wps_text S); (case hm => kernel_rfl); (case hB => decide +kernel); clear S; intro wz S)
              | ((with_reducible apply wps_load S 0); (case hx => rfl); (case hi => rfl); (case hT => decide +kernel); (case hu => rfl))
            (try simp only [Exit.inBlock, Exit.then]); refine bodyPost_ret (results_none rfl _ _ _) rfl ?_
            exact ⟨⟨_, rfl⟩, L', S, .inr ⟨k + 1, Hkl2.out, HΨ.out⟩⟩
    · obtain rfl : p = s.length := by omega
      have hkk : k = (batchesE s).length := by
        have h1 := Hk.out
        rw [List.drop_length] at h1
        have h2 := congrArg List.length h1
        have h3 := Hkl.out
        rw [show batchesE [] = [] by rw [batchesE]] at h2
        simp only [List.length_drop, List.length_nil] at h2
        omega
      have Hkk := Lib.hid hkk
      have HΦ := Lib.hid hΦ
      clear hkk hΦ
      go_wp2_with first
        | go_skip
        | ((with_reducible refine wpList_skip ?hw ?_); (case hw => with_unfolding_all rfl); simp only [Act.put, List.setIfInBounds_toArray, List.set_cons_succ, List.set_cons_zero])
        | ((with_reducible refine tot_done ?ht ?_); (case ht => kernel_rfl))
        | ((with_reducible apply wps_text S); (case hm => kernel_rfl); (case hB => decide +kernel); clear S; intro wz S)
        | ((with_reducible apply wps_load S 0); (case hx => rfl); (case hi => rfl); (case hT => decide +kernel); (case hu => rfl))
      go_end0
      exact ⟨⟨_, rfl⟩, L, S, .inl (by rw [← Hkk.out]; exact HΦ.out)⟩
set_option maxRecDepth 100000 in
set_option maxHeartbeats 4000000 in
/-- keys.Batches hands back an iterator over a new list in order. -/
theorem batches_calls (v : Value) (l : List Event) (w : World) (F : Nat → Prop) (h : (Sl true Event.cells 7 v l).at_ w F) (hn : l.length ≤ 65536) :
    Calls Try.prog 11 #[v] w fun r w' => ∃ b ad c, r = .returned (.func (.func 35) #[] #[.pointer (some ⟨b, 0, none⟩)]) ∧ St (fun _ => False) w w' [Blk false b #[.slice ad l.length c] 22, Mem.Own 30 Event.cells 7 (.slice ad l.length c) (sortE l)] := by
  have S : St (fun _ => False) w w [Sl true Event.cells 7 v l] := (St.init _ w).share rfl rfl h
  clear h
  go_enter Try.func11, Try.ntmps11
  go_wp2_with first
    | (go_at_call 13; refine Calls.mono (sort_calls _ l _ _ (S.get (i := 0) rfl).choose_spec hn) ?_; rintro e wz ⟨ad, c, rfl, T⟩; replace S := S.join T rfl; clear T; simp only [List.cons_append, List.nil_append] at S)
    | ((with_reducible apply wps_store S 0); (case hx => rfl); (case hy => rfl); (case hi => rfl); (case hT => decide +kernel); (case h1 => rfl); (case hn => exact Nat.le_of_ble_eq_true rfl); clear S; intro wz S; simp only [List.set_cons_zero, List.setIfInBounds_toArray] at S)
    | ((with_reducible refine tot_done ?ht ?_); (case ht => kernel_rfl))
    | ((with_reducible apply wps_alloc1 (E := 22) S); (case hz => exact Try.zeroValue22); (case h1 => rfl); clear S; intro bz wz S)
  go_ret
  exact ⟨_, _, _, rfl, S.pick [0, 1] rfl⟩
end Go.Proofs.Ytcbdacmdmaoegaa
