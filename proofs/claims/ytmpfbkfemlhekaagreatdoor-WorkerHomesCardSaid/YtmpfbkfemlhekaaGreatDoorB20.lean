import Derived.Test.YtmpfbkfemlhekaaGreatDoorB19
/- The walk of a worker's Next. -/
namespace Go.Proofs.YtmpfbkfemlhekaaGreatDoor
open Go Go.RowKit Reg Mem

structure WkOk (k : WkE) : Prop where
  up : (k.ps.map (·.1)).Pairwise (· < ·)
  many : k.ps.length ≤ 32
  few : ∀ q ∈ k.ps, q.2.evs.length ≤ 65536
theorem sortZ_self {l : List Int} (h : l.Pairwise (· < ·)) : sortZ l = l := by
  refine (sortZ_perm l).eq_of_pairwise (fun a b _ _ h k => ?_) (sortZ_up l) (h.imp fun h => by omega)
  omega
theorem up_nodup {l : List Int} (h : l.Pairwise (· < ·)) : l.Nodup := h.imp fun h => by omega
def turnStep (most : Int) (acc : Option (Int × Int)) (q : Int × LpE) : Option (Int × Int) :=
  match lpNext q.2, acc with
  | none, _ => acc
  | some t, none => if t ≤ most then some (t, q.1) else none
  | some t, some (u, m) => if t ≤ most ∧ t < u then some (t, q.1) else some (u, m)
def turnE (l : List (Int × LpE)) (most : Int) : Option (Int × Int) := l.foldl (turnStep most) none
theorem turnE_snoc (l : List (Int × LpE)) (most : Int) (q : Int × LpE) : turnE (l ++ [q]) most = turnStep most (turnE l most) q := by unfold turnE; rw [List.foldl_append]; rfl
theorem turnF_mem (most u m : Int) : ∀ (l : List (Int × LpE)) (acc : Option (Int × Int)), l.foldl (turnStep most) acc = some (u, m) → acc = some (u, m) ∨ ∃ q ∈ l, q.1 = m ∧ lpNext q.2 = some u
  | [], acc, h => .inl h
  | q :: l, acc, h => by
    rcases turnF_mem most u m l (turnStep most acc q) h with h | ⟨q', h1, h2⟩
    · clear turnF_mem
      unfold turnStep at h
      split at h
      · exact .inl h
      · rename_i t h1 _
        split at h
        · cases h; exact .inr ⟨q, by simp, rfl, h1⟩
        · cases h
      · rename_i h1 _
        split at h
        · cases h; exact .inr ⟨q, by simp, rfl, h1⟩
        · cases h; exact .inl rfl
    · exact .inr ⟨q', List.mem_cons_of_mem _ h1, h2⟩
theorem turnE_mem {l : List (Int × LpE)} {most u m : Int} (h : turnE l most = some (u, m)) : ∃ q ∈ l, q.1 = m ∧ lpNext q.2 = some u := by
  rcases turnF_mem most u m l none h with h | h
  · cases h
  · exact h
def evsAt (l : List (Int × LpE)) (m : Int) : List Event := ((l.find? fun q => q.1 == m).map fun q => q.2.evs).getD []
def manyAt (t : Int) (l : List Event) : Nat := l.countP fun x => x.key.at_ == t
def turnV (l : List (Int × LpE)) (most : Int) : Value :=
  match turnE l most with
  | none => .tuple #[.agg #[.int .i64 0, .int .i64 0, .int .i64 0], .bool false]
  | some (t, m) => .tuple #[.agg #[.int .i64 t, .int .i64 m, .int .i64 (manyAt t (evsAt l m))], .bool true]
theorem find_at : ∀ {l : List (Int × LpE)} {n : Nat} {q : Int × LpE}, (l.map (·.1)).Nodup → l[n]? = some q → evsAt l q.1 = q.2.evs
  | [], n, q, _, h => by simp at h
  | a :: l, 0, q, _, h => by simp at h; subst h; simp [evsAt]
  | a :: l, n + 1, q, hd, h => by
    rw [List.map_cons, List.nodup_cons] at hd
    have := find_at (l := l) (n := n) hd.2 (by simpa using h)
    unfold evsAt at *
    rw [List.find?_cons_of_neg]
    · exact this
    · intro e
      have e2 : a.1 = q.1 := by simpa using e
      exact hd.1 (List.mem_map.2 ⟨q, List.mem_of_getElem? (by simpa using h), e2.symm⟩)
theorem workerR_all {W R : Nat} {k : WkE} {w : World} {F : Nat → Prop} (h : (workerA W R k).at_ w F) :
    ∃ (g M : Nat) (qs : List LpAt), qs.map LpAt.e = k.ps ∧ St (fun _ => False) w w [rd (workerA W R k), Blk true W #[.pointer (some ⟨g, 0, none⟩), .map (some M)] 95, MapK true Tryz.prog 3 intE M (qs.map LpAt.kv), rd (stars (qs.map fun q => lpA q.x R q.p))] := by
  have h0 := h
  obtain ⟨⟨g, M, qs⟩, F1, F2, ⟨h1, _⟩, ⟨F3, F4, h3, ⟨F5, F6, h5, ⟨F7, F8, h7, h8, _⟩, _, _⟩, _, _⟩, _, _⟩ := h
  refine ⟨g, M, qs, h1, ?_⟩
  have S1 : St (fun _ => False) w w [rd (stars (qs.map fun q => lpA q.x R q.p))] := (St.init _ w).share (F := F8) rfl rfl h8
  have S2 := S1.share (A := MapK true Tryz.prog 3 intE M (qs.map LpAt.kv)) (F := F7) rfl rfl h7
  have S3 := S2.share (A := Blk true W #[.pointer (some ⟨g, 0, none⟩), .map (some M)] 95) rfl rfl h3
  exact S3.share (A := rd (workerA W R k)) rfl rfl h0
theorem rd_get {A : Asn} {w : World} (h : ∃ F, (rd A).at_ w F) : ∃ F, A.at_ w F := h
def tA (a : Option (Int × Int)) : Int := (a.map (·.1)).getD 0
def tL (a : Option (Int × Int)) : Int := (a.map (·.2)).getD 0
def wrd (W R g M : Nat) (k : WkE) (qs : List LpAt) : List Asn := [rd (workerA W R k), Blk true W #[.pointer (some ⟨g, 0, none⟩), .map (some M)] 95, MapK true Tryz.prog 3 intE M (qs.map LpAt.kv), rd (stars (qs.map fun q => lpA q.x R q.p))]
def TurnRel (b4 b6 W R g M : Nat) (k : WkE) (qs : List LpAt) (v : Value) (most : Int) (w : World) (is i : Value) (wr : World) : Prop :=
  ∃ (j : Nat) (acc : Option (Int × Int)), j ≤ k.ps.length ∧ i = .int .i64 j ∧ is = .bool acc.isSome ∧ Hid (turnE (k.ps.take j) most = acc) ∧
    St (fun _ => False) w wr (Sl true intE 1 v (k.ps.map (·.1)) :: Blk false b6 #[.int .i64 (tA acc), .int .i64 (tL acc), .int .i64 0] 54 :: Blk false b4 #[.int .i64 0, .int .i64 0, .int .i64 0] 54 :: wrd W R g M k qs)
def WnPhi (b4 b6 W R g M : Nat) (k : WkE) (qs : List LpAt) (v : Value) (t m : Int) (l : List Event) (j : Nat) (L : List Asn) : Prop :=
  ∃ (c : Nat), Hid (c = manyAt t (l.take j)) ∧ L = Sl true intE 1 v (k.ps.map (·.1)) :: Blk false b6 #[.int .i64 t, .int .i64 m, .int .i64 c] 54 :: Blk false b4 #[.int .i64 0, .int .i64 0, .int .i64 0] 54 :: wrd W R g M k qs
theorem manyAt_snoc {l : List Event} {j : Nat} {x : Event} (h : l[j]? = some x) (t : Int) : manyAt t (l.take (j + 1)) = manyAt t (l.take j) + (if x.key.at_ = t then 1 else 0) := by
  unfold manyAt
  rw [List.take_add_one, h, Option.toList_some, List.countP_append]
  by_cases e : x.key.at_ = t
  · rw [if_pos e]; simp [e]
  · rw [if_neg e]; simp [e]
set_option maxRecDepth 100000 in
set_option maxHeartbeats 16000000 in
theorem wnext_calls (W R : Nat) (k : WkE) (hk : WkOk k) (most : Int) (w : World) (F : Nat → Prop) (h : (workerA W R k).at_ w F) :
    Calls Tryz.prog 13 #[.pointer (some ⟨W, 0, none⟩), .int .i64 most] w fun e w' => e = .returned (turnV k.ps most) ∧ Below w.heap.size w w' := by
  obtain ⟨g, M, qs, hq, S⟩ := workerR_all h
  clear h
  have HL := Lib.hid fun w F h => wlps_calls W R k (by have := hk.many; omega) w F h
  rw [sortZ_self hk.up] at HL
  obtain ⟨V, hV⟩ : ∃ V, turnV k.ps most = V := ⟨_, rfl⟩
  rw [hV]
  have HV := Lib.hid hV
  clear hV
  have HK := Lib.hid hk
  have HQ := Lib.hid hq
  have hlen : (k.ps.map (·.1)).length = k.ps.length := List.length_map ..
  have HLEN := Lib.hid hlen
  have hkl : k.ps.length ≤ 32 := hk.many
  clear hk hq hlen
  refine calls_marks Tryz.func13 rfl ?_
  simp only [Tryz.ntmps13, List.size_toArray, List.length_cons, List.length_nil, Nat.reduceAdd, Nat.reduceSub, Array.replicate_succ, Array.replicate_zero, List.push_toArray, List.append_toArray, List.nil_append, List.cons_append]
  go_wp2_with first | ((with_reducible apply wps_alloca (E := 54) S); (case hz => exact Tryz.zeroValue54); clear S; first | (guard_hyp b4 : Nat; intro b6 wz S) | intro b4 wz S) | (go_at_call 12; (with_reducible refine Calls.mono (HL.out _ _ (rd_get (S.get (i := 2) rfl)).choose_spec) ?_); rintro rr wz ⟨ad, c, rfl, T⟩; rw [HLEN.out] at T; rw [HLEN.out]; replace S := S.join T rfl; clear T; simp only [List.cons_append, List.nil_append] at S)
  replace S := S.freeze true 0 intE_len rfl
  simp only [List.set_cons_zero] at S
  go_loopw [7, 16] (fun is i wr => TurnRel b4 b6 W R g M k qs (.slice ad k.ps.length c) most w is i wr) (fun _ i _ => k.ps.length - (intOf i).toNat)
  case atStart => exact ⟨0, none, Nat.zero_le _, rfl, rfl, Lib.hid rfl, S⟩
  case round =>
    clear S
    obtain ⟨j, acc, hj, rfl, rfl, HACC, S⟩ := hrel
    by_cases hlt : j < k.ps.length
    · obtain ⟨p, hp⟩ : ∃ p, k.ps[j]? = some p := ⟨_, List.getElem?_eq_getElem hlt⟩
      obtain ⟨Rb, o, rfl⟩ : ∃ R o, ad = some ⟨R, o, none⟩ := (S.sl 0 rfl).elim fun F h => h.head (by rw [HLEN.out]; omega)
      have hlt2 : (j : Int) < k.ps.length := by omega
      have HTK : Hid (turnE (k.ps.take (j + 1)) most = turnStep most acc p) := Lib.hid (by rw [take_snocL hp, turnE_snoc, HACC.out])
      have HPI : Hid ((k.ps.map (·.1))[j]? = some p.1) := Lib.hid (by rw [List.getElem?_map, hp]; rfl)
      obtain ⟨q, hq, hqe⟩ : ∃ q, qs[j]? = some q ∧ q.e = p := by
        rw [← HQ.out, List.getElem?_map] at hp
        exact Option.map_eq_some_iff.1 hp
      have HQI : Hid ((qs.map fun q => lpA q.x R q.p)[j]? = some (lpA q.x R p.2)) := Lib.hid (by rw [List.getElem?_map, hq, ← hqe]; rfl)
      have HLK : Hid ((lookK (qs.map LpAt.kv) p.1).getD (.pointer none) = .pointer (some ⟨q.x, 0, none⟩)) := Lib.hid (by
        rw [lookK_at (n := j) (v := .pointer (some ⟨q.x, 0, none⟩))]
        · rfl
        · have e1 : (qs.map LpAt.kv).map (·.1) = k.ps.map (·.1) := by rw [← HQ.out, List.map_map, List.map_map]; rfl
          rw [e1]; exact up_nodup HK.out.up
        · rw [List.getElem?_map, hq, ← hqe]; rfl)
      have HN := Lib.hid fun w F h => lpnext_calls q.x R p.2 (HK.out.few p (List.mem_of_getElem? hp)) w F h
      obtain ⟨nx, hnx⟩ : ∃ nx, lpNext p.2 = nx := ⟨_, rfl⟩
      rw [hnx] at HN
      unfold turnStep at HTK
      rw [hnx] at HTK
      clear hnx hp hq hqe
      unfold wrd at S
      cases nx with
      | none =>
        simp only at HTK
        unfold optV at HN
        simp only [Option.getD_none, Option.isSome_none] at HN
        go_wp2_with first | ((with_reducible apply wps_load_el S 0 (hj := HPI.out) (q := 0) (u := (.int .i64 p.1))); (case hx | hi => rfl); (case hn => omega); (case hu => rfl); (case hT => decide +kernel)) | ((with_reducible apply wps_load S 4); (case hx | hi | hu => rfl); (case hT => decide +kernel)) | ((with_reducible apply wps_lookupK keyedI Tryz.underlying93 Tryz.zeroValue110 S 5 rfl p.1 (v := .pointer (some ⟨q.x, 0, none⟩))); (case hx => rfl); (case hy => exact (wholeI _).symm); (case hv => exact HLK.out)) | (go_at_call 41; refine Calls.mono (HN.out _ _ (star_get (S.get (i := 6) rfl) HQI.out).choose_spec) ?_; rintro e wz ⟨rfl, hE⟩; replace S := S.ext (Keep.of_below hE); clear hE)
        go_roundw
        case rel => exact ⟨j + 1, acc, by omega, by go_num, rfl, HTK, S⟩
        case measure => first | (simp [intOf]; done) | (simp [intOf]; omega)
      | some t =>
        unfold optV at HN
        simp only [Option.getD_some, Option.isSome_some] at HN
        cases acc with
        | none =>
          simp only [tA, tL, Option.map_none, Option.getD_none, Option.isSome_none] at S ⊢
          by_cases ht : t ≤ most
          · have f1 : decide (t ≤ most) = true := decide_eq_true ht
            simp only [if_pos ht] at HTK
            clear ht
            go_wp2_with first | ((with_reducible apply wps_load_el S 0 (hj := HPI.out) (q := 0) (u := (.int .i64 p.1))); (case hx | hi => rfl); (case hn => omega); (case hu => rfl); (case hT => decide +kernel)) | ((with_reducible apply wps_load S 4); (case hx | hi | hu => rfl); (case hT => decide +kernel)) | ((with_reducible apply wps_lookupK keyedI Tryz.underlying93 Tryz.zeroValue110 S 5 rfl p.1 (v := .pointer (some ⟨q.x, 0, none⟩))); (case hx => rfl); (case hy => exact (wholeI _).symm); (case hv => exact HLK.out)) | (go_at_call 41; refine Calls.mono (HN.out _ _ (star_get (S.get (i := 6) rfl) HQI.out).choose_spec) ?_; rintro e wz ⟨rfl, hE⟩; replace S := S.ext (Keep.of_below hE); clear hE) | ((with_reducible apply wps_storea (T := 54) S 1 (vs := [.int .i64 t, .int .i64 p.1, .int .i64 0]) (m := 3)); (case hx | hy | hi | hm | h1 => rfl); (case hn => exact Nat.le_of_ble_eq_true rfl); (case hT => decide +kernel); clear S; intro wz S; simp only [List.set_cons_zero, List.set_cons_succ, setAll, List.setIfInBounds_toArray] at S)
            go_roundw
            case rel => exact ⟨j + 1, some (t, p.1), by omega, by go_num, rfl, HTK, S⟩
            case measure => first | (simp [intOf]; done) | (simp [intOf]; omega)
          · have f1 : decide (t ≤ most) = false := decide_eq_false ht
            simp only [if_neg ht] at HTK
            clear ht
            go_wp2_with first | ((with_reducible apply wps_load_el S 0 (hj := HPI.out) (q := 0) (u := (.int .i64 p.1))); (case hx | hi => rfl); (case hn => omega); (case hu => rfl); (case hT => decide +kernel)) | ((with_reducible apply wps_load S 4); (case hx | hi | hu => rfl); (case hT => decide +kernel)) | ((with_reducible apply wps_lookupK keyedI Tryz.underlying93 Tryz.zeroValue110 S 5 rfl p.1 (v := .pointer (some ⟨q.x, 0, none⟩))); (case hx => rfl); (case hy => exact (wholeI _).symm); (case hv => exact HLK.out)) | (go_at_call 41; refine Calls.mono (HN.out _ _ (star_get (S.get (i := 6) rfl) HQI.out).choose_spec) ?_; rintro e wz ⟨rfl, hE⟩; replace S := S.ext (Keep.of_below hE); clear hE)
            go_roundw
            case rel => exact ⟨j + 1, none, by omega, by go_num, rfl, HTK, S⟩
            case measure => first | (simp [intOf]; done) | (simp [intOf]; omega)
        | some um =>
          obtain ⟨u, m⟩ := um
          simp only [tA, tL, Option.map_some, Option.getD_some, Option.isSome_some] at S ⊢
          by_cases ht : t ≤ most
          · have f1 : decide (t ≤ most) = true := decide_eq_true ht
            by_cases hu : t < u
            · have f2 : decide (t < u) = true := decide_eq_true hu
              simp only [if_pos (And.intro ht hu)] at HTK
              clear ht hu
              go_wp2_with first | ((with_reducible apply wps_load_el S 0 (hj := HPI.out) (q := 0) (u := (.int .i64 p.1))); (case hx | hi => rfl); (case hn => omega); (case hu => rfl); (case hT => decide +kernel)) | ((with_reducible apply wps_load S 4); (case hx | hi | hu => rfl); (case hT => decide +kernel)) | ((with_reducible apply wps_load S 1); (case hx | hi | hu => rfl); (case hT => decide +kernel)) | ((with_reducible apply wps_lookupK keyedI Tryz.underlying93 Tryz.zeroValue110 S 5 rfl p.1 (v := .pointer (some ⟨q.x, 0, none⟩))); (case hx => rfl); (case hy => exact (wholeI _).symm); (case hv => exact HLK.out)) | (go_at_call 41; refine Calls.mono (HN.out _ _ (star_get (S.get (i := 6) rfl) HQI.out).choose_spec) ?_; rintro e wz ⟨rfl, hE⟩; replace S := S.ext (Keep.of_below hE); clear hE) | ((with_reducible apply wps_storea (T := 54) S 1 (vs := [.int .i64 t, .int .i64 p.1, .int .i64 0]) (m := 3)); (case hx | hy | hi | hm | h1 => rfl); (case hn => exact Nat.le_of_ble_eq_true rfl); (case hT => decide +kernel); clear S; intro wz S; simp only [List.set_cons_zero, List.set_cons_succ, setAll, List.setIfInBounds_toArray] at S)
              go_roundw
              case rel => exact ⟨j + 1, some (t, p.1), by omega, by go_num, rfl, HTK, S⟩
              case measure => first | (simp [intOf]; done) | (simp [intOf]; omega)
            · have f2 : decide (t < u) = false := decide_eq_false hu
              have hnn : ¬ (t ≤ most ∧ t < u) := fun h => hu h.2
              simp only [if_neg hnn] at HTK
              clear ht hu hnn
              go_wp2_with first | ((with_reducible apply wps_load_el S 0 (hj := HPI.out) (q := 0) (u := (.int .i64 p.1))); (case hx | hi => rfl); (case hn => omega); (case hu => rfl); (case hT => decide +kernel)) | ((with_reducible apply wps_load S 4); (case hx | hi | hu => rfl); (case hT => decide +kernel)) | ((with_reducible apply wps_load S 1); (case hx | hi | hu => rfl); (case hT => decide +kernel)) | ((with_reducible apply wps_lookupK keyedI Tryz.underlying93 Tryz.zeroValue110 S 5 rfl p.1 (v := .pointer (some ⟨q.x, 0, none⟩))); (case hx => rfl); (case hy => exact (wholeI _).symm); (case hv => exact HLK.out)) | (go_at_call 41; refine Calls.mono (HN.out _ _ (star_get (S.get (i := 6) rfl) HQI.out).choose_spec) ?_; rintro e wz ⟨rfl, hE⟩; replace S := S.ext (Keep.of_below hE); clear hE)
              go_roundw
              case rel => exact ⟨j + 1, some (u, m), by omega, by go_num, rfl, HTK, S⟩
              case measure => first | (simp [intOf]; done) | (simp [intOf]; omega)
          · have f1 : decide (t ≤ most) = false := decide_eq_false ht
            have hnn : ¬ (t ≤ most ∧ t < u) := fun h => ht h.1
            simp only [if_neg hnn] at HTK
            clear ht hnn
            go_wp2_with first | ((with_reducible apply wps_load_el S 0 (hj := HPI.out) (q := 0) (u := (.int .i64 p.1))); (case hx | hi => rfl); (case hn => omega); (case hu => rfl); (case hT => decide +kernel)) | ((with_reducible apply wps_load S 4); (case hx | hi | hu => rfl); (case hT => decide +kernel)) | ((with_reducible apply wps_lookupK keyedI Tryz.underlying93 Tryz.zeroValue110 S 5 rfl p.1 (v := .pointer (some ⟨q.x, 0, none⟩))); (case hx => rfl); (case hy => exact (wholeI _).symm); (case hv => exact HLK.out)) | (go_at_call 41; refine Calls.mono (HN.out _ _ (star_get (S.get (i := 6) rfl) HQI.out).choose_spec) ?_; rintro e wz ⟨rfl, hE⟩; replace S := S.ext (Keep.of_below hE); clear hE)
            go_roundw
            case rel => exact ⟨j + 1, some (u, m), by omega, by go_num, rfl, HTK, S⟩
            case measure => first | (simp [intOf]; done) | (simp [intOf]; omega)
    · obtain rfl : j = k.ps.length := by omega
      rw [List.take_length] at HACC
      unfold wrd at S
      unfold turnV at HV
      rw [HACC.out] at HV
      have HTM := Lib.hid fun u m h => turnE_mem (l := k.ps) (most := most) (u := u) (m := m) h
      rw [HACC.out] at HTM
      clear HACC
      cases acc with
      | none =>
        simp only [tA, tL, Option.map_none, Option.getD_none, Option.isSome_none] at S ⊢
        go_wp2_with first | ((with_reducible apply wps_storea (T := 54) S 2 (vs := [.int .i64 0, .int .i64 0, .int .i64 0]) (m := 3)); (case hx | hy | hi | hm | h1 => rfl); (case hn => exact Nat.le_of_ble_eq_true rfl); (case hT => decide +kernel); clear S; intro wz S; simp only [List.set_cons_zero, List.set_cons_succ, setAll, List.setIfInBounds_toArray] at S)
        exact leaves_ret rfl (results2 rfl (S.resA 2 rfl rfl (by kernel_rfl)) (res_tmp rfl)) ⟨by rw [← HV.out]; rfl, S.below⟩
      | some um =>
        obtain ⟨u, m⟩ := um
        simp only [tA, tL, Option.map_some, Option.getD_some, Option.isSome_some] at S ⊢
        obtain ⟨p, hp, hpm, hpn⟩ := HTM.out u m rfl
        obtain ⟨n, hn, e⟩ := List.mem_iff_getElem.1 hp
        have hpn2 : k.ps[n]? = some p := by rw [List.getElem?_eq_getElem hn, e]
        obtain ⟨q, hq, hqe⟩ : ∃ q, qs[n]? = some q ∧ q.e = p := by
          rw [← HQ.out, List.getElem?_map] at hpn2
          exact Option.map_eq_some_iff.1 hpn2
        have HQI : Hid ((qs.map fun q => lpA q.x R q.p)[n]? = some (lpA q.x R p.2)) := Lib.hid (by rw [List.getElem?_map, hq, ← hqe]; rfl)
        have e1 : (qs.map LpAt.kv).map (·.1) = k.ps.map (·.1) := by rw [← HQ.out, List.map_map, List.map_map]; rfl
        have HLK : Hid ((lookK (qs.map LpAt.kv) m).getD (.pointer none) = .pointer (some ⟨q.x, 0, none⟩)) := Lib.hid (by
          rw [← hpm, lookK_at (n := n) (v := .pointer (some ⟨q.x, 0, none⟩))]
          · rfl
          · rw [e1]; exact up_nodup HK.out.up
          · rw [List.getElem?_map, hq, ← hqe]; rfl)
        have hev : evsAt k.ps m = p.2.evs := by rw [← hpm]; exact find_at (up_nodup HK.out.up) hpn2
        have hpf := HK.out.few p hp
        have HN := Lib.hid fun w F h => lpevents_calls q.x R p.2 hpf w F h
        have HEF := Lib.hid hpf
        simp only [hev] at HV
        generalize p.2.evs = l at *
        clear hp hpm hpn hn e hpn2 hq hqe e1 hev HTM
        go_wp2_with first | ((with_reducible apply wps_load S 1); (case hx | hi | hu => rfl); (case hT => decide +kernel)) | ((with_reducible apply wps_load S 4); (case hx | hi | hu => rfl); (case hT => decide +kernel)) | ((with_reducible apply wps_lookupK keyedI Tryz.underlying93 Tryz.zeroValue110 S 5 rfl m (v := .pointer (some ⟨q.x, 0, none⟩))); (case hx => rfl); (case hy => exact (wholeI _).symm); (case hv => exact HLK.out)) | (go_at_call 42; (with_reducible refine Calls.mono (HN.out _ _ (star_get (S.get (i := 6) rfl) HQI.out).choose_spec) ?_); rintro rr wz ⟨b, v, rfl, T⟩; replace S := S.join T rfl; clear T; simp only [List.cons_append, List.nil_append] at S) | ((with_reducible refine tot_done ?ht ?_); (case ht => kernel_rfl)) | ((with_reducible apply wps_text S); (case hm => kernel_rfl); (case hB => decide +kernel); clear S; intro wz S)
        replace S := (S.freeze true 1 ecells rfl).weak (i := 0) (A' := Blk true b #[v] 66) rfl (fun e => by cases e) (fun F h => ⟨F, fun _ hb => hb, h⟩)
        simp only [List.set_cons_zero, List.set_cons_succ] at S
        clear HN HLK HQI hpf
        refine wps_range (vals1_iter b v l HEF.out) S rfl (calls_enter Tryz.func194 (by kernel_rfl) rfl) (WnPhi b4 b6 W R g M k qs (.slice ad k.ps.length c) u m l) (fun _ _ _ => False) ⟨0, Lib.hid rfl, rfl⟩ (fun x args N h => by obtain ⟨rfl, _⟩ := h; rfl) ?round ?done ?stop
        case stop => intro _ _ _ _ _ _ h; exact h.elim
        case round =>
          rintro lp D r j x args N L W2 hx ⟨rfl, rfl⟩ ⟨cn, HJ, rfl⟩ S
          unfold wrd at S
          simp only [zip_one9K, List.setIfInBounds_toArray, List.set_cons_succ, List.set_cons_zero, List.cons_append, List.nil_append] at S ⊢
          have HJ2 := Lib.hid (manyAt_snoc hx u)
          rw [← HJ.out] at HJ2
          have hcb : cn ≤ 65536 := by rw [HJ.out]; exact Nat.le_trans (Nat.le_trans List.countP_le_length (List.length_take_le' ..)) HEF.out
          by_cases hgt : x.key.at_ = u
          · have f1 : (x.key.at_ == u) = true := by simpa using hgt
            rw [if_pos hgt] at HJ2
            clear hgt hx
            gi_wp2_with first
              | (refine wpi_at (.inr ⟨_, rfl⟩) rfl fun K hK => ?_
                 go_wp2_with first | ((with_reducible apply wps_alloca (E := 48) S); (case hz => exact Tryz.zeroValue48); clear S; intro b12 wz S) | ((with_reducible apply wps_storea (T := 48) S 0 (vs := [.int .i64 x.key.at_, .int .i64 x.key.src, .int .i64 x.key.sent, .int .i64 x.key.no, .int .i64 x.dst, .int .i64 x.kind, .int .i64 x.data]) (m := 7)); (case hx | hy | hi | hm | h1 => rfl); (case hn => exact Nat.le_of_ble_eq_true rfl); (case hT => decide +kernel); clear S; intro wz S; simp only [List.set_cons_zero, List.set_cons_succ, setAll, List.setIfInBounds_toArray] at S)
                 refine hK _ _ ?_
                 (try simp only [Act.put]); (try simp only [List.setIfInBounds_toArray]); (try simp only [List.set_cons_succ]); (try simp only [List.set_cons_zero])
                 clear hK K)
            refine ⟨_, S.lastSplit rfl, fun r' W2 S => ?_⟩
            simp only [List.dropLast, List.cons_append, List.nil_append] at S
            refine wpIn_block (wpIn_seq_nK fun K hK => wpi_list_k (.inr ⟨_, rfl⟩) rfl fun K2 hK2 => ?_)
            go_wp2_with first | ((with_reducible apply wps_load S 0); (case hx | hi | hu => rfl); (case hT => decide +kernel)) | ((with_reducible apply wps_load S 4); (case hx | hi | hu => rfl); (case hT => decide +kernel))
            refine hK2 _ _ (hK _ _ ?_)
            clear hK hK2 K K2
            refine wpIn_cond_true (by first | rfl | (simp [Act.eval, f1]; done)) (wpi_list_k (.inr ⟨_, rfl⟩) rfl fun K2 hK2 => ?_)
            go_wp2_with first | ((with_reducible apply wps_load S 4); (case hx | hi | hu => rfl); (case hT => decide +kernel)) | ((with_reducible apply wps_store (u := (.int .i64 ((cn : Int) + 1))) S 4); (case hx | hy | hi | h1 => rfl); (case hn => exact Nat.le_of_ble_eq_true rfl); (case hT => decide +kernel); clear S; intro wz S; simp only [List.set_cons_succ, List.set_cons_zero, List.setIfInBounds_toArray] at S)
            refine hK2 _ _ ?_
            clear hK2 K2
            rw [show (cn : Int) + 1 = ((cn + 1 : Nat) : Int) by omega] at S
            exact ⟨_, ⟨cn + 1, HJ2.symm, rfl⟩, S.pick [1, 2, 3, 4, 5, 6, 7, 8, 9, 10] rfl⟩
          · have f1 : (x.key.at_ == u) = false := by simpa using hgt
            rw [if_neg hgt] at HJ2
            clear hgt hx
            gi_wp2_with first
              | (refine wpi_at (.inr ⟨_, rfl⟩) rfl fun K hK => ?_
                 go_wp2_with first | ((with_reducible apply wps_alloca (E := 48) S); (case hz => exact Tryz.zeroValue48); clear S; intro b12 wz S) | ((with_reducible apply wps_storea (T := 48) S 0 (vs := [.int .i64 x.key.at_, .int .i64 x.key.src, .int .i64 x.key.sent, .int .i64 x.key.no, .int .i64 x.dst, .int .i64 x.kind, .int .i64 x.data]) (m := 7)); (case hx | hy | hi | hm | h1 => rfl); (case hn => exact Nat.le_of_ble_eq_true rfl); (case hT => decide +kernel); clear S; intro wz S; simp only [List.set_cons_zero, List.set_cons_succ, setAll, List.setIfInBounds_toArray] at S)
                 refine hK _ _ ?_
                 (try simp only [Act.put]); (try simp only [List.setIfInBounds_toArray]); (try simp only [List.set_cons_succ]); (try simp only [List.set_cons_zero])
                 clear hK K)
            refine ⟨_, S.lastSplit rfl, fun r' W2 S => ?_⟩
            simp only [List.dropLast, List.cons_append, List.nil_append] at S
            refine wpIn_block (wpIn_seq_nK fun K hK => wpi_list_k (.inr ⟨_, rfl⟩) rfl fun K2 hK2 => ?_)
            go_wp2_with first | ((with_reducible apply wps_load S 0); (case hx | hi | hu => rfl); (case hT => decide +kernel)) | ((with_reducible apply wps_load S 4); (case hx | hi | hu => rfl); (case hT => decide +kernel))
            refine hK2 _ _ (hK _ _ ?_)
            clear hK hK2 K K2
            refine wpIn_cond_false (by first | rfl | (simp [Act.eval, f1]; done)) (wpIn_skip ?_)
            exact ⟨_, ⟨cn, HJ2.symm, rfl⟩, S.pick [1, 2, 3, 4, 5, 6, 7, 8, 9, 10] rfl⟩
        case done =>
          rintro D W2 L ⟨cn, HJ, rfl⟩ S
          unfold wrd at S
          simp only [List.cons_append, List.nil_append] at S
          rw [List.take_length] at HJ
          rw [← HJ.out] at HV
          go_wp2_with first | ((with_reducible apply wps_loada (T := 54) (k := 3) S 4); (case hx | hi => rfl); (case hk => exact Nat.le_of_ble_eq_true rfl); (case hT => decide +kernel)) | ((with_reducible apply wps_storea (T := 54) S 5 (vs := [.int .i64 u, .int .i64 m, .int .i64 cn]) (m := 3)); (case hx | hy | hi | hm | h1 => rfl); (case hn => exact Nat.le_of_ble_eq_true rfl); (case hT => decide +kernel); clear S; intro wz S; simp only [List.set_cons_zero, List.set_cons_succ, setAll, List.setIfInBounds_toArray] at S)
          refine leaves_ret1 S rfl fun w' S => ⟨_, results2 rfl (S.resA 4 rfl rfl (by kernel_rfl)) (res_tmp rfl), ?_, S.below⟩
          rw [← HV.out]; rfl
end Go.Proofs.YtmpfbkfemlhekaaGreatDoor
