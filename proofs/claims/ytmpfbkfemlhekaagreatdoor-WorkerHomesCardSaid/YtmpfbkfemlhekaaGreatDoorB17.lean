import Derived.Test.YtmpfbkfemlhekaaGreatDoorB16
import Derived.Test.YtmpfbkfemlhekaaGreatDoorB06
import Derived.Test.YtmpfbkfemlhekaaGreatDoorB08
import Derived.Deep.CutRange
import Derived.Test.YtmpfbkfemlhekaaGreatDoorB15
import Derived.Test.YtmpfbkfemlhekaaGreatDoorB09
import Derived.Shelf.SortG.SortNone
import Derived.Test.YtmpfbkfemlhekaaGreatDoorB14
/- The walks of maps.Keys and its iterator, of slices.AppendSeq and Collect: a map's keys, in some order. -/
namespace Go.Proofs.YtmpfbkfemlhekaaGreatDoor
open Go Go.RowKit Reg Mem

set_option maxRecDepth 100000 in
def keyedI : Keyed Tryz.prog 3 intE :=
  ⟨[.int .i64], by kernel_rfl, fun _ => rfl, fun a b => by
    simp only [intE, ceqs, ceq, Bool.and_true]
    rw [Bool.eq_iff_iff]; simp⟩
theorem wholeI (k : Int) : whole Tryz.prog 3 (intE k) = .int .i64 k := by kernel_rfl
set_option maxRecDepth 100000 in
theorem mkeys_calls (M : Nat) (w : World) : Calls Tryz.prog 40 #[.map (some M)] w fun e w' => ∃ b, e = .returned (.func (.func 78) #[] #[.pointer (some ⟨b, 0, none⟩)]) ∧ St (fun _ => False) w w' [Blk false b #[.map (some M)] 93] := by
  have S := St.init (fun _ => False) w
  go_enter Tryz.func40, Tryz.ntmps40
  go_wp2_with first | ((with_reducible apply wps_boxa (E := 93) S); (case hx => rfl); clear S; intro b1 wz S) | ((with_reducible refine tot_done ?ht ?_); (case ht => kernel_rfl)) | ((with_reducible apply wps_boxa S); (case hx => rfl); clear S; intro bz wz S) | ((with_reducible apply wps_box1 (v := .int _ _) S); (case hx | h1 => rfl); clear S; intro bz wz S) | ((with_reducible apply wps_box1 (v := .bool _) S); (case hx | h1 => rfl); clear S; intro bz wz S) | ((with_reducible apply wps_box1 (v := .slice _ _ _) S); (case hx | h1 => rfl); clear S; intro bz wz S) | ((with_reducible apply wps_box1 (v := .pointer _) S); (case hx | h1 => rfl); clear S; intro bz wz S) | ((with_reducible apply wps_box1 (v := .map _) S); (case hx | h1 => rfl); clear S; intro bz wz S) | ((with_reducible apply wps_box1 (v := .string _) S); (case hx | h1 => rfl); clear S; intro bz wz S) | ((with_reducible apply wps_box1 (v := .func _ _ _) S); (case hx | h1 => rfl); clear S; intro bz wz S)
  go_ret
  exact ⟨_, rfl, S⟩
theorem tells_keys {es : Array MapEntry} {clock : Nat} {l : List (Int × Value)} (ht : Tells Tryz.prog 3 intE es clock l) : es.toList.map (·.key) = (l.map (·.1)).map fun k => Value.int .i64 k := by
  apply List.ext_getElem?
  intro i
  have := congrArg (fun q => q[i]?) ht.same
  simp only [List.getElem?_map] at this ⊢
  cases he : es.toList[i]? with
  | none =>
    rw [he] at this
    cases hl : l[i]? with
    | none => rfl
    | some p => rw [hl] at this; simp at this
  | some e =>
    rw [he] at this
    cases hl : l[i]? with
    | none => rw [hl] at this; simp at this
    | some p =>
      rw [hl] at this
      simp only [Option.map_some, Option.some.injEq, Prod.mk.injEq] at this ⊢
      rw [this.1, wholeI]
def leftE (r n : Nat) (w : World) : Nat := match w.heap[r]? with | some (.mapIter _ _ seen _) => n - seen.size | _ => 0
structure Came (es : Array MapEntry) (l : List (Int × Value)) (seen : Array Nat) (pre : List Int) (rest : List MapEntry) : Prop where
  split : ∃ got : List MapEntry, (got ++ rest).Perm es.toList ∧ got.map (·.born) = seen.toList ∧ got.map (·.key) = pre.map fun k => Value.int .i64 k
theorem came_start (es : Array MapEntry) (l : List (Int × Value)) : Came es l #[] [] es.toList := ⟨[], by simp, rfl, rfl⟩
theorem came_next {es : Array MapEntry} {clock : Nat} {l : List (Int × Value)} {seen : Array Nat} {pre : List Int} {rest : List MapEntry} (ht : Tells Tryz.prog 3 intE es clock l) (h : Came es l seen pre rest) {e : MapEntry} (he : e ∈ es.toList) (hn : e.born ∉ seen) :
    ∃ (k : Int) (rest' : List MapEntry), e.key = .int .i64 k ∧ Came es l (seen.push e.born) (pre ++ [k]) rest' ∧ rest.length = rest'.length + 1 ∧ ∃ r, (pre ++ k :: r).Perm (l.map (·.1)) := by
  obtain ⟨got, h1, h2, h3⟩ := h.split
  have hr : e ∈ rest := by
    have := h1.symm.subset he
    rcases List.mem_append.1 this with h | h
    · exact absurd (by rw [← Array.mem_toList_iff, ← h2]; exact List.mem_map.2 ⟨e, h, rfl⟩) hn
    · exact h
  obtain ⟨a, b, rfl⟩ := List.append_of_mem hr
  have hk : ∃ k, e.key = .int .i64 k := by
    have : (e.key, e.val) ∈ es.toList.map (fun e => (e.key, e.val)) := List.mem_map.2 ⟨e, he, rfl⟩
    rw [ht.same] at this
    obtain ⟨p, hp, e1⟩ := List.mem_map.1 this
    rw [Prod.mk.injEq] at e1
    exact ⟨p.1, by rw [← e1.1, wholeI]⟩
  obtain ⟨k, hk⟩ := hk
  have hp : (got ++ [e] ++ (a ++ b)).Perm es.toList := by
    refine List.Perm.trans ?_ h1
    rw [List.append_assoc]
    show (got ++ e :: (a ++ b)).Perm _
    exact (List.perm_middle.symm).append_left got
  have hkeys := tells_keys ht
  refine ⟨k, a ++ b, hk, ⟨got ++ [e], hp, by simp [h2], by simp [h3, hk]⟩, by simp; omega, ?_⟩
  -- the keys of what is left
  have hall : ∀ x ∈ a ++ b, ∃ k : Int, x.key = .int .i64 k := fun x hx => by
    have hx2 : x ∈ es.toList := hp.subset (List.mem_append_right _ hx)
    have : x.key ∈ es.toList.map (·.key) := List.mem_map.2 ⟨x, hx2, rfl⟩
    rw [hkeys] at this
    obtain ⟨k, _, e1⟩ := List.mem_map.1 this
    exact ⟨k, e1.symm⟩
  obtain ⟨r, hr⟩ : ∃ r : List Int, (a ++ b).map (·.key) = r.map fun k => Value.int .i64 k := by
    have key : ∀ L : List MapEntry, (∀ x ∈ L, ∃ k : Int, x.key = .int .i64 k) → ∃ r : List Int, L.map (·.key) = r.map fun k => Value.int .i64 k := by
      intro L
      induction L with
      | nil => intro _; exact ⟨[], rfl⟩
      | cons y L ih =>
        intro hL
        obtain ⟨k, hk⟩ := hL y (by simp)
        obtain ⟨r, hr⟩ := ih fun x hx => hL x (by simp [hx])
        exact ⟨k :: r, by simp [hk, hr]⟩
    exact key _ hall
  refine ⟨r, ?_⟩
  have hperm : ((pre ++ k :: r).map fun k => Value.int .i64 k).Perm ((l.map (·.1)).map fun k => Value.int .i64 k) := by
    rw [← hkeys, List.map_append, List.map_cons, ← hr, ← h3, ← hk]
    have := hp.map (·.key)
    simpa using this
  have inj : ∀ x y : Int, Value.int .i64 x = Value.int .i64 y → x = y := fun x y h => by cases h; rfl
  have back : ∀ L : List Int, (L.map fun k => Value.int .i64 k).map (fun v => match v with | .int _ n => n | _ => 0) = L := fun L => by
    rw [List.map_map]; exact (List.map_congr_left fun _ _ => rfl).trans (List.map_id L)
  have := hperm.map (fun v => match v with | .int _ n => n | _ => 0)
  rw [back, back] at this
  exact this
theorem came_done {es : Array MapEntry} {clock : Nat} {l : List (Int × Value)} {seen : Array Nat} {pre : List Int} {rest : List MapEntry} (ht : Tells Tryz.prog 3 intE es clock l) (h : Came es l seen pre rest) (hd : ∀ e ∈ es.toList, e.born ∈ seen) : pre.Perm (l.map (·.1)) := by
  obtain ⟨got, h1, h2, h3⟩ := h.split
  have hnil : rest = [] := by
    cases rest with
    | nil => rfl
    | cons x r =>
      have hx : x ∈ es.toList := h1.subset (by simp)
      have := hd x hx
      rw [← Array.mem_toList_iff, ← h2] at this
      have hb := (h1.map (·.born)).nodup_iff.2 ht.born
      rw [List.map_append, List.nodup_append] at hb
      exact absurd rfl (hb.2.2 _ this _ (by simp))
  subst hnil
  rw [List.append_nil] at h1
  have hkeys := tells_keys ht
  have hp := h1.map (·.key)
  rw [h3, hkeys] at hp
  have back : ∀ L : List Int, (L.map fun k => Value.int .i64 k).map (fun v => match v with | .int _ n => n | _ => 0) = L := fun L => by
    rw [List.map_map]; exact (List.map_congr_left fun _ _ => rfl).trans (List.map_id L)
  have := hp.map (fun v => match v with | .int _ n => n | _ => 0)
  rw [back, back] at this
  exact this
theorem get_lastK (A B I : Asn) (L : List Asn) : ([A, B] ++ (L ++ [I]))[2 + L.length]? = some I := by
  rw [List.getElem?_append_right (by simp), List.getElem?_append_right (by simp)]; simp
theorem set_lastK (A B I I' : Asn) (L : List Asn) : ([A, B] ++ (L ++ [I])).set (2 + L.length) I' = [A, B] ++ (L ++ [I']) := by
  rw [List.set_append_right _ _ (by simp), List.set_append_right _ _ (by simp)]; simp
theorem left_of {M r clock c0 n : Nat} {seen : Array Nat} {L : List Asn} {G : Nat → Prop} {w0 w : World} {A B : Asn} (S : St G w0 w ([A, B] ++ (L ++ [IterE r M clock seen c0]))) : leftE r n w = n - seen.size := by
  obtain ⟨F, hF⟩ := S.get (get_lastK _ _ _ _)
  unfold leftE
  rw [hF.1]
def MadeI (k : Int) (args : Array Value) : Prop := args = #[.int .i64 k]
def KsRel (b M r : Nat) (es : Array MapEntry) (clock : Nat) (l : List (Int × Value)) (G : Nat → Prop) (w0 : World) (Φ : List Int → List Asn → Prop) (wr : World) : Prop :=
  ∃ (seen : Array Nat) (pre : List Int) (rest : List MapEntry) (L : List Asn), Hid (Came es l seen pre rest) ∧ Φ pre L ∧ St G w0 wr ([Blk true b #[.map (some M)] 93, MapE true M es clock] ++ (L ++ [IterE r M clock seen clock]))
set_option maxRecDepth 100000 in
set_option maxHeartbeats 8000000 in
theorem mkeys1_iter (b M : Nat) (es : Array MapEntry) (clock : Nat) (l : List (Int × Value)) (ht : Tells Tryz.prog 3 intE es clock l) :
    IterK Tryz.prog 78 #[.pointer (some ⟨b, 0, none⟩)] [Blk true b #[.map (some M)] 93, MapE true M es clock] (l.map (·.1)) MadeI := by
  intro y G w0 W Φ L hY h0 S
  simp only [List.cons_append, List.nil_append] at S
  show Calls Tryz.prog 78 #[.func (.yield y) #[] #[], .pointer (some ⟨b, 0, none⟩)] W _
  have HT := Lib.hid ht
  clear ht
  have HY := Lib.hid hY
  clear hY
  go_enter Tryz.func78, Tryz.ntmps78
  go_wp2_with first | ((with_reducible apply wps_rangeE Tryz.underlying93 S 1 rfl); (case hx => rfl); clear S; intro r wz S) | ((with_reducible refine tot_done ?ht ?_); (case ht => kernel_rfl)) | ((with_reducible apply wps_load S 0); (case hx | hi | hu => rfl); (case hT => decide +kernel))
  have S2 : St G w0 wz ([Blk true b #[.map (some M)] 93, MapE true M es clock] ++ (L ++ [IterE r M clock #[] clock])) := by
    have := S.rot
    simpa using this
  clear S
  go_frame
  go_loopw [3] (fun _ wr => KsRel b M r es clock l G w0 Φ wr) (fun _ wr => leftE r es.size wr)
  case atStart => exact ⟨#[], [], _, L, Lib.hid (came_start es l), h0, S2⟩
  case round =>
    clear S2 h0
    obtain ⟨seen, pre, rest, L, HC, hΦ, S⟩ := hrel
    have HΦ := Lib.hid hΦ
    clear hΦ
    have HLF := Lib.hid (left_of (n := es.size) S)
    go_wp2_with first | ((with_reducible refine wps_nextE S (2 + L.length) 1 (get_lastK _ _ _ _) rfl HT.out.old (Nat.le_refl _) ?hx ?hdone ?hmore); (case hx => rfl)) | ((with_reducible refine tot_done ?ht ?_); (case ht => kernel_rfl)) | ((with_reducible apply wps_load S 0); (case hx | hi | hu => rfl); (case hT => decide +kernel))
    case hdone =>
      intro hd
      go_wp2_with first | ((with_reducible refine tot_done ?ht ?_); (case ht => kernel_rfl)) | ((with_reducible apply wps_load S 0); (case hx | hi | hu => rfl); (case hT => decide +kernel))
      go_end0
      have S3 : St G w0 wr (([Blk true b #[.map (some M)] 93, MapE true M es clock] ++ L) ++ [IterE r M clock seen clock]) := by simpa using S
      exact ⟨⟨_, rfl⟩, L, pre, came_done HT.out HC.out hd, St.tail S3.unrot, HΦ.out⟩
    case hmore =>
      intro e w2 he hs S2
      obtain ⟨k, rest', hk, hC2, hlen, hperm⟩ := came_next HT.out HC.out he hs
      rw [set_lastK] at S2
      have HK := Lib.hid hk
      have HC2 := Lib.hid hC2
      have HP := Lib.hid hperm
      have HE := Lib.hid he
      have hle : seen.size < es.size := by
        obtain ⟨got, g1, g2, g3⟩ := hC2.split
        have h1 := g1.length_eq
        have h2 := congrArg List.length g2
        simp at h1 h2
        omega
      clear hk hC2 hperm he hs
      go_upto_region 3 with first | ((with_reducible refine wps_entryE S2 (2 + L.length) 1 (get_lastK _ _ _ _) rfl HE.out HT.out.born ?hx ?next); (case hx => rfl)) | ((with_reducible refine tot_done ?ht ?_); (case ht => kernel_rfl)) | ((with_reducible apply wps_load S 0); (case hx | hi | hu => rfl); (case hT => decide +kernel))
      refine wp_region_yl 2 rfl rfl rfl fun K hK => ?_
      simp only [List.take_succ_cons, List.take_zero]
      simp only [List.drop_succ_cons, List.drop_zero] at hK
      go_wp2_with first | ((with_reducible refine tot_done ?ht ?_); (case ht => kernel_rfl)) | ((with_reducible apply wps_load S 0); (case hx | hi | hu => rfl); (case hT => decide +kernel))
      refine hK _ _ ?_
      clear hK K
      (try simp only [Act.put]); (try simp only [List.setIfInBounds_toArray]); (try simp only [List.set_cons_succ]); (try simp only [List.set_cons_zero])
      refine yield_in (l := y) rfl rfl rfl rfl rfl (HY.out pre k _ L (IterE r M clock (seen.push e.born) clock) _ HP.out (by show (#[e.key] : Array Value) = _; rw [HK.out]) rfl HΦ.out S2) ?_
      rintro e2 w' ⟨L', S, rfl, hΦ'⟩
      refine ⟨_, rfl, ?_⟩
      refine list_only rfl fun K hK => ?_
      go_wp2_with first | ((with_reducible refine tot_done ?ht ?_); (case ht => kernel_rfl)) | ((with_reducible apply wps_load S 0); (case hx | hi | hu => rfl); (case hT => decide +kernel))
      refine hK _ _ ?_
      clear hK K
      have HΦ' := Lib.hid hΦ'
      clear hΦ'
      go_wp2_with first | ((with_reducible refine tot_done ?ht ?_); (case ht => kernel_rfl)) | ((with_reducible apply wps_load S 0); (case hx | hi | hu => rfl); (case hT => decide +kernel))
      go_roundw
      case rel => exact ⟨_, _, _, _, _, _, _, _, _, ⟨_, _, rest', L', HC2, HΦ'.out, S⟩, rfl⟩
      case measure =>
        rw [HLF.out, left_of S]
        rw [Array.size_push]
        omega
def ApPhi (bs : Nat) (n : Nat) (pre : List Int) (L : List Asn) : Prop :=
  ∃ v, pre.length ≤ n ∧ L = [Mem.Own 3 intE 1 v pre, Blk false bs #[v] 37]
theorem zip_one9K (p : Tmp) (v : Value) (t : Array Value) : (#[p].zip #[v]).foldl (fun t (p, v) => t.setIfInBounds p v) t = t.setIfInBounds p v := by simp
def CollPost (l : List (Int × Value)) (w : World) (e : Ending) (w' : World) : Prop :=
  ∃ ad c all, e = .returned (.slice ad l.length c) ∧ all.Perm (l.map (·.1)) ∧ St (fun _ => False) w w' [Mem.Own 3 intE 1 (.slice ad l.length c) all]
set_option maxRecDepth 100000 in
set_option maxHeartbeats 8000000 in
theorem appseq_calls (b M : Nat) (es : Array MapEntry) (clock : Nat) (l : List (Int × Value)) (ht : Tells Tryz.prog 3 intE es clock l) (hn : l.length ≤ 65536) (w : World) (F F2 : Nat → Prop) (h1 : (Blk true b #[.map (some M)] 93).at_ w F) (h2 : (MapE true M es clock).at_ w F2) :
    Calls Tryz.prog 129 #[.slice none 0 0, .func (.func 78) #[] #[.pointer (some ⟨b, 0, none⟩)]] w (CollPost l w) := by
  have S : St (fun _ => False) w w [Blk true b #[.map (some M)] 93, MapE true M es clock] := ((St.init _ w).share (A := MapE true M es clock) rfl rfl h2).share (A := Blk true b #[.map (some M)] 93) rfl rfl h1
  clear h1 h2
  have HN := Lib.hid hn
  refine calls_marks Tryz.func129 rfl ?_
  simp only [Tryz.ntmps129, List.size_toArray, List.length_cons, List.length_nil, Nat.reduceAdd, Nat.reduceSub, Array.replicate_succ, Array.replicate_zero, List.push_toArray, List.append_toArray, List.nil_append, List.cons_append]
  go_wp2_with first | ((with_reducible apply wps_box1 (E := 37) (v := .slice none 0 0) S); (case hx | h1 => rfl); clear S; intro bs wz S) | ((with_reducible refine tot_done ?ht ?_); (case ht => kernel_rfl)) | ((with_reducible apply wps_load S 0); (case hx | hi | hu => rfl); (case hT => decide +kernel))
  replace S := (S.nil 3 intE 1).pick [2, 3, 0, 1] rfl
  simp only [pick, nth] at S
  refine wps_rangeK (mkeys1_iter b M es clock l ht) S rfl (calls_enter Tryz.func78 (by kernel_rfl) rfl) (ApPhi bs l.length) ⟨_, Nat.zero_le _, rfl⟩ (fun x args h => by unfold MadeI at h; rw [h]; rfl) ?round ?done
  case round =>
    rintro lp D r pre x args L A W ⟨rest, hperm⟩ hm hA ⟨ov, hpl, rfl⟩ S
    unfold MadeI at hm
    subst hm
    simp only [zip_one9K, List.setIfInBounds_toArray, List.set_cons_succ, List.set_cons_zero, List.cons_append, List.nil_append] at S ⊢
    have hlt : pre.length < l.length := by have := hperm.length_eq; simp at this; omega
    obtain ⟨a3, c3, rfl, _⟩ := (S.ownsl intE_len 2 rfl).elim fun _ h => h.form
    have hpl2 : pre.length < 65536 := by omega
    clear hperm hpl
    gi_wp2_with first
      | (refine wpi_at (.inr ⟨_, rfl⟩) rfl fun K hK => ?_
         go_wp2_with first | ((with_reducible refine tot_done ?ht ?_); (case ht => kernel_rfl))
         refine hK _ _ ?_
         (try simp only [Act.put]); (try simp only [List.setIfInBounds_toArray]); (try simp only [List.set_cons_succ]); (try simp only [List.set_cons_zero])
         clear hK K)
    refine ⟨_, S.lastSplit rfl, fun r' W2 S => ?_⟩
    simp only [List.dropLast, List.cons_append, List.nil_append] at S
    refine wpIn_block (wpi_list_k (.inr ⟨_, rfl⟩) rfl fun K2 hK2 => ?_)
    go_wp2_with first | ((with_reducible apply wps_load S 3); (case hx | hi | hu => rfl); (case hT => decide +kernel)) | ((with_reducible apply wps_build11 (T := 37) (E := 3) S); (case hx => rfl); (case hr => intro w; kernel_rfl); clear S; intro bz wz S) | ((with_reducible apply wps_append1 elem_Int intE_len intE_one (by decide) S 3 (j := 0) (e := x)); (case hx | hy | hi | hj | he => rfl); (case hl => omega); clear S; intro az nz cz wz hnz S; simp only [List.set_cons_succ, List.set_cons_zero] at S) | ((with_reducible apply wps_store (u := (.slice az nz cz)) S 4); (case hx | hy | hi | h1 => rfl); (case hn => exact Nat.le_of_ble_eq_true rfl); (case hT => decide +kernel); clear S; intro wz S; simp only [List.set_cons_succ, List.set_cons_zero, List.setIfInBounds_toArray] at S)
    refine hK2 _ _ ?_
    clear hK2 K2
    exact ⟨_, ⟨_, by rw [List.length_append]; simp; omega, rfl⟩, S.pick [1, 2, 3, 4, 5, 6] rfl⟩
  case done =>
    rintro D W L all hall ⟨ov, hpl, rfl⟩ S
    simp only [List.cons_append, List.nil_append] at S
    obtain ⟨a3, c3, rfl, _⟩ := (S.ownsl intE_len 3 rfl).elim fun _ h => h.form
    have hll : all.length = l.length := by have := hall.length_eq; simpa using this
    rw [hll] at S
    have HA := Lib.hid hall
    clear hall hll hpl
    go_wp2_with first | ((with_reducible apply wps_load S 4); (case hx | hi | hu => rfl); (case hT => decide +kernel))
    refine leaves_ret1 S rfl fun w' S => ⟨_, results1 rfl (res_tmp rfl), a3, c3, all, rfl, HA.out, S.pick [2] rfl⟩
end Go.Proofs.YtmpfbkfemlhekaaGreatDoor
/- The walks of slices.Collect, Sort, Sorted of a map's keys: rising. -/
namespace Go.Proofs.YtmpfbkfemlhekaaGreatDoor
open Go Go.RowKit Reg Mem Go.Sort

def sortZ (l : List Int) : List Int := l.mergeSort fun x y => decide (x ≤ y)
theorem sortZ_perm (l : List Int) : (sortZ l).Perm l := List.mergeSort_perm _ _
theorem sortZ_up (l : List Int) : (sortZ l).Pairwise (· ≤ ·) := by
  have := List.pairwise_mergeSort (le := fun x y : Int => decide (x ≤ y)) (fun a b c h k => by simp at *; omega) (fun a b => by simp; omega) l
  exact this.imp (fun h => by simpa using h)
theorem sortZ_of {l m : List Int} (hp : l.Perm m) : sortZ l = sortZ m := by
  refine ((sortZ_perm l).trans (hp.trans (sortZ_perm m).symm)).eq_of_pairwise (fun a b _ _ h k => ?_) (sortZ_up l) (sortZ_up m)
  omega
theorem flat_int : ∀ l : List Int, flatE intE l = l.map fun x => Value.int .i64 x
  | [] => rfl
  | x :: l => by rw [flatE_cons, flat_int l]; rfl
set_option maxRecDepth 100000 in
theorem sortI_calls {G : Nat → Prop} {w0 w : World} {L : List Asn} (i : Nat) {v : Value} {l : List Int} (S : St G w0 w L) (hi : L[i]? = some (Mem.Own 3 intE 1 v l)) (hn : l.length ≤ 65536) :
    Calls Tryz.prog 77 #[v] w fun e w' => e = .returned (.tuple #[]) ∧ St G w0 w' (L.set i (Mem.Own 3 intE 1 v (sortZ l))) := by
  obtain ⟨ad, c, rfl, _⟩ := (S.ownsl intE_len i hi).elim fun _ h => h.form
  by_cases h0 : l.length = 0
  · obtain rfl : l = [] := List.eq_nil_of_length_eq_zero h0
    refine Calls.mono (AnyG.slices_Sort_int_none (P := Tryz.prog) (ρ := sortI_ren) { sortI with } _ _ _) ?_
    rintro e wz ⟨rfl, rfl⟩
    refine ⟨rfl, ?_⟩
    have e : L.set i (Mem.Own 3 intE 1 (.slice ad ([] : List Int).length c) (sortZ [])) = L := by
      obtain ⟨h1, h2⟩ := List.getElem?_eq_some_iff.1 hi
      rw [show sortZ [] = [] by simp [sortZ], ← h2, List.set_getElem_self]
    rw [e]
    exact S
  · obtain ⟨R, c', e⟩ := own_hdE i S hi (by omega)
    simp only [Value.slice.injEq] at e
    obtain ⟨rfl, _, rfl⟩ := e
    obtain ⟨F, hF⟩ := S.get hi
    obtain ⟨cur, hO, _⟩ := own_at hF
    have hflat := flat_int l
    have hsz := hO.size
    have hle := hO.le
    have ht := hO.take
    rw [hflat, Nat.mul_one] at ht
    have hH : Holds (Value.int .i64) w R 0 l.toArray := fun j hj => by
      have hj2 : j < l.length := by simpa using hj
      have h1 : cur[j]? = some (Value.int .i64 l[j]) := by
        have := congrArg (fun q => q[j]?) ht
        simp only [List.getElem?_take, if_pos hj2, List.getElem?_map, List.getElem?_eq_getElem hj2, Option.map_some] at this
        simpa using this
      rw [Nat.zero_add]
      refine ⟨?_, frozen_of hO.heap _⟩
      rw [cell_of hO.heap, h1]
      simp [hj2]
    refine Calls.mono (AnyG.slices_Sort_int (P := Tryz.prog) (ρ := sortI_ren) { sortI with } R 0 c l w hH (Array.getElem?_eq_some_iff.1 hO.heap).1 (by omega)) ?_
    rintro e wz ⟨rfl, n, os, rfl⟩
    have hl2 : (sortZ l).length = l.length := (sortZ_perm l).length_eq
    refine ⟨rfl, S.step hi rfl fun F hF => ⟨F, (keep_putRow os).mono (fun x _ h e => h ((hF.2 x).2 (by simp [Value.ownBlock, e]))), ⟨?_, hF.2⟩, fun _ h => .inl h⟩⟩
    have hnew : OwnAt 3 intE 1 0 (grow (putRow (Value.int .i64) (Sort.ahead w n) R 0 (sortZ l).toArray) os) R c (putCells (Value.int .i64) 0 (sortZ l).toArray cur) (sortZ l) := by
      refine ⟨heap_putRow os hO.heap, hO.lo, by rw [hl2]; exact hle, hO.max, by rw [size_putCells]; exact hsz, ?_⟩
      have := putCells_take (enc := Value.int .i64) (d := (sortZ l).toArray) (c := cur) (by simp; omega)
      rw [Nat.mul_one]
      have hf := flat_int (sortZ l)
      rw [hf]
      simpa using this
    have := hnew.own intE_len
    rw [hl2] at this
    exact this
set_option maxRecDepth 100000 in
set_option maxHeartbeats 8000000 in
theorem coll_calls (b M : Nat) (es : Array MapEntry) (clock : Nat) (l : List (Int × Value)) (ht : Tells Tryz.prog 3 intE es clock l) (hn : l.length ≤ 65536) (w : World) (F F2 : Nat → Prop) (h1 : (Blk true b #[.map (some M)] 93).at_ w F) (h2 : (MapE true M es clock).at_ w F2) :
    Calls Tryz.prog 76 #[.func (.func 78) #[] #[.pointer (some ⟨b, 0, none⟩)]] w (CollPost l w) := by
  have S : St (fun _ => False) w w [Blk true b #[.map (some M)] 93, MapE true M es clock] := ((St.init _ w).share (A := MapE true M es clock) rfl rfl h2).share (A := Blk true b #[.map (some M)] 93) rfl rfl h1
  clear h1 h2
  have HA := Lib.hid fun w F F2 h1 h2 => appseq_calls b M es clock l ht hn w F F2 h1 h2
  clear ht hn
  go_enter Tryz.func76, Tryz.ntmps76
  go_wp2_with first | (go_at_call 129; (with_reducible refine Calls.mono (HA.out _ _ _ (S.get (i := 0) rfl).choose_spec (S.get (i := 1) rfl).choose_spec) ?_); rintro rr wz ⟨ad, c, all, rfl, hall, T⟩; replace S := S.join T rfl; clear T; simp only [List.cons_append, List.nil_append] at S) | ((with_reducible refine tot_done ?ht ?_); (case ht => kernel_rfl))
  go_ret
  exact ⟨ad, c, all, rfl, hall, S.pick [0] rfl⟩
def SortedPost (ks : List Int) (w : World) (e : Ending) (w' : World) : Prop :=
  ∃ ad c, e = .returned (.slice ad ks.length c) ∧ St (fun _ => False) w w' [Mem.Own 3 intE 1 (.slice ad ks.length c) ks]
set_option maxRecDepth 100000 in
set_option maxHeartbeats 8000000 in
theorem sorted_calls (b M : Nat) (es : Array MapEntry) (clock : Nat) (l : List (Int × Value)) (ht : Tells Tryz.prog 3 intE es clock l) (hn : l.length ≤ 65536) (w : World) (F F2 : Nat → Prop) (h1 : (Blk true b #[.map (some M)] 93).at_ w F) (h2 : (MapE true M es clock).at_ w F2) :
    Calls Tryz.prog 39 #[.func (.func 78) #[] #[.pointer (some ⟨b, 0, none⟩)]] w (SortedPost (sortZ (l.map (·.1))) w) := by
  have S : St (fun _ => False) w w [Blk true b #[.map (some M)] 93, MapE true M es clock] := ((St.init _ w).share (A := MapE true M es clock) rfl rfl h2).share (A := Blk true b #[.map (some M)] 93) rfl rfl h1
  clear h1 h2
  have HA := Lib.hid fun w F F2 h1 h2 => coll_calls b M es clock l ht hn w F F2 h1 h2
  have HN := Lib.hid hn
  clear ht hn
  go_enter Tryz.func39, Tryz.ntmps39
  go_upto_region 2 with first | (go_at_call 76; (with_reducible refine Calls.mono (HA.out _ _ _ (S.get (i := 0) rfl).choose_spec (S.get (i := 1) rfl).choose_spec) ?_); rintro rr wz ⟨ad, c, all, rfl, hall, T⟩; replace S := S.join T rfl; clear T; simp only [List.cons_append, List.nil_append] at S; have HLL : Hid (all.length = l.length) := Lib.hid (by have := hall.length_eq; simpa using this); have HS := Lib.hid (sortZ_of hall); clear hall) | ((with_reducible refine tot_done ?ht ?_); (case ht => kernel_rfl))
  have HN2 : Hid (all.length ≤ 65536) := Lib.hid (by rw [HLL.out]; exact HN.out)
  have HZL : Hid ((sortZ (l.map (·.1))).length = l.length) := Lib.hid (by rw [(sortZ_perm _).length_eq, List.length_map])
  go_wp2_with first | (go_at_call 77; (with_reducible refine Calls.mono (sortI_calls 0 S rfl HN2.out) ?_); clear S; rintro rr wz ⟨rfl, S⟩; simp only [List.set_cons_zero] at S; rw [HS.out] at S) | ((with_reducible refine tot_done ?ht ?_); (case ht => kernel_rfl))
  go_ret
  refine ⟨ad, c, by rw [HZL.out]; rfl, ?_⟩
  rw [HZL.out]
  exact S.pick [0] rfl
end Go.Proofs.YtmpfbkfemlhekaaGreatDoor
/- A worker as a thing; the walks of Home and NewWorker. -/
namespace Go.Proofs.YtmpfbkfemlhekaaGreatDoor
open Go Go.RowKit Reg Mem

structure WkE where
  no : Int
  opn : List (Int × Int)
  low : Int
  ps : List (Int × LpE)
def iiV (l : List (Int × Int)) : List (Int × Value) := l.map fun p => (p.1, Value.int .i64 p.2)
def gvtA (X : Nat) (no : Int) (opn : List (Int × Int)) (low : Int) : Asn := exs false fun M : Nat =>
  sep false (Blk false X #[.int .i64 no, .map (some M), .int .i64 low] 150) (MapK false Tryz.prog 3 intE M (iiV opn))
structure LpAt where
  id : Int
  x : Nat
  p : LpE
def LpAt.kv (q : LpAt) : Int × Value := (q.id, .pointer (some ⟨q.x, 0, none⟩))
def LpAt.e (q : LpAt) : Int × LpE := (q.id, q.p)
def workerB (W R : Nat) (k : WkE) (q : Nat × Nat × List LpAt) : Asn :=
  sep false (pur (q.2.2.map LpAt.e = k.ps)) (sep false (Blk false W #[.pointer (some ⟨q.1, 0, none⟩), .map (some q.2.1)] 95)
    (sep false (gvtA q.1 k.no k.opn k.low) (sep false (MapK false Tryz.prog 3 intE q.2.1 (q.2.2.map LpAt.kv)) (stars (q.2.2.map fun q => lpA q.x R q.p)))))
def workerA (W R : Nat) (k : WkE) : Asn := exs false (workerB W R k)
set_option maxHeartbeats 1000000 in
theorem worker_close {G : Nat → Prop} {w0 w : World} {L : List Asn} {W R g M : Nat} {k : WkE} {qs : List LpAt} (h1 : qs.map LpAt.e = k.ps)
    (S : St G w0 w (MapK false Tryz.prog 3 intE M (qs.map LpAt.kv) :: stars (qs.map fun q => lpA q.x R q.p) :: gvtA g k.no k.opn k.low :: Blk false W #[.pointer (some ⟨g, 0, none⟩), .map (some M)] 95 :: L)) : St G w0 w (workerA W R k :: L) :=
by
  have S1 := (S.close_sep rfl (stars_sh _)).swap2.close_sep rfl rfl
  have S2 := (S1.swap2.close_sep rfl rfl).close_pur h1
  have S3 : St G w0 w (workerB W R k (g, M, qs) :: L) := S2.close_sep rfl rfl
  exact S3.close_exs (A := workerB W R k) (g, M, qs) rfl
def homeOf (lp workers : Int) : Int := if workers < 1 ∨ lp < 0 then 0 else lp % workers
set_option maxRecDepth 100000 in
theorem home_calls (a b : Int) (ha : -9223372036854775808 ≤ a) (ha2 : a ≤ 9223372036854775807) (w : World) : Calls Tryz.prog 6 #[.int .i64 a, .int .i64 b] w fun e w' => e = .returned (.int .i64 (homeOf a b)) ∧ Below w.heap.size w w' := by
  have S := St.init (fun _ => False) w
  by_cases h1 : b < 1
  · have e : homeOf a b = 0 := by unfold homeOf; rw [if_pos (.inl h1)]
    rw [e]
    have f1 : decide (b < 1) = true := decide_eq_true h1
    clear h1 e
    go_enter Tryz.func6, Tryz.ntmps6
    go_wp2_with first | go_skip | ((with_reducible refine wpList_skip ?hw ?_); (case hw => with_unfolding_all rfl); simp only [Act.put, List.setIfInBounds_toArray, List.set_cons_succ, List.set_cons_zero]) | ((with_reducible refine tot_done ?ht ?_); (case ht => kernel_rfl))
    go_ret
    exact ⟨rfl, S.below⟩
  · have f1 : decide (b < 1) = false := decide_eq_false h1
    by_cases h2 : a < 0
    · have e : homeOf a b = 0 := by unfold homeOf; rw [if_pos (.inr h2)]
      rw [e]
      have f2 : decide (a < 0) = true := decide_eq_true h2
      clear h1 h2 e
      go_enter Tryz.func6, Tryz.ntmps6
      go_wp2_with first | go_skip | ((with_reducible refine wpList_skip ?hw ?_); (case hw => with_unfolding_all rfl); simp only [Act.put, List.setIfInBounds_toArray, List.set_cons_succ, List.set_cons_zero]) | ((with_reducible refine tot_done ?ht ?_); (case ht => kernel_rfl))
      go_ret
      exact ⟨rfl, S.below⟩
    · have f2 : decide (a < 0) = false := decide_eq_false h2
      have e : homeOf a b = a % b := by unfold homeOf; rw [if_neg (by omega)]
      rw [e]
      have hb0 : b ≠ 0 := by omega
      have h3 : 1 ≤ b := by omega
      clear h1 e
      go_enter Tryz.func6, Tryz.ntmps6
      go_wp2_with first | go_skip | ((with_reducible refine wpList_skip ?hw ?_); (case hw => with_unfolding_all rfl); simp only [Act.put, List.setIfInBounds_toArray, List.set_cons_succ, List.set_cons_zero]) | ((with_reducible refine tot_done ?ht ?_); (case ht => kernel_rfl))
      go_ret
      exact ⟨rfl, S.below⟩
set_option maxRecDepth 100000 in
theorem gnew_calls (w : World) : Calls Tryz.prog 36 #[] w fun e w' => ∃ X, e = .returned (.pointer (some ⟨X, 0, none⟩)) ∧ St (fun _ => False) w w' [gvtA X 0 [] 1073741825] := by
  have S := St.init (fun _ => False) w
  go_enter Tryz.func36, Tryz.ntmps36
  go_wp2_with first | ((with_reducible apply wps_makeMapK (P := Tryz.prog) (K := 3) S intE); clear S; intro M wz S) | ((with_reducible apply wps_boxa (E := 150) S); (case hx => rfl); clear S; intro bX wz S) | ((with_reducible refine tot_done ?ht ?_); (case ht => kernel_rfl)) | ((with_reducible apply wps_boxa S); (case hx => rfl); clear S; intro bz wz S) | ((with_reducible apply wps_box1 (v := .int _ _) S); (case hx | h1 => rfl); clear S; intro bz wz S) | ((with_reducible apply wps_box1 (v := .bool _) S); (case hx | h1 => rfl); clear S; intro bz wz S) | ((with_reducible apply wps_box1 (v := .slice _ _ _) S); (case hx | h1 => rfl); clear S; intro bz wz S) | ((with_reducible apply wps_box1 (v := .pointer _) S); (case hx | h1 => rfl); clear S; intro bz wz S) | ((with_reducible apply wps_box1 (v := .map _) S); (case hx | h1 => rfl); clear S; intro bz wz S) | ((with_reducible apply wps_box1 (v := .string _) S); (case hx | h1 => rfl); clear S; intro bz wz S) | ((with_reducible apply wps_box1 (v := .func _ _ _) S); (case hx | h1 => rfl); clear S; intro bz wz S)
  go_ret
  have S2 := (S.close_sep (by rfl) (by rfl)).close_exs (A := fun M : Nat => sep false (Blk false bX #[.int .i64 0, .map (some M), .int .i64 1073741825] 150) (MapK false Tryz.prog 3 intE M (iiV []))) M rfl
  exact ⟨_, rfl, S2⟩
end Go.Proofs.YtmpfbkfemlhekaaGreatDoor
