import Derived.Test.YtcnfionnnpnplaaGreatDoorR28
import Derived.Test.YtcnfionnnpnplaaGreatDoorR18
import Derived.Test.YtcnfionnnpnplaaGreatDoorR15
import Derived.Lib.MinMax
/- A simulation as a thing of the state; the walks of put. -/
namespace Go.Proofs.YtcnfionnnpnplaaGreatDoor
open Go Go.RowKit Reg Mem

def hpE (B : Nat) : List Value := [.pointer (some ⟨B, 0, none⟩)]
theorem hpElen : ∀ x, (hpE x).length = 1 := fun _ => rfl
theorem hpEone : ∀ x, ∀ u ∈ hpE x, u.oneCell' = true := fun x u hu => by simp only [hpE, List.mem_singleton] at hu; subst hu; rfl
set_option maxRecDepth 100000 in
theorem elem_Hp : Elem Tryz.prog 143 146 1 8 := ⟨_, .pointer none, Tryz.underlying143, rfl, by kernel_rfl, by kernel_rfl, by kernel_rfl, by kernel_rfl, by omega⟩
/-- A simulation: its block, its states, its heaps' pointers, and the heaps. -/
def simA (X R : Nat) (s : SimE) : Asn := exs false fun p : Value × Value × List Nat =>
  sep false (pur (p.2.2.length = s.ws.length)) (sep false (Blk false X #[p.1, .pointer (some ⟨R, 0, none⟩), p.2.1, .int .i64 s.many, .int .i64 s.peak] 145)
    (sep false (Own 50 State.cells 4 p.1 s.ss) (sep false (Own 146 hpE 1 p.2.1 p.2.2) (stars (List.zipWith heapA p.2.2 s.ws)))))
theorem sim_open {G : Nat → Prop} {w0 w : World} {L : List Asn} {X R : Nat} {s : SimE} (S : St G w0 w (simA X R s :: L)) :
    ∃ v1 v2 Bs, Bs.length = s.ws.length ∧ St G w0 w (stars (List.zipWith heapA Bs s.ws) :: Own 146 hpE 1 v2 Bs :: Own 50 State.cells 4 v1 s.ss :: Blk false X #[v1, .pointer (some ⟨R, 0, none⟩), v2, .int .i64 s.many, .int .i64 s.peak] 145 :: L) := by
  obtain ⟨⟨v1, v2, Bs⟩, S⟩ := S.open_exs (fun _ => rfl)
  obtain ⟨h1, S⟩ := (S.open_sep rfl rfl).open_pur
  exact ⟨v1, v2, Bs, h1, (((S.open_sep rfl rfl).swap2.open_sep rfl rfl).swap2.open_sep rfl (stars_sh _)).swap2⟩
theorem sim_close {G : Nat → Prop} {w0 w : World} {L : List Asn} {X R : Nat} {s : SimE} {v1 v2 : Value} {Bs : List Nat} (hl : Bs.length = s.ws.length)
    (S : St G w0 w (stars (List.zipWith heapA Bs s.ws) :: Own 146 hpE 1 v2 Bs :: Own 50 State.cells 4 v1 s.ss :: Blk false X #[v1, .pointer (some ⟨R, 0, none⟩), v2, .int .i64 s.many, .int .i64 s.peak] 145 :: L)) : St G w0 w (simA X R s :: L) :=
  ((((S.swap2.close_sep rfl (stars_sh _)).swap2.close_sep rfl rfl).swap2.close_sep rfl rfl).close_pur hl |>.close_sep rfl rfl).close_exs (A := fun p : Value × Value × List Nat =>
  sep false (pur (p.2.2.length = s.ws.length)) (sep false (Blk false X #[p.1, .pointer (some ⟨R, 0, none⟩), p.2.1, .int .i64 s.many, .int .i64 s.peak] 145)
    (sep false (Own 50 State.cells 4 p.1 s.ss) (sep false (Own 146 hpE 1 p.2.1 p.2.2) (stars (List.zipWith heapA p.2.2 s.ws)))))) (v1, v2, Bs) rfl
theorem zipWith_at {Bs : List Nat} {ws : List (List Row)} {k B : Nat} {h : List Row} (hB : Bs[k]? = some B) (hw : ws[k]? = some h) : (List.zipWith heapA Bs ws)[k]? = some (heapA B h) := by
  rw [List.getElem?_zipWith, hB, hw]
theorem zipWith_put {Bs : List Nat} {ws : List (List Row)} {k B : Nat} {h : List Row} (hB : Bs[k]? = some B) : (List.zipWith heapA Bs ws).set k (heapA B h) = List.zipWith heapA Bs (ws.set k h) := by
  apply List.ext_getElem?
  intro i
  rw [List.getElem?_set, List.getElem?_zipWith, List.getElem?_zipWith, List.getElem?_set]
  by_cases e : k = i
  · subst e
    rw [if_pos rfl, if_pos rfl, hB]
    by_cases hk : k < ws.length
    · have hkB : k < Bs.length := (List.getElem?_eq_some_iff.1 hB).1
      rw [if_pos hk, if_pos (by simp; omega)]
    · rw [if_neg hk, if_neg (by simp; omega)]
  · rw [if_neg e, if_neg e]
/-- How much a simulation is, at most. -/
structure SimB (ws : List (List Row)) (many : Int) (n : Nat) : Prop where
  lo : -(n : Int) ≤ many
  hi : many ≤ n
  each : ∀ h ∈ ws, h.length ≤ n
theorem SimB.mono {ws : List (List Row)} {many : Int} {n m : Nat} (h : SimB ws many n) (hm : n ≤ m) : SimB ws many m :=
  ⟨by have := h.lo; omega, by have := h.hi; omega, fun x hx => Nat.le_trans (h.each x hx) hm⟩
theorem SimB.putOne {p : List (List Row) × Int} {n : Nat} (h : SimB p.1 p.2 n) (x : Event) : SimB (putOne p x).1 (putOne p x).2 (n + 1) := by
  unfold Go.Proofs.YtcnfionnnpnplaaGreatDoor.putOne
  split
  · rename_i s hs
    refine ⟨by have := h.lo; simp only; split <;> omega, by have := h.hi; simp only; split <;> omega, fun y hy => ?_⟩
    rcases List.mem_or_eq_of_mem_set hy with hy | rfl
    · exact Nat.le_succ_of_le (h.each y hy)
    · exact Nat.le_trans (pushed_length s _) (Nat.succ_le_succ (h.each s (List.mem_of_getElem? hs)))
  · exact h.mono (Nat.le_succ n)
theorem SimB.puts : ∀ (l : List Event) {p : List (List Row) × Int} {n : Nat}, SimB p.1 p.2 n → SimB (l.foldl Go.Proofs.YtcnfionnnpnplaaGreatDoor.putOne p).1 (l.foldl Go.Proofs.YtcnfionnnpnplaaGreatDoor.putOne p).2 (n + l.length)
  | [], _, _, h => h
  | x :: l, p, n, h => by
    have := SimB.puts l (p := Go.Proofs.YtcnfionnnpnplaaGreatDoor.putOne p x) (h.putOne x)
    rw [show n + (x :: l).length = n + 1 + l.length by simp; omega]
    exact this
def PutRel (F : Nat → Prop) (X R : Nat) (v1 v2 v : Value) (Bs : List Nat) (s : SimE) (l : List Event) (w : World) (i : Value) (wr : World) : Prop :=
  ∃ (j : Nat) (ws : List (List Row)) (many : Int), j ≤ l.length ∧ i = .int .i64 j ∧ Hid ((l.take j).foldl putOne (s.ws, s.many) = (ws, many)) ∧
    St F w wr [stars (List.zipWith heapA Bs ws), Own 146 hpE 1 v2 Bs, Own 50 State.cells 4 v1 s.ss, Blk false X #[v1, .pointer (some ⟨R, 0, none⟩), v2, .int .i64 many, .int .i64 s.peak] 145, Sl true Event.cells 7 v l]
set_option maxRecDepth 100000 in
set_option maxHeartbeats 4000000 in
theorem put_calls (X R : Nat) (s : SimE) (v : Value) (l : List Event) (n : Nat) (w : World) (F : Nat → Prop) (S0 : St F w w [simA X R s, Sl true Event.cells 7 v l]) (hB : SimB s.ws s.many n) (hn : n + l.length ≤ 1073741824) (hl : ∀ x ∈ l, 0 ≤ x.dst ∧ x.dst < s.ws.length) :
    Calls Tryz.prog 71 #[.pointer (some ⟨X, 0, none⟩), v] w fun e w' => e = .returned (.tuple #[]) ∧ St F w w' [simA X R (putE s l)] := by
  obtain ⟨v1, v2, Bs, hlen, S⟩ := sim_open S0
  clear S0
  obtain ⟨ad, cp, rfl, _⟩ := (S.sl 4 rfl).elim fun _ h => h.form
  obtain ⟨ap, cpp, rfl, _⟩ := (S.ownsl hpElen 1 rfl).elim fun _ h => h.form
  have HB := Lib.hid hB
  have HL := Lib.hid hl
  have HLEN := Lib.hid hlen
  clear hB hl
  have hnl : (l.length : Int) ≤ 1073741824 := by omega
  go_enter Tryz.func71, Tryz.ntmps71
  go_wp2_with first | ((with_reducible refine tot_done ?ht ?_); (case ht => kernel_rfl)) | ((with_reducible apply wps_text S); (case hm => kernel_rfl); (case hB => decide +kernel); clear S; intro wz S) | ((with_reducible apply wps_alloca (E := 56) S); (case hz => exact Tryz.zeroValue56); clear S; intro bz wz S) | ((with_reducible apply wps_load S 0); (case hx | hi | hu => rfl); (case hT => decide +kernel)) | ((with_reducible apply wps_loada (T := 54) (k := 4) S 0); (case hx | hi => rfl); (case hk => exact Nat.le_of_ble_eq_true rfl); (case hT => decide +kernel)) | ((with_reducible apply wps_loada (T := 56) (k := 7) S 0); (case hx | hi => rfl); (case hk => exact Nat.le_of_ble_eq_true rfl); (case hT => decide +kernel)) | ((with_reducible apply wps_load S 1); (case hx | hi | hu => rfl); (case hT => decide +kernel)) | ((with_reducible apply wps_loada (T := 54) (k := 4) S 1); (case hx | hi => rfl); (case hk => exact Nat.le_of_ble_eq_true rfl); (case hT => decide +kernel)) | ((with_reducible apply wps_loada (T := 56) (k := 7) S 1); (case hx | hi => rfl); (case hk => exact Nat.le_of_ble_eq_true rfl); (case hT => decide +kernel)) | ((with_reducible apply wps_load S 2); (case hx | hi | hu => rfl); (case hT => decide +kernel)) | ((with_reducible apply wps_loada (T := 54) (k := 4) S 2); (case hx | hi => rfl); (case hk => exact Nat.le_of_ble_eq_true rfl); (case hT => decide +kernel)) | ((with_reducible apply wps_loada (T := 56) (k := 7) S 2); (case hx | hi => rfl); (case hk => exact Nat.le_of_ble_eq_true rfl); (case hT => decide +kernel)) | ((with_reducible apply wps_load S 3); (case hx | hi | hu => rfl); (case hT => decide +kernel)) | ((with_reducible apply wps_loada (T := 54) (k := 4) S 3); (case hx | hi => rfl); (case hk => exact Nat.le_of_ble_eq_true rfl); (case hT => decide +kernel)) | ((with_reducible apply wps_loada (T := 56) (k := 7) S 3); (case hx | hi => rfl); (case hk => exact Nat.le_of_ble_eq_true rfl); (case hT => decide +kernel))
  go_loopw [8] (fun i wr => PutRel F X R v1 (.slice ap Bs.length cpp) (.slice ad l.length cp) Bs s l w i wr) (fun i _ => l.length - (intOf i).toNat)
  case atStart => exact ⟨0, s.ws, s.many, Nat.zero_le _, rfl, rfl, S⟩
  case round =>
    clear S
    obtain ⟨j, ws, many, hj, rfl, Hp, S⟩ := hrel
    by_cases hlt : j < l.length
    · obtain ⟨x, hx⟩ : ∃ x, l[j]? = some x := ⟨_, List.getElem?_eq_getElem hlt⟩
      obtain ⟨R1, o1, rfl⟩ : ∃ R o, ad = some ⟨R, o, none⟩ := (S.sl 4 rfl).elim fun F h => h.head (by omega)
      have hlt2 : (j : Int) < l.length := by omega
      have hxd := HL.out x (List.mem_of_getElem? hx)
      have hwl : ws.length = s.ws.length := by have := puts_len (l.take j) (s.ws, s.many); rw [Hp.out] at this; exact this
      have hbw := SimB.puts (l.take j) (p := (s.ws, s.many)) HB.out
      rw [Hp.out] at hbw
      obtain ⟨d, hd⟩ : ∃ d : Nat, x.dst = d := ⟨x.dst.toNat, by omega⟩
      have hdl : d < Bs.length := by omega
      have hdl2 : (d : Int) < Bs.length := by omega
      obtain ⟨R2, c2, e2⟩ := own_hd 1 S rfl (by omega)
      simp only [Value.slice.injEq] at e2
      obtain ⟨rfl, _, rfl⟩ := e2
      obtain ⟨B, hBd⟩ : ∃ B, Bs[d]? = some B := ⟨_, List.getElem?_eq_getElem hdl⟩
      obtain ⟨h, hh⟩ : ∃ h, ws[d]? = some h := ⟨_, List.getElem?_eq_getElem (by omega)⟩
      have hmax : h.length < 4294967296 := by have := hbw.each h (List.mem_of_getElem? hh); rw [List.length_take] at this; omega
      obtain ⟨xk, xd, xn, xv⟩ := x
      obtain rfl : xd = d := hd
      have hm0 : -1073741824 ≤ many := by have := hbw.lo; rw [List.length_take] at this; omega
      have hm1 : many ≤ 1073741824 := by have := hbw.hi; rw [List.length_take] at this; omega
      have HK := Lib.hid (zipWith_at hBd hh)
      have HPU := Lib.hid (hpush_calls B h xk ⟨xk, d, xn, xv⟩)
      have HZ := Lib.hid fun h' => zipWith_put (ws := ws) (h := h') hBd
      have Hx := Lib.hid hx
      have HBd := Lib.hid hBd
      have Hh := Lib.hid hh
      clear hx hBd hh
      by_cases hk : xk ∈ h.map (·.key)
      · have HA : Hid (PushAns h ⟨xk, ⟨xk, d, xn, xv⟩⟩ = 13) := by unfold PushAns; exact if_pos hk
        have HE : Hid (pushed h ⟨xk, ⟨xk, d, xn, xv⟩⟩ = h) := by unfold pushed; exact if_pos hk
        rw [HA.out, HE.out] at HPU
        have HKK := Lib.hid hk
        clear hk
        go_wp2_with first | ((with_reducible apply wps_alloca (E := 56) S); (case hz => exact Tryz.zeroValue56); clear S; intro bx wz S) | ((with_reducible apply wps_loada_el S 4 (hj := Hx.out) (q := 0) (vs := [.int .i64 (⟨xk,d,xn,xv⟩:Event).key.at_, .int .i64 (⟨xk,d,xn,xv⟩:Event).key.src, .int .i64 (⟨xk,d,xn,xv⟩:Event).key.sent, .int .i64 (⟨xk,d,xn,xv⟩:Event).key.no, .int .i64 (⟨xk,d,xn,xv⟩:Event).dst, .int .i64 (⟨xk,d,xn,xv⟩:Event).kind, .int .i64 (⟨xk,d,xn,xv⟩:Event).data]) (m := 7)); (case hx | hi => rfl); (case hn => omega); (case hm | hv => rfl); (case hT => decide +kernel)) | ((with_reducible apply wps_loada_el S 4 (hj := Hx.out) (q := 0) (vs := [.int .i64 (⟨xk,d,xn,xv⟩:Event).key.at_, .int .i64 (⟨xk,d,xn,xv⟩:Event).key.src, .int .i64 (⟨xk,d,xn,xv⟩:Event).key.sent, .int .i64 (⟨xk,d,xn,xv⟩:Event).key.no]) (m := 4)); (case hx | hi => rfl); (case hn => omega); (case hm | hv => rfl); (case hT => decide +kernel)) | ((with_reducible apply wps_load_el S 4 (hj := Hx.out) (q := 4) (u := .int .i64 (⟨xk,d,xn,xv⟩:Event).dst)); (case hx | hi => rfl); (case hn => omega); (case hu => rfl); (case hT => decide +kernel)) | ((with_reducible apply wps_storea (T := 56) S 0 (vs := [.int .i64 xk.at_, .int .i64 xk.src, .int .i64 xk.sent, .int .i64 xk.no, .int .i64 d, .int .i64 xn, .int .i64 xv]) (m := 7)); (case hx | hy | hi | hm | h1 => rfl); (case hn => exact Nat.le_of_ble_eq_true rfl); (case hT => decide +kernel); clear S; intro wz S; simp only [List.set_cons_zero, List.set_cons_succ, setAll, List.setIfInBounds_toArray] at S) | ((with_reducible apply wps_load_own hpElen S 2 (hj := HBd.out) (q := 0) (u := (.pointer (some ⟨B, 0, none⟩)))); (case hx | hi => rfl); (case hn => omega); (case hu => rfl); (case hT => decide +kernel)) | (go_at_call 102; obtain ⟨Fz, hF, hBk⟩ := S.starLend 1 rfl _ HK.out; refine Calls.mono (HPU.out _ _ hF hmax) ?_; rintro e wz ⟨rfl, T⟩; replace S := hBk _ _ rfl T; clear hBk hF T; simp only [List.set_cons_succ, List.set_cons_zero] at S) | ((with_reducible refine tot_done ?ht ?_); (case ht => kernel_rfl)) | ((with_reducible apply wps_text S); (case hm => kernel_rfl); (case hB => decide +kernel); clear S; intro wz S) | ((with_reducible apply wps_alloca (E := 56) S); (case hz => exact Tryz.zeroValue56); clear S; intro bz wz S) | ((with_reducible apply wps_load S 0); (case hx | hi | hu => rfl); (case hT => decide +kernel)) | ((with_reducible apply wps_loada (T := 54) (k := 4) S 0); (case hx | hi => rfl); (case hk => exact Nat.le_of_ble_eq_true rfl); (case hT => decide +kernel)) | ((with_reducible apply wps_loada (T := 56) (k := 7) S 0); (case hx | hi => rfl); (case hk => exact Nat.le_of_ble_eq_true rfl); (case hT => decide +kernel)) | ((with_reducible apply wps_load S 1); (case hx | hi | hu => rfl); (case hT => decide +kernel)) | ((with_reducible apply wps_loada (T := 54) (k := 4) S 1); (case hx | hi => rfl); (case hk => exact Nat.le_of_ble_eq_true rfl); (case hT => decide +kernel)) | ((with_reducible apply wps_loada (T := 56) (k := 7) S 1); (case hx | hi => rfl); (case hk => exact Nat.le_of_ble_eq_true rfl); (case hT => decide +kernel)) | ((with_reducible apply wps_load S 2); (case hx | hi | hu => rfl); (case hT => decide +kernel)) | ((with_reducible apply wps_loada (T := 54) (k := 4) S 2); (case hx | hi => rfl); (case hk => exact Nat.le_of_ble_eq_true rfl); (case hT => decide +kernel)) | ((with_reducible apply wps_loada (T := 56) (k := 7) S 2); (case hx | hi => rfl); (case hk => exact Nat.le_of_ble_eq_true rfl); (case hT => decide +kernel)) | ((with_reducible apply wps_load S 3); (case hx | hi | hu => rfl); (case hT => decide +kernel)) | ((with_reducible apply wps_loada (T := 54) (k := 4) S 3); (case hx | hi => rfl); (case hk => exact Nat.le_of_ble_eq_true rfl); (case hT => decide +kernel)) | ((with_reducible apply wps_loada (T := 56) (k := 7) S 3); (case hx | hi => rfl); (case hk => exact Nat.le_of_ble_eq_true rfl); (case hT => decide +kernel)) | ((with_reducible apply wps_load S 4); (case hx | hi | hu => rfl); (case hT => decide +kernel)) | ((with_reducible apply wps_loada (T := 54) (k := 4) S 4); (case hx | hi => rfl); (case hk => exact Nat.le_of_ble_eq_true rfl); (case hT => decide +kernel)) | ((with_reducible apply wps_loada (T := 56) (k := 7) S 4); (case hx | hi => rfl); (case hk => exact Nat.le_of_ble_eq_true rfl); (case hT => decide +kernel))
        rw [HZ.out] at S
        go_roundw
        case rel =>
          refine ⟨j + 1, ws.set d h, many, by omega, by go_num, ?_, S.pick [1, 2, 3, 4, 5] rfl⟩
          rw [take_snoc Hx.out, List.foldl_append, Hp.out]
          show putOne (ws, many) _ = _
          unfold putOne
          simp only [Int.toNat_natCast]
          rw [Hh.out]
          simp only [rowOf]
          rw [HE.out, if_pos HKK.out]
        case measure => simp [intOf]; omega
      · have HA : Hid (PushAns h ⟨xk, ⟨xk, d, xn, xv⟩⟩ = 0) := by unfold PushAns; exact if_neg hk
        rw [HA.out] at HPU
        have HKK := Lib.hid hk
        clear hk
        go_wp2_with first | ((with_reducible apply wps_alloca (E := 56) S); (case hz => exact Tryz.zeroValue56); clear S; intro bx wz S) | ((with_reducible apply wps_loada_el S 4 (hj := Hx.out) (q := 0) (vs := [.int .i64 (⟨xk,d,xn,xv⟩:Event).key.at_, .int .i64 (⟨xk,d,xn,xv⟩:Event).key.src, .int .i64 (⟨xk,d,xn,xv⟩:Event).key.sent, .int .i64 (⟨xk,d,xn,xv⟩:Event).key.no, .int .i64 (⟨xk,d,xn,xv⟩:Event).dst, .int .i64 (⟨xk,d,xn,xv⟩:Event).kind, .int .i64 (⟨xk,d,xn,xv⟩:Event).data]) (m := 7)); (case hx | hi => rfl); (case hn => omega); (case hm | hv => rfl); (case hT => decide +kernel)) | ((with_reducible apply wps_loada_el S 4 (hj := Hx.out) (q := 0) (vs := [.int .i64 (⟨xk,d,xn,xv⟩:Event).key.at_, .int .i64 (⟨xk,d,xn,xv⟩:Event).key.src, .int .i64 (⟨xk,d,xn,xv⟩:Event).key.sent, .int .i64 (⟨xk,d,xn,xv⟩:Event).key.no]) (m := 4)); (case hx | hi => rfl); (case hn => omega); (case hm | hv => rfl); (case hT => decide +kernel)) | ((with_reducible apply wps_load_el S 4 (hj := Hx.out) (q := 4) (u := .int .i64 (⟨xk,d,xn,xv⟩:Event).dst)); (case hx | hi => rfl); (case hn => omega); (case hu => rfl); (case hT => decide +kernel)) | ((with_reducible apply wps_storea (T := 56) S 0 (vs := [.int .i64 xk.at_, .int .i64 xk.src, .int .i64 xk.sent, .int .i64 xk.no, .int .i64 d, .int .i64 xn, .int .i64 xv]) (m := 7)); (case hx | hy | hi | hm | h1 => rfl); (case hn => exact Nat.le_of_ble_eq_true rfl); (case hT => decide +kernel); clear S; intro wz S; simp only [List.set_cons_zero, List.set_cons_succ, setAll, List.setIfInBounds_toArray] at S) | ((with_reducible apply wps_load_own hpElen S 2 (hj := HBd.out) (q := 0) (u := (.pointer (some ⟨B, 0, none⟩)))); (case hx | hi => rfl); (case hn => omega); (case hu => rfl); (case hT => decide +kernel)) | (go_at_call 102; obtain ⟨Fz, hF, hBk⟩ := S.starLend 1 rfl _ HK.out; refine Calls.mono (HPU.out _ _ hF hmax) ?_; rintro e wz ⟨rfl, T⟩; replace S := hBk _ _ rfl T; clear hBk hF T; simp only [List.set_cons_succ, List.set_cons_zero] at S) | ((with_reducible apply wps_store (u := (.int .i64 (many + 1))) S 4); (case hx | hy | hi | h1 => rfl); (case hn => exact Nat.le_of_ble_eq_true rfl); (case hT => decide +kernel); clear S; intro wz S; simp only [List.set_cons_succ, List.set_cons_zero, List.setIfInBounds_toArray] at S) | ((with_reducible refine tot_done ?ht ?_); (case ht => kernel_rfl)) | ((with_reducible apply wps_text S); (case hm => kernel_rfl); (case hB => decide +kernel); clear S; intro wz S) | ((with_reducible apply wps_alloca (E := 56) S); (case hz => exact Tryz.zeroValue56); clear S; intro bz wz S) | ((with_reducible apply wps_load S 0); (case hx | hi | hu => rfl); (case hT => decide +kernel)) | ((with_reducible apply wps_loada (T := 54) (k := 4) S 0); (case hx | hi => rfl); (case hk => exact Nat.le_of_ble_eq_true rfl); (case hT => decide +kernel)) | ((with_reducible apply wps_loada (T := 56) (k := 7) S 0); (case hx | hi => rfl); (case hk => exact Nat.le_of_ble_eq_true rfl); (case hT => decide +kernel)) | ((with_reducible apply wps_load S 1); (case hx | hi | hu => rfl); (case hT => decide +kernel)) | ((with_reducible apply wps_loada (T := 54) (k := 4) S 1); (case hx | hi => rfl); (case hk => exact Nat.le_of_ble_eq_true rfl); (case hT => decide +kernel)) | ((with_reducible apply wps_loada (T := 56) (k := 7) S 1); (case hx | hi => rfl); (case hk => exact Nat.le_of_ble_eq_true rfl); (case hT => decide +kernel)) | ((with_reducible apply wps_load S 2); (case hx | hi | hu => rfl); (case hT => decide +kernel)) | ((with_reducible apply wps_loada (T := 54) (k := 4) S 2); (case hx | hi => rfl); (case hk => exact Nat.le_of_ble_eq_true rfl); (case hT => decide +kernel)) | ((with_reducible apply wps_loada (T := 56) (k := 7) S 2); (case hx | hi => rfl); (case hk => exact Nat.le_of_ble_eq_true rfl); (case hT => decide +kernel)) | ((with_reducible apply wps_load S 3); (case hx | hi | hu => rfl); (case hT => decide +kernel)) | ((with_reducible apply wps_loada (T := 54) (k := 4) S 3); (case hx | hi => rfl); (case hk => exact Nat.le_of_ble_eq_true rfl); (case hT => decide +kernel)) | ((with_reducible apply wps_loada (T := 56) (k := 7) S 3); (case hx | hi => rfl); (case hk => exact Nat.le_of_ble_eq_true rfl); (case hT => decide +kernel)) | ((with_reducible apply wps_load S 4); (case hx | hi | hu => rfl); (case hT => decide +kernel)) | ((with_reducible apply wps_loada (T := 54) (k := 4) S 4); (case hx | hi => rfl); (case hk => exact Nat.le_of_ble_eq_true rfl); (case hT => decide +kernel)) | ((with_reducible apply wps_loada (T := 56) (k := 7) S 4); (case hx | hi => rfl); (case hk => exact Nat.le_of_ble_eq_true rfl); (case hT => decide +kernel))
        rw [HZ.out] at S
        go_roundw
        case rel =>
          refine ⟨j + 1, ws.set d (pushed h ⟨xk, ⟨xk, d, xn, xv⟩⟩), many + 1, by omega, by go_num, ?_, S.pick [1, 2, 3, 4, 5] rfl⟩
          rw [take_snoc Hx.out, List.foldl_append, Hp.out]
          show putOne (ws, many) _ = _
          unfold putOne
          simp only [Int.toNat_natCast]
          rw [Hh.out]
          simp only [rowOf]
          rw [if_neg HKK.out]
        case measure => simp [intOf]; omega
    · obtain rfl : j = l.length := by omega
      go_wp2_with first | ((with_reducible apply wps_store (u := (.int .i64 (max s.peak many))) S 3); (case hx | hy | hi | h1 => rfl); (case hn => exact Nat.le_of_ble_eq_true rfl); (case hT => decide +kernel); clear S; intro wz S; simp only [List.set_cons_succ, List.set_cons_zero, List.setIfInBounds_toArray] at S) | ((with_reducible refine tot_done ?ht ?_); (case ht => kernel_rfl)) | ((with_reducible apply wps_text S); (case hm => kernel_rfl); (case hB => decide +kernel); clear S; intro wz S) | ((with_reducible apply wps_alloca (E := 56) S); (case hz => exact Tryz.zeroValue56); clear S; intro bz wz S) | ((with_reducible apply wps_load S 0); (case hx | hi | hu => rfl); (case hT => decide +kernel)) | ((with_reducible apply wps_loada (T := 54) (k := 4) S 0); (case hx | hi => rfl); (case hk => exact Nat.le_of_ble_eq_true rfl); (case hT => decide +kernel)) | ((with_reducible apply wps_loada (T := 56) (k := 7) S 0); (case hx | hi => rfl); (case hk => exact Nat.le_of_ble_eq_true rfl); (case hT => decide +kernel)) | ((with_reducible apply wps_load S 1); (case hx | hi | hu => rfl); (case hT => decide +kernel)) | ((with_reducible apply wps_loada (T := 54) (k := 4) S 1); (case hx | hi => rfl); (case hk => exact Nat.le_of_ble_eq_true rfl); (case hT => decide +kernel)) | ((with_reducible apply wps_loada (T := 56) (k := 7) S 1); (case hx | hi => rfl); (case hk => exact Nat.le_of_ble_eq_true rfl); (case hT => decide +kernel)) | ((with_reducible apply wps_load S 2); (case hx | hi | hu => rfl); (case hT => decide +kernel)) | ((with_reducible apply wps_loada (T := 54) (k := 4) S 2); (case hx | hi => rfl); (case hk => exact Nat.le_of_ble_eq_true rfl); (case hT => decide +kernel)) | ((with_reducible apply wps_loada (T := 56) (k := 7) S 2); (case hx | hi => rfl); (case hk => exact Nat.le_of_ble_eq_true rfl); (case hT => decide +kernel)) | ((with_reducible apply wps_load S 3); (case hx | hi | hu => rfl); (case hT => decide +kernel)) | ((with_reducible apply wps_loada (T := 54) (k := 4) S 3); (case hx | hi => rfl); (case hk => exact Nat.le_of_ble_eq_true rfl); (case hT => decide +kernel)) | ((with_reducible apply wps_loada (T := 56) (k := 7) S 3); (case hx | hi => rfl); (case hk => exact Nat.le_of_ble_eq_true rfl); (case hT => decide +kernel)) | ((with_reducible apply wps_load S 4); (case hx | hi | hu => rfl); (case hT => decide +kernel)) | ((with_reducible apply wps_loada (T := 54) (k := 4) S 4); (case hx | hi => rfl); (case hk => exact Nat.le_of_ble_eq_true rfl); (case hT => decide +kernel)) | ((with_reducible apply wps_loada (T := 56) (k := 7) S 4); (case hx | hi => rfl); (case hk => exact Nat.le_of_ble_eq_true rfl); (case hT => decide +kernel))
      go_end0
      have hp := Hp.out
      rw [List.take_length] at hp
      have e : putE s l = ⟨ws, s.ss, many, max s.peak many⟩ := by unfold putE; rw [hp]
      refine ⟨rfl, ?_⟩
      rw [e]
      refine sim_close (s := ⟨ws, s.ss, many, max s.peak many⟩) ?_ (S.pick [0, 1, 2, 3] rfl)
      rw [HLEN.out]
      have := puts_len l (s.ws, s.many)
      rw [hp] at this
      exact this.symm
end Go.Proofs.YtcnfionnnpnplaaGreatDoor
