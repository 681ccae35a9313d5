import Derived.Test.YtmpfbkfemlhekaaGreatDoorB08
import Derived.Lib.AppendZerosOnto
import Derived.Lib.Overlaps
import Derived.Laws.Externs
import Derived.Test.YtmpfbkfemlhekaaGreatDoorB01
import Derived.Test.YtmpfbkfemlhekaaGreatDoorB06
import Derived.Test.YtmpfbkfemlhekaaGreatDoorB04
/- The block of a slice that is owned, as it lies; copies of many cells; a slice made longer by things of zero; overlaps. Over any program. -/
namespace Go.Proofs.YtmpfbkfemlhekaaGreatDoor.Mem
open Go Go.RowKit Reg
section
variable {G : Nat → Prop} {w0 w w' : World} {L : List Asn}
theorem St.raw {α : Type} {E : TypeId} {enc : α → List Value} {k R n c : Nat} {xs : List α} (S : St G w0 w L) (i : Nat) (hi : L[i]? = some (Own E enc k (.slice (some ⟨R, 0, none⟩) n c) xs)) :
    ∃ cur : Array Value, cur.size = c * k ∧ n = xs.length ∧ n ≤ c ∧ c ≤ maxLen ∧ cur.toList.take (n * k) = flatE enc xs ∧ St G w0 w (L.set i (Blk false R cur E)) := by
  obtain ⟨F0, hF0⟩ := S.get hi
  obtain ⟨cur, hO, hn⟩ := own_at hF0
  refine ⟨cur, hO.size, hn, by rw [hn]; exact hO.le, hO.max, by rw [hn]; exact hO.take, S.weak hi (fun _ => rfl) fun F hF => ⟨F, fun _ h => h, ?_, fun x => ?_⟩⟩
  · exact hO.heap
  · rw [hF.2 x]; simp [Value.ownBlock, eq_comm]
theorem own_hdE {α : Type} {E : TypeId} {enc : α → List Value} {k : Nat} {v : Value} {xs : List α} (i : Nat) (S : St G w0 w L) (hi : L[i]? = some (Own E enc k v xs)) (h0 : 0 < xs.length) : ∃ R c, v = .slice (some ⟨R, 0, none⟩) xs.length c := by
  obtain ⟨F1, h1, _⟩ := S.get hi
  obtain ⟨R, c, cur, e, _⟩ := h1.some (by omega)
  exact ⟨R, c, e⟩
theorem St.unraw {α : Type} {E : TypeId} {enc : α → List Value} {k R n c : Nat} {cur : Array Value} {xs : List α} (S : St G w0 w L) (hk : ∀ x, (enc x).length = k) (i : Nat) (hi : L[i]? = some (Blk false R cur E)) (hs : cur.size = c * k) (hn : n = xs.length) (hle : n ≤ c) (hm : c ≤ maxLen) (ht : cur.toList.take (n * k) = flatE enc xs) :
    St G w0 w (L.set i (Own E enc k (.slice (some ⟨R, 0, none⟩) n c) xs)) := by
  subst hn
  refine S.weak hi (fun _ => rfl) fun F hF => ⟨F, fun _ h => h, OwnAt.own hk ⟨hF.1, Nat.zero_le _, hle, hm, hs, ht⟩, fun x => ?_⟩
  rw [hF.2 x]; simp [Value.ownBlock, eq_comm]
end
section
variable {P : Program} {ops : Array Oper} {rest : List Oper} {a : Act} {Q : Exit → Act → World → Prop} {d : Option Tmp} {tt : TypeId} {p : String} {af : Array Edge} {gd : Option (Nat × Bool)} {x y : Operand}
variable {G : Nat → Prop} {w0 w w' : World} {L : List Asn}
theorem run_copyk {k b o dLen dCap b2 o2 sLen sCap : Nat} {cs cs2 : Array Value} {t t2 dT sT elem : TypeId} (us : List Value) (hb : w.heap[b]? = some (.cells cs t (0, 0))) (hb2 : w.heap[b2]? = some (.cells cs2 t2 (0, 0)))
    (hu : P.underlying dT = some (.slice elem)) (hE : ∀ w, (sizeOf elem).run P w = .ok k w) (hn : us.length = Nat.min sLen dLen * k) (hsrc : ∀ q v, us[q]? = some v → cs2[o2 + q]? = some v) (hfit : o + us.length ≤ cs.size) (h1 : ∀ v ∈ us, v.oneCell' = true) :
    (Builtin.copy_ #[dT, sT] tt #[.slice (some ⟨b, o, none⟩) dLen dCap, .slice (some ⟨b2, o2, none⟩) sLen sCap]).run P w = .ok (.int .i64 (Nat.min sLen dLen)) (w.setRow b (splice cs o us)) := by
  have hl := run_loadCells (P := P) b2 o2 w us 0 #[] (fun j v hj => by rw [Nat.add_zero, cell_of hb2]; exact hsrc j v hj)
  have hst := run_storeCells_at P b o t us 0 cs w hb (by simpa using hfit) h1
  simp only [Nat.add_zero] at hst
  have hl2 : (loadCells ⟨b2, o2, none⟩ (Nat.min sLen dLen * k)).run P w = .ok us.toArray w := by
    unfold loadCells; rw [← hn]; simpa using hl
  simp only [Builtin.copy_, List.getElem?_toArray, List.getElem?_cons_zero, List.getElem?_cons_succ, Sem.run_bind, run_underlying hu, Result.andThen_ok, Builtin.lenOf, Sem.run_pure, hE, Builtin.firstCells, hl2, hst, goInt]
  rfl
theorem wps_copyk {k b o dLen dCap b2 o2 sLen sCap : Nat} {cs cs2 : Array Value} {t t2 dT sT elem : TypeId} {sh : Bool} (S : St G w0 w L) (i : Nat) (hi : L[i]? = some (Blk false b cs t)) (j : Nat) (hj : L[j]? = some (Blk sh b2 cs2 t2)) (us : List Value) (nn : Nat)
    (hx : a.eval x = .slice (some ⟨b, o, none⟩) dLen dCap) (hy : a.eval y = .slice (some ⟨b2, o2, none⟩) sLen sCap) (hu : P.underlying dT = some (.slice elem)) (hE : ∀ w, (sizeOf elem).run P w = .ok k w)
    (hnn : nn = Nat.min sLen dLen) (hn : us.length = nn * k) (hsrc : ∀ q v, us[q]? = some v → cs2[o2 + q]? = some v) (hfit : o + us.length ≤ cs.size) (h1 : ∀ v ∈ us, v.oneCell' = true)
    (next : ∀ w', St G w0 w' (L.set i (Blk false b (splice cs o us) t)) → wpList P ops Q rest (a.put d (.int .i64 nn)) w') (hgd : gOk gd ops a = true := by with_unfolding_all rfl) :
    wpList P ops Q ({ dst := d, op := .call { callee := .builtin .copy, args := #[x, y], argTypes := #[dT, sT] }, type := tt, pos := p, after := af, guard := gd } :: rest) a w :=
  wpList_ok hgd fun K hK => by
    subst hnn
    have hr := run_copyk (P := P) (w := w) (tt := tt) (dT := dT) (sT := sT) (o := o) (dCap := dCap) (sCap := sCap) us (S.blk i hi) (S.blk j hj) hu hE hn hsrc hfit h1
    unfold Oper.wp execOp
    simp only [resolve, invoke, builtin, Sem.run_bind, Sem.run_pure, Result.andThen_ok, List.map_toArray, List.map_cons, List.map_nil, hx, hy, hr]
    exact hK _ _ (next _ (S.step hi rfl fun F hF => ⟨F, setRow_keep.mono (fun z _ hn e => hn ((hF.2 z).2 e)), ⟨setRow_heap w b cs _ t _ (S.blk i hi), hF.2⟩, fun _ h => .inl h⟩))
theorem wps_appendz {α : Type} {T TI E : TypeId} {kn : IntKind} {enc : α → List Value} {k bytes R n c u c2 m : Nat} {xs : List α} (el : Elem P T E k bytes) (hk : ∀ x, (enc x).length = k) (hTI : P.underlying TI = some (.int kn)) (z0 : α) (hz : zeroIs P E k (enc z0)) (S : St G w0 w L) (i : Nat)
    (hi : L[i]? = some (Own E enc k (.slice (some ⟨R, 0, none⟩) n c) xs)) (hx : a.eval x = .slice (some ⟨R, 0, none⟩) u c2) (hy : a.eval y = .int .i64 m) (hu : u ≤ xs.length) (h0 : 0 < m) (hg : c2 < u + m) (hl : u + m ≤ 4294967296) (hby : bytes ≤ 16384) (nn : Nat) (hnn : nn = u + m)
    (next : ∀ b c' w', St G w0 w' (Own E enc k (.slice (some ⟨b, 0, none⟩) nn c') (xs.take u ++ List.replicate m z0) :: L) → wpList P ops Q rest (a.put d (.slice (some ⟨b, 0, none⟩) nn c')) w') (hgd : gOk gd ops a = true := by with_unfolding_all rfl) :
    wpList P ops Q ({ dst := d, op := .call { callee := .builtin .append, args := #[x, y], argTypes := #[T, TI] }, type := tt, pos := p, after := af, guard := gd } :: rest) a w :=
  wpList_ok hgd fun K hK => by
    subst hnn
    obtain ⟨F0, hF0⟩ := S.get hi
    obtain ⟨cur, hO, hn⟩ := own_at hF0
    obtain ⟨ei, z, ht, hei, hez, hs, hbb, hzs, hpos⟩ := el
    obtain ⟨i', z', g1, g2, g3, g4, g5⟩ := hz
    have e1 : ei = i' := by have := hei; rw [g1] at this; exact (Option.some.inj this).symm
    subst e1
    have e2 : z = z' := by have := hez; rw [g2] at this; exact (Option.some.inj this).symm
    subst e2
    subst hs
    have hO2 := hO.cut hk u hu
    have hlen : (xs.take u).length = u := by rw [List.length_take]; omega
    have hfl : (flatE enc (xs.take u)).length = u * ei.size := by rw [flatE_length hk, hlen]
    have hcells : ∀ j v, (flatE enc (xs.take u))[j]? = some v → w.drew.cell? ⟨R, 0 + 0 + j, none⟩ = some v := fun j v hj => by
      have hj2 := (List.getElem?_eq_some_iff.1 hj).1
      have : w.drew.heap[R]? = some (.cells cur E (0, 0)) := hO.heap
      simp only [Nat.zero_add]
      rw [cell_of this]
      rw [← hO2.take, hlen, List.getElem?_take, if_pos (by omega)] at hj
      simpa using hj
    have hold : (Builtin.firstCells ei.size u (.slice (some ⟨R, 0, none⟩) u c2)).run P w.drew = .ok (flatE enc (xs.take u)).toArray w.drew := by
      have := run_loadCells (P := P) R 0 w.drew (flatE enc (xs.take u)) 0 #[] hcells
      unfold Builtin.firstCells loadCells
      rw [← hfl]; simpa using this
    have hfit : Builtin.nextslicecap (u + m) c2 * ei.bytes ≤ 281474976710656 := by
      refine growslice_fits (by omega) ?_
      have : (u + m) * ei.bytes ≤ 4294967296 * 16384 := Nat.mul_le_mul hl (by rw [hbb]; exact hby)
      omega
    have hr := Lib.run_append_grow_zeros (P := P) w T TI tt E ei z .i64 kn ht hTI hei hez (some ⟨R, 0, none⟩) u c2 _ hold m h0 hpos hg (by omega) (by
      have : m * ei.bytes ≤ 4294967296 * 16384 := Nat.mul_le_mul (by omega) (by rw [hbb]; exact hby)
      omega) hfit
    unfold Oper.wp execOp
    simp only [resolve, invoke, builtin, Sem.run_bind, Sem.run_pure, Result.andThen_ok, List.map_toArray, List.map_cons, List.map_nil, hx, hy, hr]
    refine hK _ _ (next _ _ _ (S.grow (F := fun b => b = w.heap.size) ⟨rfl, rfl, rfl, by simp, fun q hq _ => heap_alloc_old w.drew _ hq, Nat.le_succ _⟩ ?_ (fun b hb => by rw [hb]; exact Nat.le_refl _)))
    have hge := grownCap_ge w (u + m) c2 E
    have hl2 : (xs.take u ++ List.replicate m z0).length = u + m := by rw [List.length_append, hlen, List.length_replicate]
    have hzl : (Builtin.zeroCells z.cells m).toList = flatE enc (List.replicate m z0) := zeroCells_rep hk g4 _
    have hO3 : OwnAt E enc ei.size 0 (w.drew.alloc (.cells ((flatE enc (xs.take u)).toArray ++ Builtin.zeroCells z.cells m ++ Builtin.zeroCells z.cells (grownCap w (u + m) c2 E - (u + m))) E)) w.heap.size (grownCap w (u + m) c2 E) ((flatE enc (xs.take u)).toArray ++ Builtin.zeroCells z.cells m ++ Builtin.zeroCells z.cells (grownCap w (u + m) c2 E - (u + m))) (xs.take u ++ List.replicate m z0) := by
      refine ⟨heap_alloc_new w.drew _, Nat.zero_le _, by rw [hl2]; exact hge, grownCap_le_maxLen w _ _ E (by simp only [maxLen]; omega), ?_, ?_⟩
      · simp only [Array.size_append, List.size_toArray, size_zeroCells, hzs, hfl, ← Nat.add_mul]
        congr 1; omega
      · simp only [Array.toList_append, hzl]
        rw [hl2, flatE_append, ← show (flatE enc (xs.take u) ++ flatE enc (List.replicate m z0)).length = (u + m) * ei.size by rw [List.length_append, hfl, flatE_length hk, List.length_replicate, ← Nat.add_mul]]
        exact List.take_left
    have := hO3.own hk
    rw [hl2] at this
    exact ⟨this, fun b => by simp [Value.ownBlock, eq_comm]⟩
end
section
variable {P : Program} {α : Type} {enc : α → List Value} {k : Nat}
theorem splice_toList (cs : Array Value) (o : Nat) (vs : List Value) : (splice cs o vs).toList = cs.toList.take o ++ vs ++ cs.toList.drop (o + vs.length) := rfl
theorem splice_ins (hk : ∀ x, (enc x).length = k) {cur : Array Value} {xs : List α} {n i : Nat} (e : α) (hn : n = xs.length) (hi : i ≤ n) (hs : (n + 1) * k ≤ cur.size) (ht : cur.toList.take (n * k) = flatE enc xs) :
    (splice (splice cur ((i + 1) * k) (flatE enc (xs.drop i))) (i * k) (enc e)).toList.take ((n + 1) * k) = flatE enc (xs.take i ++ e :: xs.drop i) ∧ (splice (splice cur ((i + 1) * k) (flatE enc (xs.drop i))) (i * k) (enc e)).size = cur.size := by
  subst hn
  have hle : i * k ≤ xs.length * k := Nat.mul_le_mul_right _ hi
  have hsx : (xs.length + 1) * k = xs.length * k + k := Nat.succ_mul _ _
  have hix : (i + 1) * k = i * k + k := Nat.succ_mul _ _
  have hd : (flatE enc (xs.drop i)).length = xs.length * k - i * k := by rw [flatE_length hk, List.length_drop, Nat.sub_mul]
  have h1 : (splice cur ((i + 1) * k) (flatE enc (xs.drop i))).size = cur.size := splice_size (by rw [hd]; omega)
  have h2 : (splice (splice cur ((i + 1) * k) (flatE enc (xs.drop i))) (i * k) (enc e)).size = cur.size := by rw [splice_size (by rw [h1, hk]; omega), h1]
  refine ⟨?_, h2⟩
  have hcl : cur.toList.length = cur.size := Array.length_toList
  have ht1 : cur.toList.take (i * k) = flatE enc (xs.take i) := by
    rw [flatE_take hk, ← ht, List.take_take, Nat.min_eq_left hle]
  have e1 : (splice cur ((i + 1) * k) (flatE enc (xs.drop i))).toList = cur.toList.take (i * k + k) ++ flatE enc (xs.drop i) ++ cur.toList.drop (xs.length * k + k) := by
    unfold splice
    rw [hix, hd, show i * k + k + (xs.length * k - i * k) = xs.length * k + k by omega]
  have hl1 : (cur.toList.take (i * k + k)).length = i * k + k := by rw [List.length_take, hcl]; omega
  have e2 : (cur.toList.take (i * k + k) ++ flatE enc (xs.drop i) ++ cur.toList.drop (xs.length * k + k)).take (i * k) = flatE enc (xs.take i) := by
    rw [List.append_assoc, List.take_append_of_le_length (by rw [hl1]; omega), List.take_take, Nat.min_eq_left (by omega), ht1]
  have e3 : (cur.toList.take (i * k + k) ++ flatE enc (xs.drop i) ++ cur.toList.drop (xs.length * k + k)).drop (i * k + k) = flatE enc (xs.drop i) ++ cur.toList.drop (xs.length * k + k) := by
    rw [List.append_assoc, List.drop_left' hl1]
  rw [splice_toList, e1, hk, e2, e3]
  rw [flatE_append, flatE_cons]
  simp only [List.append_assoc]
  rw [← List.append_assoc (enc e), ← List.append_assoc (flatE enc (xs.take i))]
  refine List.take_left' ?_
  rw [List.length_append, List.length_append, flatE_length hk, hk, hd, List.length_take, hsx]
  rw [Nat.min_eq_left hi]
  omega
theorem splice_ins2 (hk : ∀ x, (enc x).length = k) {cur : Array Value} {xs : List α} {n i : Nat} (e : α) (hn : n = xs.length) (hi : i ≤ n) (hs : (n + 1) * k ≤ cur.size) (ht : cur.toList.take (i * k) = flatE enc (xs.take i)) :
    (splice (splice cur (i * k) (enc e)) ((i + 1) * k) (flatE enc (xs.drop i))).toList.take ((n + 1) * k) = flatE enc (xs.take i ++ e :: xs.drop i) ∧ (splice (splice cur (i * k) (enc e)) ((i + 1) * k) (flatE enc (xs.drop i))).size = cur.size := by
  subst hn
  have hle : i * k ≤ xs.length * k := Nat.mul_le_mul_right _ hi
  have hsx : (xs.length + 1) * k = xs.length * k + k := Nat.succ_mul _ _
  have hix : (i + 1) * k = i * k + k := Nat.succ_mul _ _
  have hd : (flatE enc (xs.drop i)).length = xs.length * k - i * k := by rw [flatE_length hk, List.length_drop, Nat.sub_mul]
  have h1 : (splice cur (i * k) (enc e)).size = cur.size := splice_size (by rw [hk]; omega)
  refine ⟨?_, by rw [splice_size (by rw [h1, hd]; omega), h1]⟩
  have hcl : cur.toList.length = cur.size := Array.length_toList
  have hl0 : (cur.toList.take (i * k)).length = i * k := by rw [List.length_take, hcl]; omega
  have e2 : (splice cur (i * k) (enc e)).toList.take (i * k + k) = flatE enc (xs.take i) ++ enc e := by
    rw [splice_toList, ht]
    refine List.take_left' ?_
    rw [List.length_append, ← ht, hl0, hk]
  rw [splice_toList, hix, e2, flatE_append, flatE_cons]
  simp only [List.append_assoc]
  rw [← List.append_assoc (enc e), ← List.append_assoc (flatE enc (xs.take i))]
  refine List.take_left' ?_
  rw [List.length_append, List.length_append, ← ht, hl0, hk, hd, hsx]
  omega
theorem flat_src {cs : Array Value} {xs : List α} {n i : Nat} (hk : ∀ x, (enc x).length = k) (ht : cs.toList.take (n * k) = flatE enc xs) (q : Nat) (v : Value) (h : (flatE enc (xs.drop i))[q]? = some v) : cs[i * k + q]? = some v := by
  have e : flatE enc xs = flatE enc (xs.take i) ++ flatE enc (xs.drop i) := by rw [← flatE_append, List.take_append_drop]
  have h0 : i ≤ xs.length := by
    rcases Nat.lt_or_ge xs.length i with h2 | h2
    · rw [List.drop_eq_nil_of_le (by omega)] at h; simp [flatE] at h
    · exact h2
  have hl : (flatE enc (xs.take i)).length = i * k := by rw [flatE_length hk, List.length_take, Nat.min_eq_left h0]
  have h1 : (flatE enc xs)[i * k + q]? = some v := by
    rw [e, List.getElem?_append_right (by omega), hl, Nat.add_sub_cancel_left]; exact h
  rw [← ht] at h1
  have h2 := (List.getElem?_eq_some_iff.1 h1).1
  rw [List.getElem?_take, if_pos (by rw [List.length_take] at h2; omega)] at h1
  simpa using h1
theorem flat_ones {xs : List α} (hone : ∀ x, ∀ u ∈ enc x, u.oneCell' = true) : ∀ v ∈ flatE enc xs, v.oneCell' = true := fun v hv => by
  obtain ⟨y, _, hy⟩ := List.mem_flatMap.1 hv
  exact hone y v hy
end
section
variable {P : Program} {ops : Array Oper} {rest : List Oper} {a : Act} {Q : Exit → Act → World → Prop} {d : Option Tmp} {tt : TypeId} {p : String} {af : Array Edge} {gd : Option (Nat × Bool)} {x y : Operand}
variable {G : Nat → Prop} {w0 w w' : World} {L : List Asn}
theorem wps_slany {T E : TypeId} {k n c l u : Nat} {ad : Option Addr} {lo hi' : Option Operand} (hT : P.underlying T = some (.slice E)) (hE : ∀ w, (sizeOf E).run P w = .ok k w) (hx : a.eval x = .slice ad n c)
    (hlo : (lo.map a.eval = none ∧ l = 0) ∨ lo.map a.eval = some (.int .i64 l)) (hhi : (hi'.map a.eval = none ∧ u = n) ∨ hi'.map a.eval = some (.int .i64 u)) (h1 : l ≤ u) (h2 : u ≤ c)
    (next : ∀ ad', wpList P ops Q rest (a.put d (.slice ad' (u - l) (c - l))) w) (hgd : gOk gd ops a = true := by with_unfolding_all rfl) :
    wpList P ops Q ({ dst := d, op := .slice T x lo hi' none, type := tt, pos := p, after := af, guard := gd } :: rest) a w :=
  wpList_ok hgd fun K hK => by
    have hr := run_sliceAt_sl (P := P) (w := w) hT (hE w) ad n c l u _ _ hlo hhi h1 h2
    unfold Oper.wp execOp
    simp only [Option.map_none, hx, hr, Sem.run_bind, Sem.run_pure, Result.andThen_ok]
    exact hK _ _ (next _)
theorem St.blk_ne {b b2 : Nat} {cs cs2 : Array Value} {t t2 : TypeId} {sh : Bool} (S : St G w0 w L) (i j : Nat) (hi : L[i]? = some (Blk false b cs t)) (hj : L[j]? = some (Blk sh b2 cs2 t2)) (hij : i ≠ j) : b ≠ b2 := by
  obtain ⟨Fs, hf, hd⟩ := S.ex
  have h1 := (hf i _ hi).1
  have h2 := (hf j _ hj).1
  have g1 : Fs i b := (h1.2 b).2 rfl
  rintro rfl
  have g2 : Fs j b := (h2.2 b).2 rfl
  rcases Nat.lt_or_gt_of_ne hij with h | h
  · rcases hd i j _ _ h hi hj with ⟨e, _⟩ | e
    · cases e
    · exact e b g1 g2
  · rcases hd j i _ _ h hj hi with ⟨_, e⟩ | e
    · cases e
    · exact e b g2 g1
theorem run_over {fo : FuncId} {fn : Func} {T E tR : TypeId} {k b b2 o lb cb : Nat} {cs cs2 : Array Value} {t t2 : TypeId} (hf : P.funcs[fo]? = some fn) (hname : (fn.name == "runtime.NumGoroutine") = false) (hb : fn.body.isNone = true) (hn : Extern.findNext fn = none)
    (he : Extern.find fn = some (Extern.SlicesOverlaps.overlaps #[T, T] #[tR])) (hT : P.underlying T = some (.slice E)) (hE : ∀ w, (sizeOf E).run P w = .ok k w) (h1 : w.heap[b]? = some (.cells cs t (0, 0))) (h2 : w.heap[b2]? = some (.cells cs2 t2 (0, 0))) (hne : b2 ≠ b) (h0 : cs.size ≠ 0) (n c : Nat) :
    (callFunc fo #[.slice (some ⟨b2, 0, none⟩) n c, .slice (some ⟨b, o, none⟩) lb cb]).run P w = .ok (.value (.bool false)) w := by
  rw [run_callFunc_extern hf hname hb hn he]
  rw [Lib.run_overlaps_apart w T tR E hT k hE ⟨b2, 0, none⟩ ⟨b, o, none⟩ n c lb cb hne t2 t cs2.size cs.size (by simp [World.shape?, h2]) (by simp [World.shape?, h1]) h0 (by simp [World.frozen?, h2]) (by simp [World.frozen?, h2])]
  rfl
end
end Go.Proofs.YtmpfbkfemlhekaaGreatDoor.Mem
/- Stable sorting, plain: events with their places, sorted by keys, and by places where keys are the same. -/
namespace Go.Proofs.YtmpfbkfemlhekaaGreatDoor

abbrev TE := Event × Nat
def tless (x y : TE) : Bool := x.1.key.lt y.1.key
def slt (x y : TE) : Prop := tless x y = true ∨ (tless y x = false ∧ x.2 < y.2)
abbrev Srt (l : List TE) : Prop := l.Pairwise slt
theorem slt_trans {x y z : TE} (h : slt x y) (k : slt y z) : slt x z := by
  simp only [slt, tless, Bool.eq_false_iff, ne_eq, Key.lt_iff] at *; omega
theorem slt_irrefl (x : TE) : ¬ slt x x := by
  simp only [slt, tless, Bool.eq_false_iff, ne_eq, Key.lt_iff]; omega
theorem slt_asymm {x y : TE} (h : slt x y) : ¬ slt y x := fun k => slt_irrefl _ (slt_trans h k)
theorem slt_yes {x y : TE} (h : tless x y = true) : slt x y := .inl h
theorem slt_no {x y : TE} (h : tless y x = false) (k : x.2 < y.2) : slt x y := .inr ⟨h, k⟩
theorem tless_down {x y z : TE} (h : slt x y) (k : tless y z = true) : tless x z = true := by
  simp only [slt, tless, Bool.eq_false_iff, ne_eq, Key.lt_iff] at *; omega
theorem tless_up {x y z : TE} (h : slt x y) (k : tless z x = true) : tless z y = true := by
  simp only [slt, tless, Bool.eq_false_iff, ne_eq, Key.lt_iff] at *; omega
theorem srt_uniq : ∀ {l m : List TE}, Srt l → Srt m → l.Perm m → l = m
  | [], m, _, _, hp => by simpa using hp
  | a :: l, [], _, _, hp => by simpa using hp.length_eq
  | a :: l, b :: m, hl, hm, hp => by
    have hl' := List.pairwise_cons.1 hl
    have hm' := List.pairwise_cons.1 hm
    have hab : a = b := by
      have h1 : a ∈ b :: m := hp.mem_iff.1 (by simp)
      have h2 : b ∈ a :: l := hp.mem_iff.2 (by simp)
      rcases List.mem_cons.1 h1 with h | h
      · exact h
      · rcases List.mem_cons.1 h2 with h3 | h3
        · exact h3.symm
        · exact absurd (hl'.1 b h3) (slt_asymm (hm'.1 a h))
    subst hab
    rw [srt_uniq hl'.2 hm'.2 (List.Perm.cons_inv hp)]

structure BS (f : Nat → Bool) (lo hi i j : Nat) : Prop where
  le1 : lo ≤ i
  le2 : i ≤ j
  le3 : j ≤ hi
  yes : ∀ k, lo ≤ k → k < i → f k = true
  no : ∀ k, j ≤ k → k < hi → f k = false
def Falls (f : Nat → Bool) (lo hi : Nat) : Prop := ∀ k k', lo ≤ k → k ≤ k' → k' < hi → f k' = true → f k = true
theorem BS.start {f : Nat → Bool} {lo hi : Nat} (h : lo ≤ hi) : BS f lo hi lo hi := ⟨Nat.le_refl _, h, Nat.le_refl _, fun k h1 h2 => by omega, fun k h1 h2 => by omega⟩
theorem BS.up {f : Nat → Bool} {lo hi i j : Nat} (h : BS f lo hi i j) (hf : Falls f lo hi) {k : Nat} (h1 : i ≤ k) (h2 : k < j) (hk : f k = true) : BS f lo hi (k + 1) j :=
  ⟨by have := h.le1; omega, by omega, h.le3, fun q hq hq' => hf q k hq (by omega) (by have := h.le3; omega) hk, h.no⟩
theorem BS.down {f : Nat → Bool} {lo hi i j : Nat} (h : BS f lo hi i j) (hf : Falls f lo hi) {k : Nat} (h1 : i ≤ k) (h2 : k < j) (hk : f k = false) : BS f lo hi i k :=
  ⟨h.le1, h1, by have := h.le3; omega, h.yes, fun q hq hq' => by
    cases hv : f q with
    | false => rfl
    | true => rw [hf k q (by have := h.le1; omega) hq hq' hv] at hk; cases hk⟩

def Merged (p l r q ys : List TE) : Prop := ∃ s : List TE, s.Perm (l ++ r) ∧ Srt s ∧ ys = p ++ s ++ q
theorem srt_get {l : List TE} (h : Srt l) {i j : Nat} {x y : TE} (hij : i < j) (hx : l[i]? = some x) (hy : l[j]? = some y) : slt x y := by
  obtain ⟨h1, rfl⟩ := List.getElem?_eq_some_iff.1 hx
  obtain ⟨h2, rfl⟩ := List.getElem?_eq_some_iff.1 hy
  exact List.pairwise_iff_getElem.1 h i j h1 h2 hij
theorem tless_run {l : List TE} (h : Srt l) {i j : Nat} {x y z : TE} (hij : i ≤ j) (hx : l[i]? = some x) (hy : l[j]? = some y) (hz : tless y z = true) : tless x z = true := by
  by_cases e : i = j
  · subst e; rw [hx] at hy; cases hy; exact hz
  · exact tless_down (srt_get h (by omega) hx hy) hz
theorem tless_run' {l : List TE} (h : Srt l) {i j : Nat} {x y z : TE} (hij : i ≤ j) (hx : l[i]? = some x) (hy : l[j]? = some y) (hz : tless z x = true) : tless z y = true := by
  by_cases e : i = j
  · subst e; rw [hx] at hy; cases hy; exact hz
  · exact tless_up (srt_get h (by omega) hx hy) hz
def att (xs : List TE) (k : Nat) : TE := xs[k]?.getD (⟨⟨0, 0, 0, 0⟩, 0, 0, 0⟩, 0)
theorem some_att {xs : List TE} {k : Nat} (h : k < xs.length) : xs[k]? = some (att xs k) := by simp [att, h]
section
variable {p l r q xs : List TE} {a m b : Nat}
structure Parts (p l r q xs : List TE) (a m b : Nat) : Prop where
  eq : xs = p ++ l ++ r ++ q
  ha : a = p.length
  hm : m = a + l.length
  hb : b = m + r.length
theorem Parts.left (h : Parts p l r q xs a m b) {k : Nat} (hk : k < l.length) : xs[a + k]? = l[k]? := by
  obtain ⟨rfl, rfl, rfl, rfl⟩ := h
  rw [List.append_assoc, List.append_assoc, List.getElem?_append_right (by omega), List.getElem?_append_left (by omega)]
  congr 1; omega
theorem Parts.right (h : Parts p l r q xs a m b) {k : Nat} (hk : k < r.length) : xs[m + k]? = r[k]? := by
  obtain ⟨rfl, rfl, rfl, rfl⟩ := h
  rw [List.append_assoc (p ++ l), List.getElem?_append_right (by simp), List.getElem?_append_left (by simp; omega)]
  congr 1; simp
theorem Parts.len (h : Parts p l r q xs a m b) : b + q.length = xs.length := by obtain ⟨rfl, rfl, rfl, rfl⟩ := h; simp; omega
theorem Parts.l_at (h : Parts p l r q xs a m b) {k : Nat} (h1 : a ≤ k) (h2 : k < m) : l[k - a]? = some (att xs k) := by
  have hm := h.hm
  rw [← h.left (by omega), show a + (k - a) = k by omega]
  exact some_att (by have := h.len; have := h.hb; omega)
theorem Parts.r_at (h : Parts p l r q xs a m b) {k : Nat} (h1 : m ≤ k) (h2 : k < b) : r[k - m]? = some (att xs k) := by
  have hb := h.hb
  rw [← h.right (by omega), show m + (k - m) = k by omega]
  exact some_att (by have := h.len; omega)
theorem falls1 (h : Parts p l r q xs a m b) (hr : Srt r) (z : TE) : Falls (fun k => tless (att xs k) z) m b := fun k k' h1 h2 h3 hv =>
  tless_run hr (i := k - m) (j := k' - m) (by omega) (h.r_at h1 (by omega)) (h.r_at (by omega) h3) hv
theorem falls2 (h : Parts p l r q xs a m b) (hl : Srt l) (z : TE) : Falls (fun k => !tless z (att xs k)) a m := fun k k' h1 h2 h3 hv => by
  simp only [Bool.not_eq_true'] at *
  cases hk : tless z (att xs k) with
  | false => rfl
  | true => rw [tless_run' hl (i := k - a) (j := k' - a) (by omega) (h.l_at h1 (by omega)) (h.l_at (by omega) h3) hk] at hv; cases hv
theorem falls3 (h : Parts p l r q xs a m b) (hl : Srt l) (hr : Srt r) {s e n : Nat} (hs : a ≤ s) (he : e ≤ m) (h1 : ∀ c, s ≤ c → c < e → m ≤ n - c ∧ n - c < b ∧ c ≤ n) : Falls (fun k => !tless (att xs (n - k)) (att xs k)) s e := fun k k' g1 g2 g3 hv => by
  simp only [Bool.not_eq_true'] at *
  cases hk : tless (att xs (n - k)) (att xs k) with
  | false => rfl
  | true =>
    have c1 := h1 k g1 (by omega)
    have c2 := h1 k' (by omega) g3
    have e1 := tless_run' hl (i := k - a) (j := k' - a) (by omega) (h.l_at (by omega) (by omega)) (h.l_at (by omega) (by omega)) hk
    have e2 := tless_run hr (i := n - k' - m) (j := n - k - m) (by omega) (h.r_at c2.1 c2.2.1) (h.r_at c1.1 c1.2.1) e1
    rw [e2] at hv; cases hv
theorem merge1 {x : TE} {i : Nat} (h : Parts p [x] r q xs a m b) (hr : Srt r) (ht : ∀ y ∈ r, x.2 < y.2) (hB : BS (fun k => tless (att xs k) x) m b i i) : Merged p [x] r q (p ++ r.take (i - m) ++ [x] ++ r.drop (i - m) ++ q) := by
  refine ⟨r.take (i - m) ++ [x] ++ r.drop (i - m), ?_, ?_, by simp⟩
  · have e : r.take (i - m) ++ r.drop (i - m) = r := List.take_append_drop _ _
    rw [List.append_assoc]
    refine (List.perm_append_comm_assoc _ _ _).trans ?_
    rw [e]
  · have y1 : ∀ z ∈ r.take (i - m), slt z x := fun z hz => by
      obtain ⟨k, hk, rfl⟩ := List.mem_take_iff_getElem.1 hz
      have := hB.yes (m + k) (by omega) (by omega)
      have hb := h.hb
      have g := h.r_at (k := m + k) (by omega) (by omega)
      rw [show m + k - m = k by omega, List.getElem?_eq_getElem (by omega)] at g
      rw [Option.some.inj g]; exact slt_yes this
    have y2 : ∀ z ∈ r.drop (i - m), slt x z := fun z hz => by
      obtain ⟨k, hk, rfl⟩ := List.mem_drop_iff_getElem.1 hz
      have hb := h.hb
      have := hB.no (i + k) (by omega) (by have := hB.le1; omega)
      have g := h.r_at (k := i + k) (by have := hB.le1; omega) (by have := hB.le1; omega)
      rw [show i + k - m = (i - m) + k by have := hB.le1; omega, List.getElem?_eq_getElem (by omega)] at g
      refine slt_no ?_ (ht _ (List.getElem_mem _))
      rw [Option.some.inj g]; exact this
    rw [List.append_assoc]
    refine List.pairwise_append.2 ⟨hr.sublist (List.take_sublist _ _), List.pairwise_cons.2 ⟨y2, hr.sublist (List.drop_sublist _ _)⟩, fun u hu v hv => ?_⟩
    rcases List.mem_cons.1 hv with rfl | hv
    · exact y1 u hu
    · exact slt_trans (y1 u hu) (y2 v hv)
theorem merge2 {y : TE} {i : Nat} (h : Parts p l [y] q xs a m b) (hl : Srt l) (ht : ∀ x ∈ l, x.2 < y.2) (hB : BS (fun k => !tless y (att xs k)) a m i i) : Merged p l [y] q (p ++ l.take (i - a) ++ [y] ++ l.drop (i - a) ++ q) := by
  refine ⟨l.take (i - a) ++ [y] ++ l.drop (i - a), ?_, ?_, by simp⟩
  · rw [List.append_assoc]
    refine (List.perm_append_comm_assoc _ _ _).trans ?_
    rw [List.take_append_drop]
    exact List.perm_append_comm
  · have hm := h.hm
    have y1 : ∀ z ∈ l.take (i - a), slt z y := fun z hz => by
      obtain ⟨k, hk, rfl⟩ := List.mem_take_iff_getElem.1 hz
      have := hB.yes (a + k) (by omega) (by omega)
      have g := h.l_at (k := a + k) (by omega) (by omega)
      rw [show a + k - a = k by omega, List.getElem?_eq_getElem (by omega)] at g
      refine slt_no ?_ (ht _ (List.getElem_mem _))
      rw [Option.some.inj g]; simpa using this
    have y2 : ∀ z ∈ l.drop (i - a), slt y z := fun z hz => by
      obtain ⟨k, hk, rfl⟩ := List.mem_drop_iff_getElem.1 hz
      have := hB.no (i + k) (by omega) (by have := hB.le1; omega)
      have g := h.l_at (k := i + k) (by have := hB.le1; omega) (by have := hB.le1; omega)
      rw [show i + k - a = (i - a) + k by have := hB.le1; omega, List.getElem?_eq_getElem (by omega)] at g
      rw [Option.some.inj g]; exact slt_yes (by simpa using this)
    rw [List.append_assoc]
    refine List.pairwise_append.2 ⟨hl.sublist (List.take_sublist _ _), List.pairwise_cons.2 ⟨y2, hl.sublist (List.drop_sublist _ _)⟩, fun u hu v hv => ?_⟩
    rcases List.mem_cons.1 hv with rfl | hv
    · exact y1 u hu
    · exact slt_trans (y1 u hu) (y2 v hv)
structure Cut (l r l1 l2 r1 r2 : List TE) : Prop where
  el : l = l1 ++ l2
  er : r = r1 ++ r2
  h1 : ∀ x ∈ l1, ∀ y ∈ r2, slt x y
  h2 : ∀ y ∈ r1, ∀ x ∈ l2, slt y x
theorem cut3 (h : Parts p l r q xs a m b) (hl : Srt l) (hr : Srt r) (ht : ∀ x ∈ l, ∀ y ∈ r, x.2 < y.2) {s e c mid : Nat} (hmid : mid = (a + b) / 2) (hse : (mid < m ∧ s + b = mid + m ∧ e = mid) ∨ (m ≤ mid ∧ s = a ∧ e = m))
    (hB : BS (fun k => !tless (att xs (mid + m - 1 - k)) (att xs k)) s e c c) : Cut l r (l.take (c - a)) (l.drop (c - a)) (r.take (mid - c)) (r.drop (mid - c)) := by
  have hm := h.hm
  have hb := h.hb
  have b1 := hB.le1
  have b2 := hB.le3
  refine ⟨(List.take_append_drop _ _).symm, (List.take_append_drop _ _).symm, fun x hx y hy => ?_, fun y hy x hx => ?_⟩
  · obtain ⟨k, hk, rfl⟩ := List.mem_take_iff_getElem.1 hx
    obtain ⟨k', hk', rfl⟩ := List.mem_drop_iff_getElem.1 hy
    by_cases hcs : c = s
    · omega
    · have hv := hB.no
      have := hB.yes (c - 1) (by omega) (by omega)
      simp only [Bool.not_eq_true'] at this
      have gl := h.l_at (k := c - 1) (by omega) (by omega)
      have gr := h.r_at (k := mid + m - 1 - (c - 1)) (by omega) (by omega)
      have e1 : tless (att xs (mid + m - 1 - (c - 1))) l[k] = false := by
        cases hz : tless (att xs (mid + m - 1 - (c - 1))) l[k] with
        | false => rfl
        | true => rw [tless_run' hl (i := k) (j := c - 1 - a) (by omega) (List.getElem?_eq_getElem (by omega)) gl hz] at this; cases this
      refine slt_no ?_ (ht _ (List.getElem_mem _) _ (List.getElem_mem _))
      cases hz : tless r[mid - c + k'] l[k] with
      | false => rfl
      | true => rw [tless_run hr (i := mid + m - 1 - (c - 1) - m) (j := mid - c + k') (by omega) gr (List.getElem?_eq_getElem (by omega)) hz] at e1; cases e1
  · obtain ⟨k, hk, rfl⟩ := List.mem_take_iff_getElem.1 hy
    obtain ⟨k', hk', rfl⟩ := List.mem_drop_iff_getElem.1 hx
    by_cases hce : c = e
    · omega
    · have := hB.no c (by omega) (by omega)
      simp only [Bool.not_eq_false'] at this
      have gl := h.l_at (k := c) (by omega) (by omega)
      have gr := h.r_at (k := mid + m - 1 - c) (by omega) (by omega)
      refine slt_yes ?_
      have e1 := tless_run hr (i := k) (j := mid + m - 1 - c - m) (by omega) (List.getElem?_eq_getElem (by omega)) gr this
      exact tless_run' hl (i := c - a) (j := c - a + k') (by omega) gl (List.getElem?_eq_getElem (by omega)) e1
end
theorem merged_cut {p l r q l1 l2 r1 r2 s1 s2 : List TE} (hl : Srt l) (hr : Srt r) (h : Cut l r l1 l2 r1 r2) (h1 : s1.Perm (l1 ++ r1)) (g1 : Srt s1) (h2 : s2.Perm (l2 ++ r2)) (g2 : Srt s2) : Merged p l r q (p ++ s1 ++ s2 ++ q) := by
  obtain ⟨rfl, rfl, k1, k2⟩ := h
  have hl' := List.pairwise_append.1 hl
  have hr' := List.pairwise_append.1 hr
  refine ⟨s1 ++ s2, ?_, List.pairwise_append.2 ⟨g1, g2, fun x hx y hy => ?_⟩, by simp⟩
  · refine (h1.append h2).trans ?_
    rw [List.append_assoc, List.append_assoc]
    refine List.Perm.append_left _ ?_
    rw [← List.append_assoc, ← List.append_assoc]
    exact (List.perm_append_comm).append_right _
  · rcases List.mem_append.1 (h1.mem_iff.1 hx) with hx | hx <;> rcases List.mem_append.1 (h2.mem_iff.1 hy) with hy | hy
    · exact hl'.2.2 x hx y hy
    · exact k1 x hx y hy
    · exact k2 x hx y hy
    · exact hr'.2.2 x hx y hy
end Go.Proofs.YtmpfbkfemlhekaaGreatDoor
/- One thing of a state is lent to a call, which hands another one back in its place. Over any program. -/
namespace Go.Proofs.YtmpfbkfemlhekaaGreatDoor.Mem
open Go Go.RowKit

section
variable {G : Nat → Prop} {w0 w w' : World} {L : List Asn} {A A' : Asn} {i : Nat}
theorem St.stepAt (S : St G w0 w L) (hi : L[i]? = some A) (ho : A.sh = false) : ∃ F, A.at_ w F ∧ ∀ w' A', (∃ F', Keep F w w' ∧ A'.at_ w' F' ∧ ∀ b, F' b → F b ∨ w.heap.size ≤ b) → St G w0 w' (L.set i A') := by
  obtain ⟨Fs, hf, hd⟩ := S.ex
  refine ⟨Fs i, (hf i A hi).1, fun w' A' ⟨F', hK, hA', hF'⟩ => ?_⟩
  have hil := (List.getElem?_eq_some_iff.1 hi).1
  have hnew : ∀ b, F' b → Fs i b ∨ w.heap.size ≤ b := hF'
  have apart : ∀ j B, j ≠ i → L[j]? = some B → ∀ b, Fs j b → ¬ Fs i b := by
    intro j B hj hB b hb hb'
    rcases Nat.lt_or_gt_of_ne hj with h | h
    · rcases hd j i B A h hB hi with ⟨_, e⟩ | e
      · rw [ho] at e; cases e
      · exact e b hb hb'
    · rcases hd i j A B h hi hB with ⟨e, _⟩ | e
      · rw [ho] at e; cases e
      · exact e b hb' hb
  refine ⟨S.keep.trans hK (fun x hx hn => ⟨hn, fun hb => ?_⟩), fun j => if j = i then F' else Fs j, fun j B hj => ?_, fun j k B C hjk hj hk => ?_⟩
  · rcases (hf i A hi).2 ho x hb with h | h
    · exact hn h
    · omega
  · by_cases e : j = i
    · subst e
      rw [List.getElem?_set_self hil] at hj
      cases hj
      simp only [if_true]
      refine ⟨hA', fun _ b hb => ?_⟩
      rcases hnew b hb with h | h
      · exact (hf j A hi).2 ho b h
      · exact .inr (Nat.le_trans S.size h)
    · rw [List.getElem?_set_ne (Ne.symm e)] at hj
      simp only [if_neg e]
      exact ⟨B.loc (hf j B hj).1 (fun b hb => hK.block b (B.lt (hf j B hj).1 b hb) (apart j B e hj b hb)), (hf j B hj).2⟩
  · by_cases e : j = i
    · subst e
      have e' : k ≠ j := by omega
      rw [List.getElem?_set_ne (Ne.symm e')] at hk
      simp only [if_true, if_neg e']
      refine .inr fun b hb hb' => ?_
      rcases hnew b hb with h | h
      · exact apart k C e' hk b hb' h
      · have := C.lt (hf k C hk).1 b hb'; omega
    · rw [List.getElem?_set_ne (Ne.symm e)] at hj
      by_cases e' : k = i
      · subst e'
        simp only [if_true, if_neg e]
        refine .inr fun b hb hb' => ?_
        rcases hnew b hb' with h | h
        · exact apart j B e hj b hb h
        · have := B.lt (hf j B hj).1 b hb; omega
      · rw [List.getElem?_set_ne (Ne.symm e')] at hk
        simp only [if_neg e, if_neg e']
        exact hd j k B C hjk hj hk
theorem St.lend1 (S : St G w0 w L) (i : Nat) (hi : L[i]? = some A) (ho : A.sh = false) : ∃ F, A.at_ w F ∧ ∀ w' A', A'.sh = false → St F w w' [A'] → St G w0 w' (L.set i A') := by
  obtain ⟨F, h1, h2⟩ := S.stepAt hi ho
  refine ⟨F, h1, fun w' A' ho' T => ?_⟩
  obtain ⟨Gs, hg, _⟩ := T.ex
  obtain ⟨g1, g2⟩ := hg 0 A' rfl
  exact h2 w' A' ⟨Gs 0, T.keep, g1, g2 ho'⟩
end
end Go.Proofs.YtmpfbkfemlhekaaGreatDoor.Mem
/- The walks of slices.SortStableFunc's parts: swapRange and rotate. -/
namespace Go.Proofs.YtmpfbkfemlhekaaGreatDoor
open Go Go.RowKit Reg Mem

def tcells (x : TE) : List Value := x.1.cells
theorem tlen : ∀ x : TE, (tcells x).length = 7 := fun _ => rfl
theorem get_mid {α : Type} {p q : List α} {x : α} {k : Nat} (h : k = p.length) : (p ++ x :: q)[k]? = some x := by subst h; simp
theorem set_mid {α : Type} {p q : List α} {x y : α} {k : Nat} (h : k = p.length) : (p ++ x :: q).set k y = p ++ y :: q := by subst h; simp
def SwRel (F : Nat → Prop) (R c N : Nat) (p u md v q : List TE) (w : World) (i : Value) (wr : World) : Prop :=
  ∃ (k : Nat), k ≤ u.length ∧ i = .int .i64 k ∧ St F w wr [Own 48 tcells 7 (.slice (some ⟨R, 0, none⟩) N c) (p ++ v.take k ++ (u.drop k ++ md ++ u.take k) ++ (v.drop k ++ q))]
set_option maxRecDepth 100000 in
set_option maxHeartbeats 4000000 in
theorem swapRange_calls (R c N a b n : Nat) (p u md v q : List TE) (cv : Value) (w : World) (F : Nat → Prop) (h : (Own 48 tcells 7 (.slice (some ⟨R, 0, none⟩) N c) (p ++ u ++ md ++ v ++ q)).at_ w F)
    (hN : N = (p ++ u ++ md ++ v ++ q).length) (ha : a = p.length) (hu : u.length = n) (hv : v.length = n) (hb : b = p.length + u.length + md.length) (hn : N ≤ 65536) :
    Calls Tryz.prog 260 #[.slice (some ⟨R, 0, none⟩) N c, .int .i64 a, .int .i64 b, .int .i64 n, cv] w fun e w' => e = .returned (.tuple #[]) ∧ St F w w' [Own 48 tcells 7 (.slice (some ⟨R, 0, none⟩) N c) (p ++ v ++ md ++ u ++ q)] := by
  have S := St.one w h
  clear h
  have hN' : N = p.length + n + md.length + n + q.length := by rw [hN]; simp; omega
  have Hu := Lib.hid hu
  have Hv := Lib.hid hv
  have Ha := Lib.hid ha
  have Hb := Lib.hid hb
  have g1 : a + n ≤ b := by omega
  have g2 : b + n ≤ N := by omega
  clear hu hv ha hb hN hN'
  go_enter Tryz.func260, Tryz.ntmps260
  go_wp2_with first | ((with_reducible refine tot_done ?ht ?_); (case ht => kernel_rfl)) | ((with_reducible apply wps_text S); (case hm => kernel_rfl); (case hB => decide +kernel); clear S; intro wz S) | ((with_reducible apply wps_loada (T := 48) (k := 7) S 0); (case hx | hi => rfl); (case hk => exact Nat.le_of_ble_eq_true rfl); (case hT => decide +kernel)) | ((with_reducible apply wps_loada (T := 48) (k := 7) S 1); (case hx | hi => rfl); (case hk => exact Nat.le_of_ble_eq_true rfl); (case hT => decide +kernel)) | ((with_reducible apply wps_loada (T := 48) (k := 7) S 2); (case hx | hi => rfl); (case hk => exact Nat.le_of_ble_eq_true rfl); (case hT => decide +kernel)) | ((with_reducible apply wps_loada (T := 48) (k := 7) S 3); (case hx | hi => rfl); (case hk => exact Nat.le_of_ble_eq_true rfl); (case hT => decide +kernel))
  go_loopw [10] (fun i wr => SwRel F R c N p u md v q w i wr) (fun i _ => n - (intOf i).toNat)
  case atStart => exact ⟨0, Nat.zero_le _, rfl, by simpa using S⟩
  case round =>
    clear S
    obtain ⟨k, hk, rfl, S⟩ := hrel
    have Hk := Lib.hid hk
    clear hk
    by_cases hlt : k < n
    · obtain ⟨x, hx⟩ : ∃ x, u[k]? = some x := ⟨_, List.getElem?_eq_getElem (by have := Hu.out; omega)⟩
      obtain ⟨y, hy⟩ : ∃ y, v[k]? = some y := ⟨_, List.getElem?_eq_getElem (by have := Hv.out; omega)⟩
      have hud : u.drop k = x :: u.drop (k + 1) := by obtain ⟨h1, rfl⟩ := List.getElem?_eq_some_iff.1 hx; exact List.drop_eq_getElem_cons h1
      have hvd : v.drop k = y :: v.drop (k + 1) := by obtain ⟨h1, rfl⟩ := List.getElem?_eq_some_iff.1 hy; exact List.drop_eq_getElem_cons h1
      have hut : u.take (k + 1) = u.take k ++ [x] := by rw [List.take_add_one, hx]; rfl
      have hvt : v.take (k + 1) = v.take k ++ [y] := by rw [List.take_add_one, hy]; rfl
      have l1 : (u.take k).length = k := by simp; have := Hu.out; omega
      have l2 : (v.take k).length = k := by simp; have := Hv.out; omega
      have l3 : (u.drop (k + 1)).length = n - (k + 1) := by simp; have := Hu.out; omega
      have HX : Hid ((p ++ v.take k ++ (u.drop k ++ md ++ u.take k) ++ (v.drop k ++ q))[a + k]? = some x) := by
        rw [hud]; have := get_mid (p := p ++ v.take k) (q := u.drop (k + 1) ++ md ++ u.take k ++ (v.drop k ++ q)) (x := x) (k := a + k) (by simp [l2]; exact Ha.out)
        simp only [List.append_assoc, List.cons_append] at *; exact this
      have HY : Hid ((p ++ v.take k ++ (u.drop k ++ md ++ u.take k) ++ (v.drop k ++ q))[b + k]? = some y) := by
        rw [hvd]
        have e : b + k = (p ++ v.take k ++ (u.drop k ++ md ++ u.take k)).length := by simp [l1, l2]; have := Hb.out; have := Hu.out; omega
        rw [e, List.cons_append]; exact get_mid rfl
      have HS : Hid (((p ++ v.take k ++ (u.drop k ++ md ++ u.take k) ++ (v.drop k ++ q)).set (a + k) y).set (b + k) x = p ++ v.take (k + 1) ++ (u.drop (k + 1) ++ md ++ u.take (k + 1)) ++ (v.drop (k + 1) ++ q)) := by
        rw [hut, hvt, hud, hvd]
        have e1 := set_mid (p := p ++ v.take k) (q := u.drop (k + 1) ++ md ++ u.take k ++ (y :: v.drop (k + 1) ++ q)) (x := x) (y := y) (k := a + k) (by simp [l2]; exact Ha.out)
        have e2 := set_mid (p := p ++ v.take k ++ y :: (u.drop (k + 1) ++ md ++ u.take k)) (q := v.drop (k + 1) ++ q) (x := y) (y := x) (k := b + k) (by simp [l1, l2, l3]; have := Hb.out; have := Hu.out; omega)
        simp only [List.append_assoc, List.cons_append, List.nil_append] at *
        rw [e1, e2]; rfl
      have HY2 : Hid (((p ++ v.take k ++ (u.drop k ++ md ++ u.take k) ++ (v.drop k ++ q)).set (a + k) y)[b + k]? = some y) := by
        rw [List.getElem?_set_ne (by omega)]; exact HY.out
      generalize p ++ v.take k ++ (u.drop k ++ md ++ u.take k) ++ (v.drop k ++ q) = cur at *
      obtain ⟨nxt, HN⟩ : ∃ nxt, Hid (p ++ v.take (k + 1) ++ (u.drop (k + 1) ++ md ++ u.take (k + 1)) ++ (v.drop (k + 1) ++ q) = nxt) := ⟨_, rfl⟩
      rw [HN.out] at HS
      clear hx hy hud hvd hut hvt l1 l2 l3
      go_wp2_with first | ((with_reducible apply wps_loada_own tlen S 0 (hj := HX.out) (q := 0) (vs := [.int .i64 x.1.key.at_, .int .i64 x.1.key.src, .int .i64 x.1.key.sent, .int .i64 x.1.key.no, .int .i64 x.1.dst, .int .i64 x.1.kind, .int .i64 x.1.data]) (m := 7)); (case hx | hi => rfl); (case hn => omega); (case hm | hv => rfl); (case hT => decide +kernel)) | ((with_reducible apply wps_loada_own tlen S 0 (hj := HY.out) (q := 0) (vs := [.int .i64 y.1.key.at_, .int .i64 y.1.key.src, .int .i64 y.1.key.sent, .int .i64 y.1.key.no, .int .i64 y.1.dst, .int .i64 y.1.kind, .int .i64 y.1.data]) (m := 7)); (case hx | hi => rfl); (case hn => omega); (case hm | hv => rfl); (case hT => decide +kernel)) | ((with_reducible apply wps_store_owna tlen S 0 (hj := HX.out) (e' := y) (q := 0) (vs := [.int .i64 y.1.key.at_, .int .i64 y.1.key.src, .int .i64 y.1.key.sent, .int .i64 y.1.key.no, .int .i64 y.1.dst, .int .i64 y.1.kind, .int .i64 y.1.data]) (m := 7)); (case hx => rfl); (case hn => omega); (case hi | hy | hm | h1 | he => rfl); (case hq => exact Nat.le_of_ble_eq_true rfl); (case hT => decide +kernel); clear S; intro wz S; simp only [List.set_cons_zero] at S) | ((with_reducible apply wps_store_owna tlen S 0 (hj := HY2.out) (e' := x) (q := 0) (vs := [.int .i64 x.1.key.at_, .int .i64 x.1.key.src, .int .i64 x.1.key.sent, .int .i64 x.1.key.no, .int .i64 x.1.dst, .int .i64 x.1.kind, .int .i64 x.1.data]) (m := 7)); (case hx => rfl); (case hn => omega); (case hi | hy | hm | h1 | he => rfl); (case hq => exact Nat.le_of_ble_eq_true rfl); (case hT => decide +kernel); clear S; intro wz S; simp only [List.set_cons_zero] at S) | ((with_reducible refine tot_done ?ht ?_); (case ht => kernel_rfl)) | ((with_reducible apply wps_text S); (case hm => kernel_rfl); (case hB => decide +kernel); clear S; intro wz S) | ((with_reducible apply wps_loada (T := 48) (k := 7) S 0); (case hx | hi => rfl); (case hk => exact Nat.le_of_ble_eq_true rfl); (case hT => decide +kernel)) | ((with_reducible apply wps_loada (T := 48) (k := 7) S 1); (case hx | hi => rfl); (case hk => exact Nat.le_of_ble_eq_true rfl); (case hT => decide +kernel)) | ((with_reducible apply wps_loada (T := 48) (k := 7) S 2); (case hx | hi => rfl); (case hk => exact Nat.le_of_ble_eq_true rfl); (case hT => decide +kernel)) | ((with_reducible apply wps_loada (T := 48) (k := 7) S 3); (case hx | hi => rfl); (case hk => exact Nat.le_of_ble_eq_true rfl); (case hT => decide +kernel))
      rw [HS.out] at S
      go_roundw
      case rel => exact ⟨k + 1, by have := Hu.out; omega, by go_num, by rw [HN.out]; exact S⟩
      case measure => simp [intOf]; omega
    · have hkn : k = n := by have := Hk.out; have := Hu.out; omega
      have HE : Hid (p ++ v.take k ++ (u.drop k ++ md ++ u.take k) ++ (v.drop k ++ q) = p ++ v ++ md ++ u ++ q) := by
        rw [List.take_of_length_le (by have := Hv.out; omega), List.drop_eq_nil_of_le (by have := Hu.out; omega), List.take_of_length_le (by have := Hu.out; omega), List.drop_eq_nil_of_le (by have := Hv.out; omega)]
        simp [Hid]
      rw [HE.out] at S
      clear hkn HE
      go_wp2_with first | ((with_reducible refine tot_done ?ht ?_); (case ht => kernel_rfl)) | ((with_reducible apply wps_text S); (case hm => kernel_rfl); (case hB => decide +kernel); clear S; intro wz S) | ((with_reducible apply wps_loada (T := 48) (k := 7) S 0); (case hx | hi => rfl); (case hk => exact Nat.le_of_ble_eq_true rfl); (case hT => decide +kernel)) | ((with_reducible apply wps_loada (T := 48) (k := 7) S 1); (case hx | hi => rfl); (case hk => exact Nat.le_of_ble_eq_true rfl); (case hT => decide +kernel)) | ((with_reducible apply wps_loada (T := 48) (k := 7) S 2); (case hx | hi => rfl); (case hk => exact Nat.le_of_ble_eq_true rfl); (case hT => decide +kernel)) | ((with_reducible apply wps_loada (T := 48) (k := 7) S 3); (case hx | hi => rfl); (case hk => exact Nat.le_of_ble_eq_true rfl); (case hT => decide +kernel))
      go_end0
      exact ⟨rfl, S⟩
theorem swapRange_int (R c N : Nat) (a b n : Int) (p u md v q : List TE) (cv : Value) (w : World) (F : Nat → Prop) (h : (Own 48 tcells 7 (.slice (some ⟨R, 0, none⟩) N c) (p ++ u ++ md ++ v ++ q)).at_ w F)
    (hN : N = (p ++ u ++ md ++ v ++ q).length) (ha : a = p.length) (hu : (u.length : Int) = n) (hv : (v.length : Int) = n) (hb : b = p.length + u.length + md.length) (hn : N ≤ 65536) :
    Calls Tryz.prog 260 #[.slice (some ⟨R, 0, none⟩) N c, .int .i64 a, .int .i64 b, .int .i64 n, cv] w fun e w' => e = .returned (.tuple #[]) ∧ St F w w' [Own 48 tcells 7 (.slice (some ⟨R, 0, none⟩) N c) (p ++ v ++ md ++ u ++ q)] := by
  have e1 : a = ((p.length : Nat) : Int) := ha
  have e2 : b = ((p.length + u.length + md.length : Nat) : Int) := by omega
  have e3 : n = ((u.length : Nat) : Int) := by omega
  rw [e1, e2, e3]
  exact swapRange_calls R c N _ _ _ p u md v q cv w F h hN rfl rfl (by omega) rfl hn
structure RotAt (m i j : Nat) (T p u v q : List TE) : Prop where
  hm : p.length + u.length = m
  hi : u.length = i
  hj : v.length = j
  hT : p ++ v ++ u ++ q = T
def RotRel (F : Nat → Prop) (R c N m : Nat) (T : List TE) (w : World) (iv jv : Value) (wr : World) : Prop :=
  ∃ (i j : Nat) (p u v q : List TE), 0 < i ∧ 0 < j ∧ i ≤ m ∧ m + j ≤ N ∧ iv = .int .i64 i ∧ jv = .int .i64 j ∧ RotAt m i j T p u v q ∧ N = (p ++ u ++ v ++ q).length ∧ St F w wr [Own 48 tcells 7 (.slice (some ⟨R, 0, none⟩) N c) (p ++ u ++ v ++ q)]
theorem rot_more {m i j : Nat} {T p u v q : List TE} (h : RotAt m i j T p u v q) (hij : j < i) : u.take j ++ u.drop j = u ∧ (u.take j).length = j ∧ RotAt m (i - j) j T (p ++ v) (u.drop j) (u.take j) q := by
  obtain ⟨hm, hi, hj, hT⟩ := h
  have e := List.take_append_drop j u
  refine ⟨e, by simp; omega, by simp; omega, by simp; omega, by simp; omega, ?_⟩
  rw [← hT]; conv => rhs; rw [← e]
  simp
theorem rot_less {m i j : Nat} {T p u v q : List TE} (h : RotAt m i j T p u v q) (hij : i < j) : v.take (j - i) ++ v.drop (j - i) = v ∧ (v.drop (j - i)).length = i ∧ RotAt m i (j - i) T p (v.drop (j - i)) (v.take (j - i)) (u ++ q) := by
  obtain ⟨hm, hi, hj, hT⟩ := h
  have e := List.take_append_drop (j - i) v
  refine ⟨e, by simp; omega, by simp; omega, by simp; omega, by simp; omega, ?_⟩
  rw [← hT]; conv => rhs; rw [← e]
  simp
set_option maxRecDepth 100000 in
set_option maxHeartbeats 4000000 in
theorem rotate_calls (R c N a m b : Nat) (p u v q : List TE) (cv : Value) (w : World) (F : Nat → Prop) (h : (Own 48 tcells 7 (.slice (some ⟨R, 0, none⟩) N c) (p ++ u ++ v ++ q)).at_ w F)
    (hN : N = (p ++ u ++ v ++ q).length) (ha : a = p.length) (hm : m = a + u.length) (hb : b = m + v.length) (h1 : 0 < u.length) (h2 : 0 < v.length) (hn : N ≤ 65536) :
    Calls Tryz.prog 248 #[.slice (some ⟨R, 0, none⟩) N c, .int .i64 a, .int .i64 m, .int .i64 b, cv] w fun e w' => e = .returned (.tuple #[]) ∧ St F w w' [Own 48 tcells 7 (.slice (some ⟨R, 0, none⟩) N c) (p ++ v ++ u ++ q)] := by
  have S := St.one w h
  clear h
  have g1 : a < m := by omega
  have g2 : m < b := by omega
  have g3 : b ≤ N := by rw [hN]; simp; omega
  have HR : Hid (RotAt m (m - a) (b - m) (p ++ v ++ u ++ q) p u v q) := ⟨by omega, by omega, by omega, rfl⟩
  have HN := Lib.hid hN
  clear hN ha hm hb h1 h2
  generalize p ++ v ++ u ++ q = T at *
  go_enter Tryz.func248, Tryz.ntmps248
  go_wp2_with first | ((with_reducible refine tot_done ?ht ?_); (case ht => kernel_rfl))
  go_loopw [10, 11] (fun i j wr => RotRel F R c N m T w i j wr) (fun i j _ => ((intOf i) + (intOf j)).toNat)
  case atStart => exact ⟨m - a, b - m, p, u, v, q, by omega, by omega, by omega, by omega, by congr 1; omega, by congr 1; omega, HR.out, HN.out, S⟩
  case round =>
    clear S HR HN
    obtain ⟨i, j, p, u, v, q, hi, hj, him, hjm, rfl, rfl, hR, hN, S⟩ := hrel
    have HR := Lib.hid hR
    have HN := Lib.hid hN
    clear hR hN
    by_cases hlt : j < i
    · have hne : ((i : Int) != (j : Int)) = true := by simp; omega
      have hgt : (j : Int) < i := by omega
      have HM := Lib.hid (rot_more HR.out hlt)
      rw [← HM.out.1] at S
      rw [← HM.out.1] at HN
      have HE : Hid (p ++ (u.take j ++ u.drop j) ++ v ++ q = p ++ u.take j ++ u.drop j ++ v ++ q) := by simp [Hid]
      rw [HE.out] at S
      rw [HE.out] at HN
      have hpu := HR.out.hm
      have hpi := HR.out.hi
      have hpj := HR.out.hj
      have l1 := HM.out.2.1
      have l2 : (u.drop j).length = i - j := by simp; omega
      have Hpu := Lib.hid hpu
      have Hpi := Lib.hid hpi
      have Hpj := Lib.hid hpj
      have L1 := Lib.hid l1
      have L2 := Lib.hid l2
      clear hpu hpi hpj l1 l2
      go_wp2_with first | (go_at_call 260; obtain ⟨Fz, hF, hBk⟩ := S.lend1 0 rfl rfl; refine Calls.mono (swapRange_int _ _ _ _ _ _ p (u.take j) (u.drop j) v q _ _ _ hF HN.out (by have := Hpu.out; have := Hpi.out; omega) (by have := L1.out; omega) (by have := Hpj.out; omega) (by have := L1.out; have := L2.out; have := Hpu.out; have := Hpi.out; omega) hn) ?_; rintro e wz ⟨rfl, T⟩; replace S := hBk _ _ rfl T; clear hBk hF T; simp only [List.set_cons_zero] at S) | ((with_reducible refine tot_done ?ht ?_); (case ht => kernel_rfl))
      have HE2 : Hid (p ++ v ++ u.drop j ++ u.take j ++ q = (p ++ v) ++ u.drop j ++ u.take j ++ q) := rfl
      go_roundw
      case rel => exact ⟨i - j, j, p ++ v, u.drop j, u.take j, q, by omega, hj, by omega, by omega, by congr 1; omega, rfl, HM.out.2.2, by rw [HN.out]; simp; omega, S⟩
      case measure => simp [intOf]; omega
    · by_cases heq : i = j
      · have hne : ((i : Int) != (j : Int)) = false := by simp [heq]
        have hpu := HR.out.hm
        have hpi := HR.out.hi
        have hpj := HR.out.hj
        have hpT := HR.out.hT
        have HE : Hid (p ++ u ++ v ++ q = p ++ u ++ [] ++ v ++ q) := by simp [Hid]
        rw [HE.out] at S
        rw [HE.out] at HN
        have HE2 : Hid (p ++ v ++ [] ++ u ++ q = T) := by simpa [Hid] using hpT
        have Hpu := Lib.hid hpu
        have Hpi := Lib.hid hpi
        have Hpj := Lib.hid hpj
        have Heq := Lib.hid heq
        have HpT := Lib.hid hpT
        clear hpu hpi hpj heq hpT
        go_wp2_with first | (go_at_call 260; obtain ⟨Fz, hF, hBk⟩ := S.lend1 0 rfl rfl; refine Calls.mono (swapRange_int _ _ _ _ _ _ p u [] v q _ _ _ hF HN.out (by have := Hpu.out; have := Hpi.out; omega) (by have := Hpi.out; omega) (by have := Hpj.out; have := Heq.out; omega) (by have := Hpu.out; simp; omega) hn) ?_; rintro e wz ⟨rfl, T⟩; replace S := hBk _ _ rfl T; clear hBk hF T; simp only [List.set_cons_zero] at S) | ((with_reducible refine tot_done ?ht ?_); (case ht => kernel_rfl))
        rw [HE2.out] at S
        go_end0
        exact ⟨rfl, S⟩
      · have hne : ((i : Int) != (j : Int)) = true := by simp; omega
        have hgt : ¬ (j : Int) < i := by omega
        have hlt2 : i < j := by omega
        have HM := Lib.hid (rot_less HR.out hlt2)
        have HE : Hid (p ++ u ++ v ++ q = p ++ u ++ v.take (j - i) ++ v.drop (j - i) ++ q) := by
          show p ++ u ++ v ++ q = _
          rw [List.append_assoc (p ++ u) (v.take (j - i)), HM.out.1]
        rw [HE.out] at S
        rw [HE.out] at HN
        have hpu := HR.out.hm
        have hpi := HR.out.hi
        have l1 := HM.out.2.1
        have l2 : (v.take (j - i)).length = j - i := by have := HR.out.hj; simp; omega
        have Hpu := Lib.hid hpu
        have Hpi := Lib.hid hpi
        have L1 := Lib.hid l1
        have L2 := Lib.hid l2
        clear hpu hpi l1 l2
        go_wp2_with first | (go_at_call 260; obtain ⟨Fz, hF, hBk⟩ := S.lend1 0 rfl rfl; refine Calls.mono (swapRange_int _ _ _ _ _ _ p u (v.take (j - i)) (v.drop (j - i)) q _ _ _ hF HN.out (by have := Hpu.out; have := Hpi.out; omega) (by have := Hpi.out; omega) (by have := L1.out; omega) (by have := L2.out; have := Hpu.out; omega) hn) ?_; rintro e wz ⟨rfl, T⟩; replace S := hBk _ _ rfl T; clear hBk hF T; simp only [List.set_cons_zero] at S) | ((with_reducible refine tot_done ?ht ?_); (case ht => kernel_rfl))
        have HE2 : Hid (p ++ v.drop (j - i) ++ v.take (j - i) ++ u ++ q = p ++ v.drop (j - i) ++ v.take (j - i) ++ (u ++ q)) := by simp [Hid]
        rw [HE2.out] at S
        go_roundw
        case rel => exact ⟨i, j - i, p, v.drop (j - i), v.take (j - i), u ++ q, hi, by omega, him, by omega, rfl, by congr 1; omega, HM.out.2.2, by rw [HN.out]; simp; omega, S⟩
        case measure => simp [intOf]; omega
end Go.Proofs.YtmpfbkfemlhekaaGreatDoor
