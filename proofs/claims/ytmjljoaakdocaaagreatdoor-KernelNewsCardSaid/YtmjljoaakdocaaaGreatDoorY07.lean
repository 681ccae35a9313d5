import Derived.Test.YtmjljoaakdocaaaGreatDoorY06
import Derived.Test.YtmjljoaakdocaaaGreatDoorY04
import Derived.Lib.AppendZerosOnto
import Derived.Lib.Overlaps
import Derived.Laws.Externs
import Derived.Test.YtmjljoaakdocaaaGreatDoorY02
import Derived.LaidMore
/- The walks of cmp.Compare and cmp.Or at ints (beside C2). -/
set_option maxHeartbeats 16000000
set_option maxRecDepth 100000
namespace Go.Proofs.YtmjljoaakdocaaaGreatDoor
open Go Go.RowKit Reg Mem
open List (set_cons_succ set_cons_zero setIfInBounds_toArray cons_append nil_append)
theorem elem_Int : Elem Tryz.prog 92 3 1 8:=⟨_,.int .i64 0,Tryz.underlying92,rfl,by kernel_rfl,by kernel_rfl,by kernel_rfl,by kernel_rfl,by omega⟩
theorem zero_Int : zeroIs Tryz.prog 3 1 (intE 0):=⟨_,.int .i64 0,rfl,by kernel_rfl,by kernel_rfl,rfl,by decide⟩
theorem isNaN_calls (x : Int) (w : World) : Calls Tryz.prog 267 #[.int .i64 x] w fun r w'=>r = .returned (.bool false) ∧ Below w.heap.size w w':=by
 have S:=St.init (fun _=>False) w
 go_enter Tryz.func267,Tryz.ntmps267
 go_wp2_with first | ((with_reducible refine tot_done ?ht ?_);(case ht=>kernel_rfl))
 go_ret
 exact ⟨by simp,S.below⟩
def icmp (x y : Int) : Int:=if x < y then -1 else if y < x then 1 else 0
theorem cmpInt_calls (x y : Int) (w : World) : Calls Tryz.prog 218 #[.int .i64 x,.int .i64 y] w fun r w'=>r = .returned (.int .i64 (icmp x y)) ∧ Below w.heap.size w w':=by
 have S:=St.init (fun _=>False) w
 by_cases h1 : x < y
 · go_enter Tryz.func218,Tryz.ntmps218
   go_wp2_with first | (go_at_call 267;refine Calls.mono (isNaN_calls _ _) ?_;rintro e wz ⟨rfl,hE⟩;replace S:=S.ext (Keep.of_below hE);clear hE)
   go_ret
   exact ⟨ret_int (by unfold icmp;rw [if_pos (by omega)]),S.below⟩
 · by_cases h2 : y < x
   · go_enter Tryz.func218,Tryz.ntmps218
     go_wp2_with first | (go_at_call 267;refine Calls.mono (isNaN_calls _ _) ?_;rintro e wz ⟨rfl,hE⟩;replace S:=S.ext (Keep.of_below hE);clear hE)
     go_ret
     exact ⟨ret_int (by unfold icmp;rw [if_neg (by omega),if_pos (by omega)]),S.below⟩
   · go_enter Tryz.func218,Tryz.ntmps218
     go_wp2_with first | (go_at_call 267;refine Calls.mono (isNaN_calls _ _) ?_;rintro e wz ⟨rfl,hE⟩;replace S:=S.ext (Keep.of_below hE);clear hE)
     go_ret
     exact ⟨ret_int (by unfold icmp;rw [if_neg (by omega),if_neg (by omega)]),S.below⟩
def orL : List Int → Int
 | []=>0
 | x :: l=>if x ≠ 0 then x else orL l
theorem orL_at {l : List Int} {j : Nat} {x : Int} (h : ∀ (q : Nat) y,q < j → l[q]? = some y → y = 0) (hj : l[j]? = some x) (hx : x ≠ 0) : orL l = x:=by
 induction l generalizing j with
 | nil=>simp at hj
 | cons a l ih=>
   cases j with
   | zero=>simp at hj;subst hj;simp [orL,hx]
   | succ j=>
     have ha:=h 0 a (by omega) rfl
     rw [orL,if_neg (by simp [ha])]
     exact ih (j:=j) (fun q y hq hy=>h (q + 1) y (by omega) (by simpa using hy)) (by simpa using hj)
theorem orL_zero {l : List Int} (h : ∀ (q : Nat) y,l[q]? = some y → y = 0) : orL l = 0:=by
 induction l with
 | nil=>rfl
 | cons a l ih=>
   have ha:=h 0 a rfl
   rw [orL,if_neg (by simp [ha])]
   exact ih (fun q y hy=>h (q + 1) y (by simpa using hy))
def OrRel (ad : Option Addr) (c : Nat) (l : List Int) (w : World) (i : Value) (wr : World) : Prop:=
 ∃ j : Nat,j ≤ l.length ∧ i = .int .i64 j ∧ (∀ (q : Nat) y,q < j → l[q]? = some y → y = 0) ∧ St (fun _=>False) w wr [Sl true intE 1 (.slice ad l.length c) l]
theorem orInt_calls (v : Value) (l : List Int) (w : World) (F : Nat → Prop) (h : (Sl true intE 1 v l).at_ w F) (hn : l.length ≤ 4294967296) : Calls Tryz.prog 217 #[v] w fun r w'=>r = .returned (.int .i64 (orL l)) ∧ Below w.heap.size w w':=by
 have S : St (fun _=>False) w w [Sl true intE 1 v l]:=(St.init _ w).share rfl rfl h
 obtain ⟨F1,hs⟩:=S.sl 0 rfl
 obtain ⟨ad,cp,rfl,_⟩:=hs.form
 clear hs
 go_enter Tryz.func217,Tryz.ntmps217
 go_wp2_with first | ((with_reducible apply wps_load S 3);(case hx|hi|hu=>rfl);(case hT=>decide +kernel))
 go_loopw [8] (fun i wr=>OrRel ad cp l w i wr) (fun i _=>l.length - (intOf i).toNat)
 case atStart=>exact ⟨0,Nat.zero_le _,rfl,fun q r h=>by omega,S⟩
 case round=>
  clear S
  obtain ⟨j,hj,rfl,hz,S⟩:=hrel
  have Hz:=Lib.hid hz
  clear hz
  by_cases hlt : j < l.length
  · obtain ⟨x,hx⟩ : ∃ x,l[j]? = some x:=⟨_,List.getElem?_eq_getElem hlt⟩
    obtain ⟨R,o,rfl⟩ : ∃ R o,ad = some ⟨R,o,none⟩:=(S.sl 0 rfl).elim fun F h=>h.head (Nat.zero_lt_of_lt hlt)
    have hlt2 : (j : Int) < l.length:=by omega
    have Hx:=Lib.hid hx
    clear hx
    by_cases h0 : x = 0
    · go_wp2_with first | ((with_reducible apply wps_load_el S 0 (hj:=Hx.out) (q:=0) (u:=.int .i64 x));(case hx|hi=>rfl);(case hn=>omega);(case hu=>rfl);(case hT=>decide +kernel))
      go_roundw
      case rel=>
       refine ⟨j + 1,by omega,by go_num,fun q r hq hr=>?_,S⟩
       by_cases e : q = j
       · subst e;rw [Hx.out] at hr;cases hr;exact h0
       · exact Hz.out q r (by omega) hr
      case measure=>simp [intOf];omega
    · go_wp2_with first | ((with_reducible apply wps_load_el S 0 (hj:=Hx.out) (q:=0) (u:=.int .i64 x));(case hx|hi=>rfl);(case hn=>omega);(case hu=>rfl);(case hT=>decide +kernel))
      go_ret
      exact ⟨ret_int (orL_at Hz.out Hx.out h0).symm,S.below⟩
  · obtain rfl : j = l.length:=by omega
    go_wp2_with first | ((with_reducible apply wps_load S 3);(case hx|hi|hu=>rfl);(case hT=>decide +kernel))
    go_ret
    exact ⟨ret_int (orL_zero fun q y hy=>Hz.out q y (List.getElem?_eq_some_iff.1 hy).1 hy).symm,S.below⟩
end Go.Proofs.YtmjljoaakdocaaaGreatDoor
/- Several results, of which some lie in cells. Over any program. -/
namespace Go.Proofs.YtmjljoaakdocaaaGreatDoor.Mem
open Go Go.RowKit Reg
open List (set_cons_succ set_cons_zero setIfInBounds_toArray cons_append nil_append)
def ResV (P : Program) (w : World) (tmps : Array Value) : ResultVar → Value → Prop
 | .tmp t,v=>tmps.getD t undef = v
 | .cell q t,v=>∃ b,tmps.getD q undef = .pointer (some ⟨b,0,none⟩) ∧ (loadVar t ⟨b,0,none⟩).run P w = .ok v w
section
variable {P : Program} {fn : Func} {tmps : Array Value} {G : Nat → Prop} {w0 w : World} {L : List Asn} {r1 r2 r3 : ResultVar} {v1 v2 v3 : Value}
theorem results2 (h : fn.results = #[r1,r2]) (h1 : ResV P w tmps r1 v1) (h2 : ResV P w tmps r2 v2) : (results fn tmps).run P w = .ok (.tuple #[v1,v2]) w:=by
 cases r1 <;> cases r2 <;> simp only [ResV,Array.getD_eq_getD_getElem?] at h1 h2
 · simp [results,h,h1,h2]
 · obtain ⟨b2,p2,l2⟩:=h2;simp [results,h,h1,p2,asAddr,l2]
 · obtain ⟨b1,p1,l1⟩:=h1;simp [results,h,h2,p1,asAddr,l1]
 · obtain ⟨b1,p1,l1⟩:=h1;obtain ⟨b2,p2,l2⟩:=h2;simp [results,h,p1,p2,asAddr,l1,l2]
theorem St.resA {sh : Bool} {b : Nat} {cs : Array Value} {t ty : TypeId} {q : Tmp} (S : St G w0 w L) (i : Nat) (hi : L[i]? = some (Blk sh b cs t)) (hp : tmps.getD q undef = .pointer (some ⟨b,0,none⟩)) (hA : aggB P ty cs.size = true) : ResV P w tmps (.cell q ty) (.agg cs):=by
 refine ⟨b,hp,?_⟩
 have hl:=run_loadVar_agg (P:=P) (t:=ty) (b:=b) (o:=0) (w:=w) (vs:=cs.toList) (by simpa using hA) (fun j u hj=>by rw [Nat.zero_add,cell_of (S.blk i hi)];simpa using hj)
 simpa using hl
theorem St.res1 {sh : Bool} {b : Nat} {v : Value} {t ty : TypeId} {q : Tmp} (S : St G w0 w L) (i : Nat) (hi : L[i]? = some (Blk sh b #[v] t)) (hp : tmps.getD q undef = .pointer (some ⟨b,0,none⟩)) (hT : leafB P ty = true) : ResV P w tmps (.cell q ty) v:=
 ⟨b,hp,run_load_leaf hT (by rw [cell_of (S.blk i hi)];rfl)⟩
theorem res_tmp {t : Tmp} {v : Value} (h : tmps.getD t undef = v) : ResV P w tmps (.tmp t) v:=h
end
end Go.Proofs.YtmjljoaakdocaaaGreatDoor.Mem
/- A slice that is owned is cut; its last element cleared. Over any program. -/
namespace Go.Proofs.YtmjljoaakdocaaaGreatDoor.Mem
open Go Go.RowKit Reg
open List (set_cons_succ set_cons_zero setIfInBounds_toArray cons_append nil_append)
section
variable {P : Program} {ops : Array Oper} {rest : List Oper} {a : Act} {Q : Exit → Act → World → Prop} {d : Option Tmp} {tt : TypeId} {p : String} {af : Array Edge} {gd : Option (Nat × Bool)} {x y : Operand}
variable {G : Nat → Prop} {w0 w w' : World} {L : List Asn}
end
end Go.Proofs.YtmjljoaakdocaaaGreatDoor.Mem
/- The tail of a slice that is owned is cleared. Over any program. -/
namespace Go.Proofs.YtmjljoaakdocaaaGreatDoor.Mem
open Go Go.RowKit Reg
open List (set_cons_succ set_cons_zero setIfInBounds_toArray cons_append nil_append)
section
variable {P : Program} {ops : Array Oper} {rest : List Oper} {a : Act} {Q : Exit → Act → World → Prop} {d : Option Tmp} {tt : TypeId} {p : String} {af : Array Edge} {gd : Option (Nat × Bool)} {x y : Operand}
variable {G : Nat → Prop} {w0 w w' : World} {L : List Asn}
theorem zeroCells_rep {α : Type} {enc : α → List Value} {k : Nat} {z : Value} {x0 : α} (hk : ∀ x,(enc x).length = k) (hz : z.cells.toList = enc x0) (n : Nat) : (Builtin.zeroCells z.cells n).toList = flatE enc (List.replicate n x0):=by
 have hs : z.cells.size = k:=by rw [← hk x0,← hz];simp
 have:=made_rep (z:=z) hk hz n
 rw [← this]
 unfold Builtin.zeroCells madeCells
 rw [hs]
theorem wps_clearTail {α : Type} {T E : TypeId} {enc : α → List Value} {k bytes R n c c' m q : Nat} {xs : List α} (el : Elem P T E k bytes) (hk : ∀ x,(enc x).length = k) (hone : ∀ x,∀ u ∈ enc x,u.oneCell' = true) (z0 : α) (hz : zeroIs P E k (enc z0)) (S : St G w0 w L) (i : Nat)
 (hi : L[i]? = some (Own E enc k (.slice (some ⟨R,0,none⟩) n c) xs)) (o : Nat) (hx : a.eval x = .slice (some ⟨R,o,none⟩) q c') (ho : o = m * k) (hm : xs.length = m + q) (h0 : 0 < q)
 (next : ∀ w',St G w0 w' (L.set i (Own E enc k (.slice (some ⟨R,0,none⟩) n c) (xs.take m ++ List.replicate q z0))) → wpList P ops Q rest (a.put d (.tuple #[])) w') (hgd : gOk gd ops a = true:=by with_unfolding_all rfl) :
 wpList P ops Q ({ dst:=d,op:=.call { callee:=.builtin .clear,args:=#[x],argTypes:=#[T] },type:=tt,pos:=p,after:=af,guard:=gd } :: rest) a w:=
 wpList_ok hgd fun K hK=>by
  obtain ⟨q,rfl⟩ : ∃ q',q = q' + 1:=⟨q - 1,by omega⟩
  obtain ⟨F,hF⟩:=S.get hi
  obtain ⟨cur,hO,hn⟩:=own_at hF
  obtain ⟨ei,z,h⟩:=el
  obtain ⟨i',z',g1,g2,g3,g4,g5⟩:=hz
  have e1 : ei = i':=by have:=h.info;rw [g1] at this;exact (Option.some.inj this).symm
  subst e1
  have e2 : z = z':=by have:=h.zero;rw [g2] at this;exact (Option.some.inj this).symm
  subst e2
  have hzl : (Builtin.zeroCells z.cells (q + 1)).toList = flatE enc (List.replicate (q + 1) z0):=zeroCells_rep hk g4 _
  have hfl : (flatE enc (List.replicate (q + 1) z0)).length = (q + 1) * k:=by rw [flatE_length hk,List.length_replicate]
  have hsize : m * k + (q + 1) * k ≤ cur.size:=by
   have h3:=hO.le
   rw [hO.size,← Nat.add_mul,← hm]
   exact Nat.mul_le_mul_right k h3
  have h1 : ∀ v ∈ flatE enc (List.replicate (q + 1) z0),v.oneCell' = true:=fun v hv=>by
   obtain ⟨y,_,hy⟩:=List.mem_flatMap.1 hv
   exact hone y v hy
  obtain ⟨ht,hi2,hz2,hs,hby,hzs,hpos⟩:=h
  have hst:=run_storeCells_at P R o E (flatE enc (List.replicate (q + 1) z0)) 0 cur w hO.heap (by rw [hfl,ho];omega) h1
  simp only [Nat.add_zero] at hst
  have hr : (Builtin.clear_ #[T] tt #[.slice (some ⟨R,o,none⟩) (q + 1) c']).run P w = .ok (.tuple #[]) (w.setRow R (splice cur o (flatE enc (List.replicate (q + 1) z0)))):=by
   simp only [Builtin.clear_,List.getElem?_toArray,List.getElem?_cons_zero,Sem.run_bind,run_underlying ht,Result.andThen_ok,zeroValue,typeInfo,run_program,hi2,hz2,hzl,hst,Sem.run_pure]
   rfl
  unfold Oper.wp execOp
  simp [resolve,invoke,builtin,hx,hr,Result.andThen]
  refine hK _ _ (next _ (S.step hi rfl fun F hF=>?_))
  refine ⟨F,setRow_keep.mono (fun x _ h e=>h ((hF.2 x).2 (by simp [Value.ownBlock,e]))),⟨?_,fun x=>by rw [hF.2 x]⟩,fun _ h=>.inl h⟩
  have hl : (xs.take m ++ List.replicate (q + 1) z0).length = n:=by rw [List.length_append,List.length_take,List.length_replicate,hn];omega
  have hln : n = m + (q + 1):=by rw [hn];exact hm
  have hnew : OwnAt E enc k 0 (w.setRow R (splice cur o (flatE enc (List.replicate (q + 1) z0)))) R c (splice cur o (flatE enc (List.replicate (q + 1) z0))) (xs.take m ++ List.replicate (q + 1) z0):=by
   refine ⟨setRow_heap w R _ _ E _ hO.heap,hO.lo,by rw [hl,hn];exact hO.le,hO.max,by rw [splice_size (by rw [hfl,ho];exact hsize)];exact hO.size,?_⟩
   have ht2:=(hO.cut hk m (by omega)).take
   rw [show (xs.take m).length = m by rw [List.length_take];omega] at ht2
   unfold splice
   rw [hl,hln,flatE_append,← ht2,ho]
   have hcl : (cur.toList.take (m * k)).length = m * k:=by rw [List.length_take,Array.length_toList];omega
   simp only [List.append_assoc]
   rw [← List.append_assoc]
   refine List.take_left' ?_
   rw [List.length_append,hcl,hfl,← Nat.add_mul]
  have:=hnew.own hk
  rwa [hl] at this
end
end Go.Proofs.YtmjljoaakdocaaaGreatDoor.Mem
/- The block of a slice that is owned, as it lies; copies of many cells; a slice made longer by things of zero; overlaps. Over any program. -/
namespace Go.Proofs.YtmjljoaakdocaaaGreatDoor.Mem
open Go Go.RowKit Reg
open List (set_cons_succ set_cons_zero setIfInBounds_toArray cons_append nil_append)
section
variable {G : Nat → Prop} {w0 w w' : World} {L : List Asn}
theorem St.raw {α : Type} {E : TypeId} {enc : α → List Value} {k R n c : Nat} {xs : List α} (S : St G w0 w L) (i : Nat) (hi : L[i]? = some (Own E enc k (.slice (some ⟨R,0,none⟩) n c) xs)) :
 ∃ cur : Array Value,cur.size = c * k ∧ n = xs.length ∧ n ≤ c ∧ c ≤ maxLen ∧ cur.toList.take (n * k) = flatE enc xs ∧ St G w0 w (L.set i (Blk false R cur E)):=by
 obtain ⟨F0,hF0⟩:=S.get hi
 obtain ⟨cur,hO,hn⟩:=own_at hF0
 refine ⟨cur,hO.size,hn,by rw [hn];exact hO.le,hO.max,by rw [hn];exact hO.take,S.weak hi (fun _=>rfl) fun F hF=>⟨F,fun _ h=>h,?_,fun x=>?_⟩⟩
 · exact hO.heap
 · rw [hF.2 x];simp [Value.ownBlock,eq_comm]
theorem own_hdE {α : Type} {E : TypeId} {enc : α → List Value} {k : Nat} {v : Value} {xs : List α} (i : Nat) (S : St G w0 w L) (hi : L[i]? = some (Own E enc k v xs)) (h0 : 0 < xs.length) : ∃ R c,v = .slice (some ⟨R,0,none⟩) xs.length c:=by
 obtain ⟨F1,h1,_⟩:=S.get hi
 obtain ⟨R,c,cur,e,_⟩:=h1.some (by omega)
 exact ⟨R,c,e⟩
theorem St.unraw {α : Type} {E : TypeId} {enc : α → List Value} {k R n c : Nat} {cur : Array Value} {xs : List α} (S : St G w0 w L) (hk : ∀ x,(enc x).length = k) (i : Nat) (hi : L[i]? = some (Blk false R cur E)) (hs : cur.size = c * k) (hn : n = xs.length) (hle : n ≤ c) (hm : c ≤ maxLen) (ht : cur.toList.take (n * k) = flatE enc xs) :
 St G w0 w (L.set i (Own E enc k (.slice (some ⟨R,0,none⟩) n c) xs)):=by
 subst hn
 refine S.weak hi (fun _=>rfl) fun F hF=>⟨F,fun _ h=>h,OwnAt.own hk ⟨hF.1,Nat.zero_le _,hle,hm,hs,ht⟩,fun x=>?_⟩
 rw [hF.2 x];simp [Value.ownBlock,eq_comm]
end
section
variable {P : Program} {ops : Array Oper} {rest : List Oper} {a : Act} {Q : Exit → Act → World → Prop} {d : Option Tmp} {tt : TypeId} {p : String} {af : Array Edge} {gd : Option (Nat × Bool)} {x y : Operand}
variable {G : Nat → Prop} {w0 w w' : World} {L : List Asn}
theorem run_copyk {k b o dLen dCap b2 o2 sLen sCap : Nat} {cs cs2 : Array Value} {t t2 dT sT elem : TypeId} (us : List Value) (hb : w.heap[b]? = some (.cells cs t (0,0))) (hb2 : w.heap[b2]? = some (.cells cs2 t2 (0,0)))
 (hu : P.underlying dT = some (.slice elem)) (hE : ∀ w,(sizeOf elem).run P w = .ok k w) (hn : us.length = Nat.min sLen dLen * k) (hsrc : ∀ q v,us[q]? = some v → cs2[o2 + q]? = some v) (hfit : o + us.length ≤ cs.size) (h1 : ∀ v ∈ us,v.oneCell' = true) :
 (Builtin.copy_ #[dT,sT] tt #[.slice (some ⟨b,o,none⟩) dLen dCap,.slice (some ⟨b2,o2,none⟩) sLen sCap]).run P w = .ok (.int .i64 (Nat.min sLen dLen)) (w.setRow b (splice cs o us)):=by
 have hl:=run_loadCells (P:=P) b2 o2 w us 0 #[] (fun j v hj=>by rw [Nat.add_zero,cell_of hb2];exact hsrc j v hj)
 have hst:=run_storeCells_at P b o t us 0 cs w hb (by simpa using hfit) h1
 simp only [Nat.add_zero] at hst
 have hl2 : (loadCells ⟨b2,o2,none⟩ (Nat.min sLen dLen * k)).run P w = .ok us.toArray w:=by
  unfold loadCells;rw [← hn];simpa using hl
 simp only [Builtin.copy_,List.getElem?_toArray,List.getElem?_cons_zero,List.getElem?_cons_succ,Sem.run_bind,run_underlying hu,Result.andThen_ok,Builtin.lenOf,Sem.run_pure,hE,Builtin.firstCells,hl2,hst,goInt]
 rfl
theorem wps_copyk {k b o dLen dCap b2 o2 sLen sCap : Nat} {cs cs2 : Array Value} {t t2 dT sT elem : TypeId} {sh : Bool} (S : St G w0 w L) (i : Nat) (hi : L[i]? = some (Blk false b cs t)) (j : Nat) (hj : L[j]? = some (Blk sh b2 cs2 t2)) (us : List Value) (nn : Nat)
 (hx : a.eval x = .slice (some ⟨b,o,none⟩) dLen dCap) (hy : a.eval y = .slice (some ⟨b2,o2,none⟩) sLen sCap) (hu : P.underlying dT = some (.slice elem)) (hE : ∀ w,(sizeOf elem).run P w = .ok k w)
 (hnn : nn = Nat.min sLen dLen) (hn : us.length = nn * k) (hsrc : ∀ q v,us[q]? = some v → cs2[o2 + q]? = some v) (hfit : o + us.length ≤ cs.size) (h1 : ∀ v ∈ us,v.oneCell' = true)
 (next : ∀ w',St G w0 w' (L.set i (Blk false b (splice cs o us) t)) → wpList P ops Q rest (a.put d (.int .i64 nn)) w') (hgd : gOk gd ops a = true:=by with_unfolding_all rfl) :
 wpList P ops Q ({ dst:=d,op:=.call { callee:=.builtin .copy,args:=#[x,y],argTypes:=#[dT,sT] },type:=tt,pos:=p,after:=af,guard:=gd } :: rest) a w:=
 wpList_ok hgd fun K hK=>by
  subst hnn
  have hr:=run_copyk (P:=P) (w:=w) (tt:=tt) (dT:=dT) (sT:=sT) (o:=o) (dCap:=dCap) (sCap:=sCap) us (S.blk i hi) (S.blk j hj) hu hE hn hsrc hfit h1
  unfold Oper.wp execOp
  simp only [resolve,invoke,builtin,Sem.run_bind,Sem.run_pure,Result.andThen_ok,List.map_toArray,List.map_cons,List.map_nil,hx,hy,hr]
  exact hK _ _ (next _ (S.step hi rfl fun F hF=>⟨F,setRow_keep.mono (fun z _ hn e=>hn ((hF.2 z).2 e)),⟨setRow_heap w b cs _ t _ (S.blk i hi),hF.2⟩,fun _ h=>.inl h⟩))
theorem wps_appendz {α : Type} {T TI E : TypeId} {kn : IntKind} {enc : α → List Value} {k bytes R n c u c2 m : Nat} {xs : List α} (el : Elem P T E k bytes) (hk : ∀ x,(enc x).length = k) (hTI : P.underlying TI = some (.int kn)) (z0 : α) (hz : zeroIs P E k (enc z0)) (S : St G w0 w L) (i : Nat)
 (hi : L[i]? = some (Own E enc k (.slice (some ⟨R,0,none⟩) n c) xs)) (hx : a.eval x = .slice (some ⟨R,0,none⟩) u c2) (hy : a.eval y = .int .i64 m) (hu : u ≤ xs.length) (h0 : 0 < m) (hg : c2 < u + m) (hl : u + m ≤ 4294967296) (hby : bytes ≤ 16384) (nn : Nat) (hnn : nn = u + m)
 (next : ∀ b c' w',St G w0 w' (Own E enc k (.slice (some ⟨b,0,none⟩) nn c') (xs.take u ++ List.replicate m z0) :: L) → wpList P ops Q rest (a.put d (.slice (some ⟨b,0,none⟩) nn c')) w') (hgd : gOk gd ops a = true:=by with_unfolding_all rfl) :
 wpList P ops Q ({ dst:=d,op:=.call { callee:=.builtin .append,args:=#[x,y],argTypes:=#[T,TI] },type:=tt,pos:=p,after:=af,guard:=gd } :: rest) a w:=
 wpList_ok hgd fun K hK=>by
  subst hnn
  obtain ⟨F0,hF0⟩:=S.get hi
  obtain ⟨cur,hO,hn⟩:=own_at hF0
  obtain ⟨ei,z,ht,hei,hez,hs,hbb,hzs,hpos⟩:=el
  obtain ⟨i',z',g1,g2,g3,g4,g5⟩:=hz
  have e1 : ei = i':=by have:=hei;rw [g1] at this;exact (Option.some.inj this).symm
  subst e1
  have e2 : z = z':=by have:=hez;rw [g2] at this;exact (Option.some.inj this).symm
  subst e2
  subst hs
  have hO2:=hO.cut hk u hu
  have hlen : (xs.take u).length = u:=by rw [List.length_take];omega
  have hfl : (flatE enc (xs.take u)).length = u * ei.size:=by rw [flatE_length hk,hlen]
  have hcells : ∀ j v,(flatE enc (xs.take u))[j]? = some v → w.drew.cell? ⟨R,0 + 0 + j,none⟩ = some v:=fun j v hj=>by
   have hj2:=(List.getElem?_eq_some_iff.1 hj).1
   have : w.drew.heap[R]? = some (.cells cur E (0,0)):=hO.heap
   simp only [Nat.zero_add]
   rw [cell_of this]
   rw [← hO2.take,hlen,List.getElem?_take,if_pos (by omega)] at hj
   simpa using hj
  have hold : (Builtin.firstCells ei.size u (.slice (some ⟨R,0,none⟩) u c2)).run P w.drew = .ok (flatE enc (xs.take u)).toArray w.drew:=by
   have:=run_loadCells (P:=P) R 0 w.drew (flatE enc (xs.take u)) 0 #[] hcells
   unfold Builtin.firstCells loadCells
   rw [← hfl];simpa using this
  have hfit : Builtin.nextslicecap (u + m) c2 * ei.bytes ≤ 281474976710656:=by
   refine growslice_fits (by omega) ?_
   have : (u + m) * ei.bytes ≤ 4294967296 * 16384:=Nat.mul_le_mul hl (by rw [hbb];exact hby)
   omega
  have hr:=Lib.run_append_grow_zeros (P:=P) w T TI tt E ei z .i64 kn ht hTI hei hez (some ⟨R,0,none⟩) u c2 _ hold m h0 hpos hg (by omega) (by
   have : m * ei.bytes ≤ 4294967296 * 16384:=Nat.mul_le_mul (by omega) (by rw [hbb];exact hby)
   omega) hfit
  unfold Oper.wp execOp
  simp only [resolve,invoke,builtin,Sem.run_bind,Sem.run_pure,Result.andThen_ok,List.map_toArray,List.map_cons,List.map_nil,hx,hy,hr]
  refine hK _ _ (next _ _ _ (S.grow (F:=fun b=>b = w.heap.size) ⟨rfl,rfl,rfl,by simp,fun q hq _=>heap_alloc_old w.drew _ hq,Nat.le_succ _⟩ ?_ (fun b hb=>by rw [hb];exact Nat.le_refl _)))
  have hge:=grownCap_ge w (u + m) c2 E
  have hl2 : (xs.take u ++ List.replicate m z0).length = u + m:=by rw [List.length_append,hlen,List.length_replicate]
  have hzl : (Builtin.zeroCells z.cells m).toList = flatE enc (List.replicate m z0):=zeroCells_rep hk g4 _
  have hO3 : OwnAt E enc ei.size 0 (w.drew.alloc (.cells ((flatE enc (xs.take u)).toArray ++ Builtin.zeroCells z.cells m ++ Builtin.zeroCells z.cells (grownCap w (u + m) c2 E - (u + m))) E)) w.heap.size (grownCap w (u + m) c2 E) ((flatE enc (xs.take u)).toArray ++ Builtin.zeroCells z.cells m ++ Builtin.zeroCells z.cells (grownCap w (u + m) c2 E - (u + m))) (xs.take u ++ List.replicate m z0):=by
   refine ⟨heap_alloc_new w.drew _,Nat.zero_le _,by rw [hl2];exact hge,grownCap_le_maxLen w _ _ E (by simp only [maxLen];omega),?_,?_⟩
   · simp only [Array.size_append,List.size_toArray,size_zeroCells,hzs,hfl,← Nat.add_mul]
     congr 1;omega
   · simp only [Array.toList_append,hzl]
     rw [hl2,flatE_append,← show (flatE enc (xs.take u) ++ flatE enc (List.replicate m z0)).length = (u + m) * ei.size by rw [List.length_append,hfl,flatE_length hk,List.length_replicate,← Nat.add_mul]]
     exact List.take_left
  have:=hO3.own hk
  rw [hl2] at this
  exact ⟨this,fun b=>by simp [Value.ownBlock,eq_comm]⟩
end
section
variable {P : Program} {α : Type} {enc : α → List Value} {k : Nat}
theorem splice_toList (cs : Array Value) (o : Nat) (vs : List Value) : (splice cs o vs).toList = cs.toList.take o ++ vs ++ cs.toList.drop (o + vs.length):=rfl
theorem splice_ins (hk : ∀ x,(enc x).length = k) {cur : Array Value} {xs : List α} {n i : Nat} (e : α) (hn : n = xs.length) (hi : i ≤ n) (hs : (n + 1) * k ≤ cur.size) (ht : cur.toList.take (n * k) = flatE enc xs) :
 (splice (splice cur ((i + 1) * k) (flatE enc (xs.drop i))) (i * k) (enc e)).toList.take ((n + 1) * k) = flatE enc (xs.take i ++ e :: xs.drop i) ∧ (splice (splice cur ((i + 1) * k) (flatE enc (xs.drop i))) (i * k) (enc e)).size = cur.size:=by
 subst hn
 have hle : i * k ≤ xs.length * k:=Nat.mul_le_mul_right _ hi
 have hsx : (xs.length + 1) * k = xs.length * k + k:=Nat.succ_mul _ _
 have hix : (i + 1) * k = i * k + k:=Nat.succ_mul _ _
 have hd : (flatE enc (xs.drop i)).length = xs.length * k - i * k:=by rw [flatE_length hk,List.length_drop,Nat.sub_mul]
 have h1 : (splice cur ((i + 1) * k) (flatE enc (xs.drop i))).size = cur.size:=splice_size (by rw [hd];omega)
 have h2 : (splice (splice cur ((i + 1) * k) (flatE enc (xs.drop i))) (i * k) (enc e)).size = cur.size:=by rw [splice_size (by rw [h1,hk];omega),h1]
 refine ⟨?_,h2⟩
 have hcl : cur.toList.length = cur.size:=Array.length_toList
 have ht1 : cur.toList.take (i * k) = flatE enc (xs.take i):=by
  rw [flatE_take hk,← ht,List.take_take,Nat.min_eq_left hle]
 have e1 : (splice cur ((i + 1) * k) (flatE enc (xs.drop i))).toList = cur.toList.take (i * k + k) ++ flatE enc (xs.drop i) ++ cur.toList.drop (xs.length * k + k):=by
  unfold splice
  rw [hix,hd,show i * k + k + (xs.length * k - i * k) = xs.length * k + k by omega]
 have hl1 : (cur.toList.take (i * k + k)).length = i * k + k:=by rw [List.length_take,hcl];omega
 have e2 : (cur.toList.take (i * k + k) ++ flatE enc (xs.drop i) ++ cur.toList.drop (xs.length * k + k)).take (i * k) = flatE enc (xs.take i):=by
  rw [List.append_assoc,List.take_append_of_le_length (by rw [hl1];omega),List.take_take,Nat.min_eq_left (by omega),ht1]
 have e3 : (cur.toList.take (i * k + k) ++ flatE enc (xs.drop i) ++ cur.toList.drop (xs.length * k + k)).drop (i * k + k) = flatE enc (xs.drop i) ++ cur.toList.drop (xs.length * k + k):=by
  rw [List.append_assoc,List.drop_left' hl1]
 rw [splice_toList,e1,hk,e2,e3]
 rw [flatE_append,flatE_cons]
 simp only [List.append_assoc]
 rw [← List.append_assoc (enc e),← List.append_assoc (flatE enc (xs.take i))]
 refine List.take_left' ?_
 rw [List.length_append,List.length_append,flatE_length hk,hk,hd,List.length_take,hsx]
 rw [Nat.min_eq_left hi]
 omega
theorem splice_ins2 (hk : ∀ x,(enc x).length = k) {cur : Array Value} {xs : List α} {n i : Nat} (e : α) (hn : n = xs.length) (hi : i ≤ n) (hs : (n + 1) * k ≤ cur.size) (ht : cur.toList.take (i * k) = flatE enc (xs.take i)) :
 (splice (splice cur (i * k) (enc e)) ((i + 1) * k) (flatE enc (xs.drop i))).toList.take ((n + 1) * k) = flatE enc (xs.take i ++ e :: xs.drop i) ∧ (splice (splice cur (i * k) (enc e)) ((i + 1) * k) (flatE enc (xs.drop i))).size = cur.size:=by
 subst hn
 have hle : i * k ≤ xs.length * k:=Nat.mul_le_mul_right _ hi
 have hsx : (xs.length + 1) * k = xs.length * k + k:=Nat.succ_mul _ _
 have hix : (i + 1) * k = i * k + k:=Nat.succ_mul _ _
 have hd : (flatE enc (xs.drop i)).length = xs.length * k - i * k:=by rw [flatE_length hk,List.length_drop,Nat.sub_mul]
 have h1 : (splice cur (i * k) (enc e)).size = cur.size:=splice_size (by rw [hk];omega)
 refine ⟨?_,by rw [splice_size (by rw [h1,hd];omega),h1]⟩
 have hcl : cur.toList.length = cur.size:=Array.length_toList
 have hl0 : (cur.toList.take (i * k)).length = i * k:=by rw [List.length_take,hcl];omega
 have e2 : (splice cur (i * k) (enc e)).toList.take (i * k + k) = flatE enc (xs.take i) ++ enc e:=by
  rw [splice_toList,ht]
  refine List.take_left' ?_
  rw [List.length_append,← ht,hl0,hk]
 rw [splice_toList,hix,e2,flatE_append,flatE_cons]
 simp only [List.append_assoc]
 rw [← List.append_assoc (enc e),← List.append_assoc (flatE enc (xs.take i))]
 refine List.take_left' ?_
 rw [List.length_append,List.length_append,← ht,hl0,hk,hd,hsx]
 omega
theorem flat_src {cs : Array Value} {xs : List α} {n i : Nat} (hk : ∀ x,(enc x).length = k) (ht : cs.toList.take (n * k) = flatE enc xs) (q : Nat) (v : Value) (h : (flatE enc (xs.drop i))[q]? = some v) : cs[i * k + q]? = some v:=by
 have e : flatE enc xs = flatE enc (xs.take i) ++ flatE enc (xs.drop i):=by rw [← flatE_append,List.take_append_drop]
 have h0 : i ≤ xs.length:=by
  rcases Nat.lt_or_ge xs.length i with h2 | h2
  · rw [List.drop_eq_nil_of_le (by omega)] at h;simp [flatE] at h
  · exact h2
 have hl : (flatE enc (xs.take i)).length = i * k:=by rw [flatE_length hk,List.length_take,Nat.min_eq_left h0]
 have h1 : (flatE enc xs)[i * k + q]? = some v:=by
  rw [e,List.getElem?_append_right (by omega),hl,Nat.add_sub_cancel_left];exact h
 rw [← ht] at h1
 have h2:=(List.getElem?_eq_some_iff.1 h1).1
 rw [List.getElem?_take,if_pos (by rw [List.length_take] at h2;omega)] at h1
 simpa using h1
theorem flat_ones {xs : List α} (hone : ∀ x,∀ u ∈ enc x,u.oneCell' = true) : ∀ v ∈ flatE enc xs,v.oneCell' = true:=fun v hv=>by
 obtain ⟨y,_,hy⟩:=List.mem_flatMap.1 hv
 exact hone y v hy
end
section
variable {P : Program} {ops : Array Oper} {rest : List Oper} {a : Act} {Q : Exit → Act → World → Prop} {d : Option Tmp} {tt : TypeId} {p : String} {af : Array Edge} {gd : Option (Nat × Bool)} {x y : Operand}
variable {G : Nat → Prop} {w0 w w' : World} {L : List Asn}
theorem wps_slv {T E : TypeId} {k R n c l u : Nat} {lo hi' : Option Operand} (hT : P.underlying T = some (.slice E)) (hE : ∀ w,(sizeOf E).run P w = .ok k w) (hx : a.eval x = .slice (some ⟨R,0,none⟩) n c)
 (hlo : (lo.map a.eval = none ∧ l = 0) ∨ lo.map a.eval = some (.int .i64 l)) (hhi : (hi'.map a.eval = none ∧ u = n) ∨ hi'.map a.eval = some (.int .i64 u)) (h1 : l ≤ u) (h2 : u ≤ c) (h3 : l < c)
 (next : wpList P ops Q rest (a.put d (.slice (some ⟨R,l * k,none⟩) (u - l) (c - l))) w) (hgd : gOk gd ops a = true:=by with_unfolding_all rfl) :
 wpList P ops Q ({ dst:=d,op:=.slice T x lo hi' none,type:=tt,pos:=p,after:=af,guard:=gd } :: rest) a w:=
 wpList_ok hgd fun K hK=>by
  have hr:=run_sliceAt_sl (P:=P) (w:=w) hT (hE w) (some ⟨R,0,none⟩) n c l u _ _ hlo hhi h1 h2
  rw [if_neg (by omega)] at hr
  simp only [Option.map_some,add_none,Nat.zero_add] at hr
  unfold Oper.wp execOp
  simp only [Option.map_none,hx,hr,Sem.run_bind,Sem.run_pure,Result.andThen_ok]
  exact hK _ _ next
theorem wps_slany {T E : TypeId} {k n c l u : Nat} {ad : Option Addr} {lo hi' : Option Operand} (hT : P.underlying T = some (.slice E)) (hE : ∀ w,(sizeOf E).run P w = .ok k w) (hx : a.eval x = .slice ad n c)
 (hlo : (lo.map a.eval = none ∧ l = 0) ∨ lo.map a.eval = some (.int .i64 l)) (hhi : (hi'.map a.eval = none ∧ u = n) ∨ hi'.map a.eval = some (.int .i64 u)) (h1 : l ≤ u) (h2 : u ≤ c)
 (next : ∀ ad',wpList P ops Q rest (a.put d (.slice ad' (u - l) (c - l))) w) (hgd : gOk gd ops a = true:=by with_unfolding_all rfl) :
 wpList P ops Q ({ dst:=d,op:=.slice T x lo hi' none,type:=tt,pos:=p,after:=af,guard:=gd } :: rest) a w:=
 wpList_ok hgd fun K hK=>by
  have hr:=run_sliceAt_sl (P:=P) (w:=w) hT (hE w) ad n c l u _ _ hlo hhi h1 h2
  unfold Oper.wp execOp
  simp only [Option.map_none,hx,hr,Sem.run_bind,Sem.run_pure,Result.andThen_ok]
  exact hK _ _ (next _)
theorem St.blk_ne {b b2 : Nat} {cs cs2 : Array Value} {t t2 : TypeId} {sh : Bool} (S : St G w0 w L) (i j : Nat) (hi : L[i]? = some (Blk false b cs t)) (hj : L[j]? = some (Blk sh b2 cs2 t2)) (hij : i ≠ j) : b ≠ b2:=by
 obtain ⟨Fs,hf,hd⟩:=S.ex
 have h1:=(hf i _ hi).1
 have h2:=(hf j _ hj).1
 have g1 : Fs i b:=(h1.2 b).2 rfl
 rintro rfl
 have g2 : Fs j b:=(h2.2 b).2 rfl
 rcases Nat.lt_or_gt_of_ne hij with h | h
 · rcases hd i j _ _ h hi hj with ⟨e,_⟩ | e
   · cases e
   · exact e b g1 g2
 · rcases hd j i _ _ h hj hi with ⟨_,e⟩ | e
   · cases e
   · exact e b g2 g1
theorem run_over {fo : FuncId} {fn : Func} {T E tR : TypeId} {k b b2 o lb cb : Nat} {cs cs2 : Array Value} {t t2 : TypeId} (hf : P.funcs[fo]? = some fn) (hname : (fn.name == "runtime.NumGoroutine") = false) (hb : fn.body.isNone = true) (hn : Extern.findNext fn = none)
 (he : Extern.find fn = some (Extern.SlicesOverlaps.overlaps #[T,T] #[tR])) (hT : P.underlying T = some (.slice E)) (hE : ∀ w,(sizeOf E).run P w = .ok k w) (h1 : w.heap[b]? = some (.cells cs t (0,0))) (h2 : w.heap[b2]? = some (.cells cs2 t2 (0,0))) (hne : b2 ≠ b) (h0 : cs.size ≠ 0) (n c : Nat) :
 (callFunc fo #[.slice (some ⟨b2,0,none⟩) n c,.slice (some ⟨b,o,none⟩) lb cb]).run P w = .ok (.value (.bool false)) w:=by
 rw [run_callFunc_extern hf hname hb hn he]
 rw [Lib.run_overlaps_apart w T tR E hT k hE ⟨b2,0,none⟩ ⟨b,o,none⟩ n c lb cb hne t2 t cs2.size cs.size (by simp [World.shape?,h2]) (by simp [World.shape?,h1]) h0 (by simp [World.frozen?,h2]) (by simp [World.frozen?,h2])]
 rfl
end
end Go.Proofs.YtmjljoaakdocaaaGreatDoor.Mem
/- The master of rounds as a thing; the walks of its methods. -/
namespace Go.Proofs.YtmjljoaakdocaaaGreatDoor
open Go Go.RowKit Reg Mem
open List (set_cons_succ set_cons_zero setIfInBounds_toArray cons_append nil_append)
structure MaE where
 no : Int
 runs : Bool
 time : Int
 reps : List Int
def masterB (X : Nat) (m : MaE) (v : Value) : Asn:=sep false (Blk false X #[.int .i64 m.no,.bool m.runs,.int .i64 m.time,v] 129) (Mem.Own 3 intE 1 v m.reps)
def masterA (X : Nat) (m : MaE) : Asn:=exs false (masterB X m)
theorem master_open {G : Nat → Prop} {w0 w : World} {L : List Asn} {X : Nat} {m : MaE} (S : St G w0 w (masterA X m :: L)) : ∃ v,St G w0 w (Blk false X #[.int .i64 m.no,.bool m.runs,.int .i64 m.time,v] 129 :: Mem.Own 3 intE 1 v m.reps :: L):=by
 obtain ⟨v,S⟩:=S.open_exs (fun _=>rfl)
 exact ⟨v,S.open_sep rfl rfl⟩
theorem master_close {G : Nat → Prop} {w0 w : World} {L : List Asn} {X : Nat} {m : MaE} {v : Value} (S : St G w0 w (Blk false X #[.int .i64 m.no,.bool m.runs,.int .i64 m.time,v] 129 :: Mem.Own 3 intE 1 v m.reps :: L)) : St G w0 w (masterA X m :: L):=by
 have S2 : St G w0 w (masterB X m v :: L):=S.close_sep rfl rfl
 exact S2.close_exs (A:=masterB X m) v rfl
theorem masterR {X : Nat} {m : MaE} {w : World} {F : Nat → Prop} (h : (masterA X m).at_ w F) : ∃ v,St (fun _=>False) w w [Blk true X #[.int .i64 m.no,.bool m.runs,.int .i64 m.time,v] 129,Sl true intE 1 v m.reps]:=by
 obtain ⟨v,F1,F2,h1,h2,_,_⟩:=h
 refine ⟨v,?_⟩
 have S1 : St (fun _=>False) w w [Sl true intE 1 v m.reps]:=(St.init _ w).share rfl rfl (own_sl (sh:=true) intE_len h2)
 exact S1.share (A:=Blk true X #[.int .i64 m.no,.bool m.runs,.int .i64 m.time,v] 129) rfl rfl h1
def newMa (workers : Int) : MaE:=⟨0,false,0,List.replicate workers.toNat 0⟩
def MNewPost (workers : Int) (w : World) (e : Ending) (w' : World) : Prop:=
 (workers < 1 ∨ workers > 8) ∧ e = .returned (.tuple #[.pointer none,.int .i64 1]) ∧ Below w.heap.size w w' ∨
 (1 ≤ workers ∧ workers ≤ 8) ∧ ∃ X,e = .returned (.tuple #[.pointer (some ⟨X,0,none⟩),.int .i64 0]) ∧ St (fun _=>False) w w' [masterA X (newMa workers)]
theorem mnewM_calls (workers : Int) (w : World) : Calls Tryz.prog 24 #[.int .i64 workers] w (MNewPost workers w):=by
 have S:=St.init (fun _=>False) w
 by_cases h1 : workers < 1
 · have f1 : decide (workers < 1) = true:=decide_eq_true h1
   go_enter Tryz.func24,Tryz.ntmps24
   go_wp2_with first | ((with_reducible apply wps_box1 (v:=.func _ _ _) S);(case hx|h1=>rfl);clear S;intro bz wz S)
   (try simp only [Exit.inBlock,Exit.then]);refine bodyPost_ret (results2 rfl (res_tmp rfl) (res_tmp rfl)) rfl ?_
   exact .inl ⟨.inl h1,rfl,S.below⟩
 · have f1 : decide (workers < 1) = false:=decide_eq_false h1
   by_cases h2 : workers > 8
   · have f2 : decide (workers > 8) = true:=decide_eq_true h2
     go_enter Tryz.func24,Tryz.ntmps24
     go_wp2_with first | ((with_reducible apply wps_box1 (v:=.func _ _ _) S);(case hx|h1=>rfl);clear S;intro bz wz S)
     (try simp only [Exit.inBlock,Exit.then]);refine bodyPost_ret (results2 rfl (res_tmp rfl) (res_tmp rfl)) rfl ?_
     exact .inl ⟨.inr h2,rfl,S.below⟩
   · have f2 : decide (workers > 8) = false:=decide_eq_false h2
     obtain ⟨n,rfl⟩ : ∃ n : Nat,workers = n:=⟨workers.toNat,by omega⟩
     have hb : n ≤ 8:=by omega
     go_enter Tryz.func24,Tryz.ntmps24
     go_wp2_with first | ((with_reducible apply wps_make intE_len Tryz.underlying92 _ zero_Int S (n:=n));(case hx|hy=>rfl);(case hn=>omega);clear S;intro bz wz S) | ((with_reducible apply wps_boxa (E:=129) S);(case hx=>rfl);clear S;intro bX wz S)
     (try simp only [Exit.inBlock,Exit.then]);refine bodyPost_ret (results2 rfl (res_tmp rfl) (res_tmp rfl)) rfl ?_
     exact .inr ⟨⟨by omega,by omega⟩,bX,rfl,master_close S⟩
theorem mtime_calls (X : Nat) (m : MaE) (w : World) (F : Nat → Prop) (h : (masterA X m).at_ w F) : Calls Tryz.prog 138 #[.pointer (some ⟨X,0,none⟩)] w fun e w'=>e = .returned (.int .i64 m.time) ∧ Below w.heap.size w w':=by
 obtain ⟨v,S⟩:=masterR h
 clear h
 go_enter Tryz.func138,Tryz.ntmps138
 go_wp2_with first | ((with_reducible apply wps_load S 0);(case hx|hi|hu=>rfl);(case hT=>decide +kernel))
 go_ret
 exact ⟨rfl,S.below⟩
theorem mrun_calls (X : Nat) (m : MaE) (w : World) (F : Nat → Prop) (h : (masterA X m).at_ w F) : Calls Tryz.prog 38 #[.pointer (some ⟨X,0,none⟩)] w fun e w'=>e = .returned (.bool m.runs) ∧ Below w.heap.size w w':=by
 obtain ⟨v,S⟩:=masterR h
 clear h
 go_enter Tryz.func38,Tryz.ntmps38
 go_wp2_with first | ((with_reducible apply wps_load S 0);(case hx|hi|hu=>rfl);(case hT=>decide +kernel))
 go_ret
 exact ⟨rfl,S.below⟩
def timeB (t : Int) : Bool:=decide (0 ≤ t ∧ t ≤ 1073741825)
theorem isTime_calls (t : Int) (w : World) : Calls Tryz.prog 135 #[.int .i64 t] w fun e w'=>e = .returned (.bool (timeB t)) ∧ Below w.heap.size w w':=by
 have S:=St.init (fun _=>False) w
 by_cases h1 : t ≥ 0
 · have f1 : decide (t ≥ 0) = true:=decide_eq_true h1
   go_enter Tryz.func135,Tryz.ntmps135
   go_wp2_with first | ((with_reducible refine tot_done ?ht ?_);(case ht=>kernel_rfl))
   go_ret
   exact ⟨ret_bool (by unfold timeB;rw [Bool.eq_iff_iff];simp;omega),S.below⟩
 · have f1 : decide (t ≥ 0) = false:=decide_eq_false h1
   go_enter Tryz.func135,Tryz.ntmps135
   go_wp2_with first | ((with_reducible refine tot_done ?ht ?_);(case ht=>kernel_rfl))
   go_ret
   exact ⟨ret_bool (by unfold timeB;rw [Bool.eq_iff_iff];simp;omega),S.below⟩
theorem follows_calls (n : Int) (h0 : -9223372036854775808 ≤ n) (h1 : n < 9223372036854775807) (w : World) : Calls Tryz.prog 133 #[.agg #[.int .i64 n]] w fun e w'=>e = .returned (.int .i64 (n + 1)) ∧ Below w.heap.size w w':=by
 have S:=St.init (fun _=>False) w
 go_enter Tryz.func133,Tryz.ntmps133
 go_wp2_with first | ((with_reducible apply wps_boxa (E:=127) S);(case hx=>rfl);clear S;intro b1 wz S) | ((with_reducible apply wps_load S 0);(case hx|hi|hu=>rfl);(case hT=>decide +kernel))
 go_ret
 exact ⟨rfl,S.below⟩
def MbRel (X : Nat) (no time : Int) (v : Value) (n : Nat) (F : Nat → Prop) (w : World) (l : List Int) (i : Value) (wr : World) : Prop:=
 ∃ j : Nat,j ≤ n ∧ i = .int .i64 j ∧ St F w wr [Blk false X #[.int .i64 no,.bool true,.int .i64 time,v] 129,Mem.Own 3 intE 1 v (List.replicate j (-1) ++ l.drop j)]
theorem rep_set {l : List Int} {j : Nat} {x : Int} (h : l[j]? = some x) (z : Int) : (List.replicate j z ++ l.drop j).set j z = List.replicate (j + 1) z ++ l.drop (j + 1):=by
 obtain ⟨hj,e⟩:=List.getElem?_eq_some_iff.1 h
 rw [List.set_append_right _ _ (by simp),List.length_replicate,Nat.sub_self,List.drop_eq_getElem_cons hj,set_cons_zero,List.replicate_succ',List.append_assoc];rfl
theorem rep_get {l : List Int} {j : Nat} {x : Int} (h : l[j]? = some x) (z : Int) : (List.replicate j z ++ l.drop j)[j]? = some x:=by
 rw [List.getElem?_append_right (by simp),List.length_replicate,Nat.sub_self,List.getElem?_drop,Nat.add_zero,h]
theorem mbegin_calls (X : Nat) (m : MaE) (w : World) (F : Nat → Prop) (S0 : St F w w [masterA X m]) (h0 : -9223372036854775808 ≤ m.no) (h1 : m.no < 9223372036854775807) (hn : m.reps.length ≤ 8) (hr : m.runs = false) :
 Calls Tryz.prog 94 #[.pointer (some ⟨X,0,none⟩)] w fun e w'=>e = .returned (.tuple #[.int .i64 (m.no + 1),.int .i64 0]) ∧ St F w w' [masterA X ⟨m.no + 1,true,m.time,List.replicate m.reps.length (-1)⟩]:=by
 obtain ⟨v,S⟩:=master_open S0
 clear S0
 have HF:=Lib.hid fun w=>follows_calls m.no h0 h1 w
 rw [hr] at S
 obtain ⟨ad,c,rfl,_⟩:=(S.ownsl intE_len 1 rfl).elim fun _ h=>h.form
 clear hr h0 h1
 generalize hl : m.reps = l at *
 clear hl
 go_enter Tryz.func94,Tryz.ntmps94
 go_wp2_with first | ((with_reducible apply wps_load S 0);(case hx|hi|hu=>rfl);(case hT=>decide +kernel)) | ((with_reducible apply wps_loada (T:=127) (k:=1) S 0);(case hx|hi=>rfl);(case hk=>exact nle rfl);(case hT=>decide +kernel)) | (go_at_call 133;refine Calls.mono (HF.out _) ?_;rintro e wz ⟨rfl,hE⟩;replace S:=S.ext (Keep.of_below hE);clear hE) | ((with_reducible apply wps_store (u:=(.int .i64 (m.no + 1))) S 0);(case hx|hy|hi|h1=>rfl);(case hn=>exact nle rfl);(case hT=>decide +kernel);clear S;intro wz S;simp only [set_cons_zero,setIfInBounds_toArray] at S) | ((with_reducible apply wps_store (u:=(.bool true)) S 0);(case hx|hy|hi|h1=>rfl);(case hn=>exact nle rfl);(case hT=>decide +kernel);clear S;intro wz S;simp only [set_cons_succ,set_cons_zero,setIfInBounds_toArray] at S)
 go_loopw [28] (fun i wr=>MbRel X (m.no + 1) m.time (.slice ad l.length c) l.length F w l i wr) (fun i _=>l.length - (intOf i).toNat)
 case atStart=>exact ⟨0,Nat.zero_le _,rfl,by simpa using S⟩
 case round=>
  clear S
  obtain ⟨j,hj,rfl,S⟩:=hrel
  by_cases hlt : j < l.length
  · obtain ⟨x,hx⟩ : ∃ x,l[j]? = some x:=⟨_,List.getElem?_eq_getElem hlt⟩
    have hll : j < (List.replicate j (-1 : Int) ++ l.drop j).length:=by simp;omega
    obtain ⟨R,rfl⟩ : ∃ R,ad = some ⟨R,0,none⟩:=by obtain ⟨R,c2,e1⟩:=own_hdE 1 S rfl (by omega);simp only [Value.slice.injEq] at e1;exact ⟨R,e1.1⟩
    have HG:=Lib.hid (rep_get hx (-1))
    have HS:=Lib.hid (rep_set hx (-1))
    have hlt2 : (j : Int) < l.length:=by omega
    clear hx
    go_wp2_with first | ((with_reducible apply wps_load S 0);(case hx|hi|hu=>rfl);(case hT=>decide +kernel)) | ((with_reducible apply wps_store_own intE_len S 1 (hj:=HG.out) (e':=(-1 : Int)) (q:=0));(case hx=>rfl);(case hn=>omega);(case hi|hy|h1|he=>rfl);(case hq=>decide);(case hT=>decide +kernel);clear S;intro wz S;simp only [set_cons_succ,set_cons_zero] at S)
    rw [HS.out] at S
    go_roundw
    case rel=>exact ⟨j + 1,by omega,by go_num,S⟩
    case measure=>first | (simp [intOf];done) | (simp [intOf];omega)
  · obtain rfl : j = l.length:=by omega
    have e1 : l.drop l.length = []:=List.drop_length
    rw [e1,List.append_nil] at S
    clear e1
    go_wp2_with first | ((with_reducible apply wps_load S 0);(case hx|hi|hu=>rfl);(case hT=>decide +kernel))
    (try simp only [Exit.inBlock,Exit.then]);refine bodyPost_ret (results2 rfl (res_tmp rfl) (res_tmp rfl)) rfl ?_
    exact ⟨rfl,master_close S⟩
end Go.Proofs.YtmjljoaakdocaaaGreatDoor
/- A region that draws its order, beside things that its hard operations turn. Over any program. -/
namespace Go.Proofs.YtmjljoaakdocaaaGreatDoor.Mem
open Go Go.RowKit Reg
open List (set_cons_succ set_cons_zero setIfInBounds_toArray cons_append nil_append)
section
variable {P : Program} {ops : Array Oper} {Q : Exit → Act → World → Prop} {G : Nat → Prop} {w0 : World} {L : List Asn}
theorem wp_region_wt {id : Nat} {soft : List Nat} {a : Act} {w : World} {T : List Asn} (S : St G w0 w (L ++ T)) (hm : P.follows .mixedOrders = true) (hB : softB ops soft = true)
 (h : Softs P ops Q G w0 L (fun A=>W P ops Q G w0 L (ops.size - soft.length) T (after soft (Array.replicate ops.size false)) A) soft a) : (Code.region id ops true).wp P Q a w:=by
 simp only [softB,Bool.and_eq_true] at hB
 have hc : Closed .any ops (Array.replicate ops.size false):=fun j oj _ hl=>by
  rw [Array.getD_eq_getD_getElem?] at hl
  by_cases hj : j < ops.size
  · rw [Array.getElem?_replicate,if_pos hj] at hl;cases hl
  · rw [Array.getElem?_replicate,if_neg hj] at hl;cases hl
 have hle:=Nat.le_of_ble_eq_true hB.2
 have:=W_softs hB.1.1 soft (ops.size - soft.length) T _ a hc hB.1.2 h
 rw [show ops.size - soft.length + soft.length = ops.size by omega] at this
 exact wp_region_any hm (W_any _ T _ a _ this (S.ext (keep_drew w)))
end
end Go.Proofs.YtmjljoaakdocaaaGreatDoor.Mem
/- Operations of one value in the midst of a region that draws its order. Over any program. -/
namespace Go.Proofs.YtmjljoaakdocaaaGreatDoor.Mem
open Go Go.RowKit Reg
open List (set_cons_succ set_cons_zero setIfInBounds_toArray cons_append nil_append)
section
variable {P : Program} {ops : Array Oper} {Q : Exit → Act → World → Prop} {G : Nat → Prop} {w0 : World} {L : List Asn}
def closedB (ops : Array Oper) (listed : Array Bool) : Bool:=
 (List.range ops.size).all fun j=>!listed.getD j false || ((ops[j]?).map (·.after.all fun e=>!Region.binds .any e || listed.getD e.on false)).getD true
theorem closed_of {listed : Array Bool} (h : closedB ops listed = true) : Closed .any ops listed:=fun j oj hj hl e he hb=>by
 have h1:=List.all_eq_true.1 h j (List.mem_range.2 (Array.getElem?_eq_some_iff.1 hj).1)
 rw [hj] at h1
 simp only [hl,Option.map_some,Option.getD_some,Bool.not_true,Bool.false_or,Array.all_eq_true'] at h1
 have:=h1 e he
 rw [hb] at this
 simpa using this
theorem W_mid {n f : Nat} {soft : List Nat} {T : List Asn} {listed : Array Bool} {a : Act} (hn : n = f + soft.length) (hB : (ordB ops && closedB ops listed && readyAll ops soft listed) = true)
 (h : Softs P ops Q G w0 L (fun A=>W P ops Q G w0 L f T (after soft listed) A) soft a) : W P ops Q G w0 L n T listed a:=by
 simp only [Bool.and_eq_true] at hB
 rw [hn]
 exact W_softs hB.1.1 soft f T listed a (closed_of hB.1.2) hB.2 h
end
end Go.Proofs.YtmjljoaakdocaaaGreatDoor.Mem
/- A plain datum tells the cells that read as it: what a listed table holds. Over any program. -/
namespace Go.Proofs.YtmjljoaakdocaaaGreatDoor.Mem
open Go.RowKit Go.WideShapes Go.ChangeShapes Go.Deep
open List (set_cons_succ set_cons_zero setIfInBounds_toArray cons_append nil_append)
section
variable {H : Type} {enc : TypeId × Value → H} {P : Program} {w : World} {base : Nat} {spare : Nat → Bool} {held : Bool}
def cellsD : Nat → DataW H → List Value
 | _ + 1,.lit (.int k n)=>[.int k n]
 | _ + 1,.lit (.string s)=>[.string ⟨s.toArray⟩]
 | _ + 1,.lit (.bool b)=>[.bool b]
 | d + 1,.agg xs=>xs.flatMap (cellsD d)
 | _,_=>[]
theorem trod_cells : ∀ (d : Nat) (t : TypeId) (ks : List TypeDesc),lay P d t = some ks → P.cellsOf t = ks.length → ∀ (fuel : Nat) (cs : List Value) (x : DataW H × List MemPlace),
 DataW.trod enc P w base spare held fuel t cs = some x → cs = cellsD d x.1
 | 0,_,_,h,_,_,_,_,_=>by cases h
 | d + 1,t,ks,h,hc,fuel,cs,x,hx=>by
   unfold lay at h
   cases hu : P.underlying t with
   | none=>rw [hu] at h;cases h
   | some u=>
     rw [hu] at h
     cases u <;> simp only [reduceCtorEq,Option.some.injEq] at h
     case int k=>
      obtain ⟨n,rfl,rfl,_⟩:=DataW.trod_int hu hx
      rfl
     case string=>
      obtain ⟨s,rfl,rfl,_⟩:=DataW.trod_string hu hx
      simp [cellsD]
     case bool=>
      obtain ⟨b,rfl,rfl⟩:=DataW.trod_bool hu hx
      rfl
     case struct fs=>
      split at h
      · cases h
      · obtain ⟨xs,n,_,rfl,hlen,hxl,hf⟩:=DataW.trod_struct hu hx
        have key : ∀ (l : List Field) (i off : Nat) (ks : List TypeDesc),(∀ j f,l[j]? = some f → fs[i + j]? = some f) → layFields P (lay P d) l off = some ks → off + ks.length ≤ cs.length →
         (cs.drop off).take ks.length = ((xs.drop i).take l.length).flatMap (fun y=>cellsD d y.1):=by
         intro l
         induction l with
         | nil=>intro i off ks _ h _;simp only [layFields,Option.some.injEq] at h;subst h;simp
         | cons f l ih=>
           intro i off ks hl h hle
           unfold layFields at h
           split at h
           · cases h
           · rename_i hno
             have hoff : f.offset = off:=by have:=not_or.1 hno;exact Decidable.not_not.1 this.2
             split at h
             · cases h
             · rename_i k1 hk1
               split at h
               · cases h
               · rename_i hsz
                 have hsz':=Decidable.not_not.1 hsz
                 split at h
                 · cases h
                 · rename_i r hr
                   simp only [Option.some.injEq] at h
                   subst h
                   rw [List.length_append] at hle
                   have hfi : fs[i]? = some f:=hl 0 f rfl
                   have h1:=hf i f hfi
                   have hix : i < xs.length:=by rw [hxl];exact (Array.getElem?_eq_some_iff.1 hfi).1
                   obtain ⟨y,hy⟩ : ∃ y,xs[i]? = some y:=⟨_,List.getElem?_eq_getElem hix⟩
                   rw [hy,hoff,hsz'] at h1
                   have a1:=trod_cells d f.type k1 hk1 hsz' n _ y h1
                   have a2:=ih (i + 1) (off + k1.length) r (fun j g hg=>by have:=hl (j + 1) g (by simpa using hg);rwa [show i + 1 + j = i + (j + 1) by omega]) hr (by omega)
                   have e : (cs.drop off).take (k1 ++ r).length = (cs.drop off).take k1.length ++ (cs.drop (off + k1.length)).take r.length:=by
                    rw [List.length_append,List.take_add,List.drop_drop]
                   have e2 : xs.drop i = y :: xs.drop (i + 1):=by
                    rw [List.drop_eq_getElem_cons hix];congr 1;rw [List.getElem?_eq_getElem hix] at hy;exact Option.some.inj hy
                   rw [e,a1,a2,e2]
                   simp
        have:=key fs.toList 0 0 ks (fun j f hj=>by simpa using hj) h (by omega)
        rw [List.drop_zero,List.take_of_length_le (by omega),List.drop_zero,List.take_of_length_le (by simp;omega)] at this
        rw [this]
        simp [cellsD,List.flatMap_map]
     case array m e=>
      cases hd : lay P d e with
      | none=>rw [hd] at h;cases h
      | some k1=>
        rw [hd] at h
        simp only at h
        split at h
        · cases h
        · rename_i hsz
          have hsz':=Decidable.not_not.1 hsz
          simp only [Option.some.injEq] at h
          obtain ⟨xs,n,_,rfl,hlen,hxl,hf⟩:=DataW.trod_array hu hx
          have key : ∀ (q i : Nat),i + q ≤ m → (cs.drop (i * k1.length)).take (q * k1.length) = ((xs.drop i).take q).flatMap (fun y=>cellsD d y.1):=by
           intro q
           induction q with
           | zero=>intro i _;simp
           | succ q ih=>
             intro i hi
             have h1:=hf i (by omega)
             have hix : i < xs.length:=by omega
             obtain ⟨y,hy⟩ : ∃ y,xs[i]? = some y:=⟨_,List.getElem?_eq_getElem hix⟩
             rw [hy,hsz'] at h1
             have a1:=trod_cells d e k1 hd hsz' n _ y h1
             have a2:=ih (i + 1) (by omega)
             have e : (cs.drop (i * k1.length)).take ((q + 1) * k1.length) = (cs.drop (i * k1.length)).take k1.length ++ (cs.drop ((i + 1) * k1.length)).take (q * k1.length):=by
              rw [show (q + 1) * k1.length = k1.length + q * k1.length by rw [Nat.add_mul];omega,List.take_add,List.drop_drop,show (i + 1) * k1.length = i * k1.length + k1.length by rw [Nat.add_mul];omega]
             have e2 : xs.drop i = y :: xs.drop (i + 1):=by
              rw [List.drop_eq_getElem_cons hix];congr 1;rw [List.getElem?_eq_getElem hix] at hy;exact Option.some.inj hy
             rw [e,a1,a2,e2]
             simp
          have:=key m 0 (by omega)
          subst h
          have hl2 : ((List.replicate m k1).flatten).length = m * k1.length:=by simp
          rw [hl2] at hc
          rw [Nat.zero_mul,List.drop_zero,List.take_of_length_le (by omega),List.drop_zero,List.take_of_length_le (by omega)] at this
          rw [this]
          simp [cellsD,List.flatMap_map]
theorem open_slice_anyW {t e : TypeId} {k : Nat} {α : Type} (en : α → List Value) (ok : α → Prop) (wt : DataW H → Prop) (ht : P.underlying t = some (.slice e)) (hk : P.cellsOf e = k) (h0 : 0 < k)
 (dec : ∀ (n : Nat) vs (x : DataW H × List MemPlace),DataW.trod enc P w base spare held n e vs = some x → wt x.1 → ∃ x : α,en x = vs ∧ ok x) {fuel : Nat} {cs : List Value} {x : DataW H × List MemPlace} (h : DataW.trod enc P w base spare held fuel t cs = some x) (hwt : ∀ es sp,x.1 = .slice es sp → ∀ d ∈ es,wt d) :
 ∃ (a : Option Addr) (c : Nat) (xs : List α),cs = [.slice a xs.length c] ∧ xs.length ≤ c ∧ c ≤ maxLen ∧ (a = none → xs = [] ∧ c = 0) ∧ (∀ y ∈ xs,ok y) ∧
  ∀ (i : Nat) y,xs[i]? = some y → ∃ R o,a = some ⟨R,o,none⟩ ∧ ∀ j u,(en y)[j]? = some u → w.cell? ⟨R,o + i * k + j,none⟩ = some u:=by
 rcases open_slice ht h with ⟨rfl,_⟩ | ⟨a,len,cap,m,n,D,Pl,rfl,_,hlc,hcm,hm,hxe,hx⟩
 · exact ⟨none,0,[],rfl,Nat.le_refl _,by simp [maxLen],fun _=>⟨rfl,rfl⟩,fun _ h=>(by cases h),fun i y h=>(by simp at h)⟩
 · have hlm : len ≤ m:=by rw [hm];split <;> omega
   have each : ∀ i,i < len → ∃ y : α,ok y ∧ ∃ R o,a = ⟨R,o,none⟩ ∧ ∀ j u,(en y)[j]? = some u → w.cell? ⟨R,o + i * k + j,none⟩ = some u:=by
    intro i hi
    obtain ⟨vs,h1,h2⟩:=hx i (by omega)
    obtain ⟨y,hy,hok⟩:=dec n vs _ h2 (hwt _ _ (by rw [hxe]) _ (List.mem_map.2 ⟨i,List.mem_range.2 hi,rfl⟩))
    obtain ⟨_,hlen,hcell⟩:=World.cells?_some h1
    rw [hk] at hlen hcell
    refine ⟨y,hok,a.block,a.off,?_,fun j u hj=>?_⟩
    · have h3:=hcell 0 h0
      rw [List.getElem?_eq_getElem (by omega)] at h3
      obtain ⟨R,o,sp⟩:=a
      cases sp with
      | none=>rfl
      | some s=>
        exfalso
        have h4 : (((⟨R,o,some s⟩ : Addr).add (i * k)).add 0) = (⟨R,o,some s⟩ : Addr).add (i * k):=by simp [Addr.add]
        rw [h4] at h3
        have : ∃ q,w.cell? ((⟨R,o,some s⟩ : Addr).add 0) = some q:=by
         obtain ⟨vs0,g1,_⟩:=hx 0 (by omega)
         obtain ⟨_,gl,gc⟩:=World.cells?_some g1
         rw [hk] at gl gc
         have g3:=gc 0 h0
         rw [List.getElem?_eq_getElem (by omega)] at g3
         exact ⟨_,by simpa [Addr.add] using g3⟩
        obtain ⟨q,hq⟩:=this
        simp only [Addr.add,if_true,World.cell?] at hq
        split at hq <;> simp at hq
    · have hjl : j < k:=by have:=(List.getElem?_eq_some_iff.1 hj).1;rw [hy] at this;omega
      have h3:=hcell j hjl
      rw [hy] at hj
      rw [hj] at h3
      have hsp : a.spot = none:=by
       obtain ⟨vs0,g1,_⟩:=hx 0 (by omega)
       obtain ⟨_,gl,gc⟩:=World.cells?_some g1
       rw [hk] at gl gc
       have g3:=gc 0 h0
       rw [List.getElem?_eq_getElem (by omega)] at g3
       simp only [Nat.zero_mul,Addr.add,if_true,World.cell?] at g3
       cases hs : a.spot with
       | none=>rfl
       | some s=>rw [hs] at g3;split at g3 <;> simp at g3
      rw [← h3]
      congr 1
      obtain ⟨R,o,sp⟩:=a
      simp only at hsp
      subst hsp
      unfold Addr.add
      split <;> split <;> simp_all
   have choose : ∀ n,n ≤ len → ∃ xs : List α,xs.length = n ∧ ∀ i y,xs[i]? = some y → ok y ∧ ∃ R o,a = ⟨R,o,none⟩ ∧ ∀ j u,(en y)[j]? = some u → w.cell? ⟨R,o + i * k + j,none⟩ = some u:=by
    intro n
    induction n with
    | zero=>intro _;exact ⟨[],rfl,fun i y h=>by simp at h⟩
    | succ n ih=>
      intro hn
      obtain ⟨xs,hl,hxs⟩:=ih (by omega)
      obtain ⟨y,hy⟩:=each n (by omega)
      refine ⟨xs ++ [y],by simp [hl],fun i z hz=>?_⟩
      by_cases hi : i < n
      · rw [List.getElem?_append_left (by omega)] at hz
        exact hxs i z hz
      · have hi2 : i = n:=by have:=(List.getElem?_eq_some_iff.1 hz).1;simp at this;omega
        subst hi2
        rw [List.getElem?_append_right (by omega)] at hz
        simp [hl] at hz
        subst hz
        exact hy
   obtain ⟨xs,rfl,hxs⟩:=choose len (Nat.le_refl _)
   refine ⟨some a,cap,xs,rfl,hlc,hcm,fun h=>(by cases h),fun y hy=>?_,fun i y hi=>?_⟩
   · obtain ⟨i,hi,rfl⟩:=List.mem_iff_getElem.1 hy
     exact (hxs i _ (List.getElem?_eq_getElem hi)).1
   · obtain ⟨_,R,o,e,hc⟩:=hxs i y hi
     exact ⟨R,o,by rw [e],hc⟩
end
end Go.Proofs.YtmjljoaakdocaaaGreatDoor.Mem
