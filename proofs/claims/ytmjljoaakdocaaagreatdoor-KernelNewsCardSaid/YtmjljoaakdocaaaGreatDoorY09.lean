import Derived.Test.YtmjljoaakdocaaaGreatDoorTie
import Derived.Test.YtmjljoaakdocaaaGreatDoorCards
import Derived.Test.YtmjljoaakdocaaaGreatDoorY07
import Derived.Test.YtmjljoaakdocaaaGreatDoorY04
import Derived.Test.YtmjljoaakdocaaaGreatDoorY05
import Derived.Lay
import Derived.MakeChecks
import Derived.LaidMore
import Derived.Stop.Joined
import Derived.SevenTiedAt
import Derived.Test.YtmjljoaakdocaaaGreatDoorY02
/- The table of ops, as the row's condition has it; and that the program's own door meets the condition. -/
set_option maxHeartbeats 16000000
set_option maxRecDepth 100000
namespace Go.Proofs.YtmjljoaakdocaaaGreatDoor
open Go Go.ChangeShapes Go.WideShapes Go.ChangeAt Go.RowKit Mem
open List (set_cons_succ set_cons_zero setIfInBounds_toArray cons_append nil_append)
def tabLaid : List (String × DataW Unit) := [("boomerang/code.table", Rows.laid_boomerang_code_table)]
noncomputable def witT (os : Os) : World:=World.laidAll Tryz.prog os tabLaid
theorem metT (os : Os) (args : Array Value) : laidMetH Tryz.prog tabLaid ((witT os).forCall (fun _ _=>0) ⟨#[],args,[]⟩).memory:=by
 rw [MakeChecks.laidMetH_plain _ _ _ (by kernel_rfl)]
 exact laidMet_laidAll args (by kernel_rfl) (by kernel_rfl)
theorem shapeT (os : Os) (args : Array Value) : ((witT os).forCall (fun _ _=>0) ⟨#[],args,[]⟩).Shaped Tryz.prog:=World.shaped_of_ZipB (by kernel_rfl) (by kernel_rfl)
theorem gTable : Tryz.prog.globalNamed "boomerang/code.table" = some 1 := by kernel_rfl
theorem tTable : (Tryz.prog.globals[1]?).map (·.type) = some 355:=by kernel_rfl
theorem lay_some {P : Program} {t : TypeId} (h : (lay P 100 t).isSome = true) (h2 : P.cellsOf t = ((lay P 100 t).getD []).length) : ∃ ks,lay P 100 t = some ks ∧ P.cellsOf t = ks.length:=by
 obtain ⟨ks,hk⟩:=Option.isSome_iff_exists.1 h
 exact ⟨ks,hk,by rw [h2,hk];rfl⟩
theorem tab_of_laid {W : World} (h : laidMetH Tryz.prog tabLaid W) : Tab.at_ W (fun b=>b = 1):=by
 rw [MakeChecks.laidMetH_plain _ _ _ (by kernel_rfl)] at h
 obtain ⟨ps,⟨g0,t0,cs0,f0,p0,q0,hg0,ht0,hv0,hd0,_⟩,_⟩:=h
 obtain rfl:=Option.some.inj (gTable.symm.trans hg0)
 obtain rfl:=Option.some.inj (tTable.symm.trans ht0)
 obtain ⟨ks,hk,hc⟩:=lay_some (P:=Tryz.prog) (t:=355) (by kernel_rfl) (by kernel_rfl)
 have e:=trod_cells 100 355 ks hk hc _ _ _ hd0
 have e2 : cellsD 100 (Rows.laid_boomerang_code_table : DataW Unit) = flatE About.cells table:=by kernel_rfl
 have e3 : cs0.toList = flatE About.cells table:=e.trans e2
 have hcell : ∀ i,W.cell? ⟨1,i,none⟩ = (flatE About.cells table)[i]?:=fun i=>by
  rw [World.var?_cell gTable hv0 i,← e3,Array.getElem?_toList]
 have acells : ∀ x : About,x.cells.length = 6:=fun _=>rfl
 refine ⟨⟨some ⟨1,0,none⟩,16,rfl,by rw [table_len];exact Nat.le_refl _,(fun h=>by cases h),fun i x hi=>⟨1,0,rfl,rfl,fun j u hj=>?_⟩⟩,fun b hb=>?_⟩
 · have hj6 : j < 6:=by rw [← acells x];exact (List.getElem?_eq_some_iff.1 hj).1
   rw [hcell,Nat.zero_add,flatE_get acells hi j hj6]
   exact hj
 · subst hb
   have h0:=hcell 0
   cases hz : W.heap[1]? with
   | none=>exfalso;simp only [World.cell?,hz] at h0;exact absurd h0 (by rw [flatE_get acells (i:=0) (x:=table[0]) rfl 0 (by decide)];simp [About.cells])
   | some o=>exact (Array.getElem?_eq_some_iff.1 hz).1
end Go.Proofs.YtmjljoaakdocaaaGreatDoor
/- Two things that are owned, as one; a new model out of its parts. -/
namespace Go.Proofs.YtmjljoaakdocaaaGreatDoor
open Go Go.RowKit Mem
open List (set_cons_succ set_cons_zero setIfInBounds_toArray cons_append nil_append)
theorem loc_of {A : Asn} {w w' : World} {F F1 : Nat → Prop} (h : A.at_ w F1) (hF : ∀ b,F1 b → F b) (hb : ∀ b,F b → w'.heap[b]? = w.heap[b]?) : A.at_ w' F1:=A.loc h fun b h=>hb b (hF b h)
def Both (A B : Asn) : Asn where
 sh:=false
 at_ w F:=∃ F1 F2,A.at_ w F1 ∧ B.at_ w F2 ∧ ∀ b,F b ↔ F1 b ∨ F2 b
 loc h hb:=let ⟨F1,F2,h1,h2,h3⟩:=h;⟨F1,F2,loc_of h1 (fun b h=>(h3 b).2 (.inl h)) hb,loc_of h2 (fun b h=>(h3 b).2 (.inr h)) hb,h3⟩
 lt h b hb:=let ⟨_,_,h1,h2,h3⟩:=h;((h3 b).1 hb).elim (A.lt h1 b) (B.lt h2 b)
section
variable {G : Nat → Prop} {w0 w : World} {L : List Asn} {A B : Asn}
theorem Mem.St.both (S : St G w0 w (A :: B :: L)) (hA : A.sh = false) (hB : B.sh = false) : St G w0 w (Both A B :: L):=
 S.merge _ hA hB rfl fun F F' h h'=>⟨F,F',h,h',fun _=>Iff.rfl⟩
theorem Mem.St.modNew {T : TypeId} {R : Nat} {vP vL vS : Value} {hs : List Value} {ps : List (List Instr)} {ls : List Place} {ss : List Start} {fin fuel fan : Int}
 (S : St G w0 w (Blk false R #[vP,vL,vS,.int .i64 fin,.int .i64 fuel,.int .i64 fan] T :: Sl false vcell 1 vP hs :: Sl false Place.cells 5 vL ls :: Sl false Start.cells 4 vS ss :: Sls false Instr.cells 5 hs ps :: L)) :
 St G w0 w (ModA false T R [vP,vL,vS,.int .i64 fin,.int .i64 fuel,.int .i64 fan] hs ⟨ps,ls,ss,fin,fuel,fan⟩ :: L):=by
 have S1:=(((S.both rfl rfl).both rfl rfl).both rfl rfl).both rfl rfl
 have:=S1.weak (i:=0) (A':=ModA false T R [vP,vL,vS,.int .i64 fin,.int .i64 fuel,.int .i64 fan] hs ⟨ps,ls,ss,fin,fuel,fan⟩) rfl (fun _=>rfl) fun F h=>?_
 · simpa using this
 · obtain ⟨F1,F2,⟨F3,F4,⟨F5,F6,⟨F7,F8,h1,h2,e4⟩,h3,e3⟩,h4,e2⟩,h5,e1⟩:=h
   have i1 : ∀ b,F7 b → F b:=fun b h=>(e1 b).2 (.inl ((e2 b).2 (.inl ((e3 b).2 (.inl ((e4 b).2 (.inl h)))))))
   have i2 : ∀ b,F8 b → F b:=fun b h=>(e1 b).2 (.inl ((e2 b).2 (.inl ((e3 b).2 (.inl ((e4 b).2 (.inr h)))))))
   have i3 : ∀ b,F6 b → F b:=fun b h=>(e1 b).2 (.inl ((e2 b).2 (.inl ((e3 b).2 (.inr h)))))
   have i4 : ∀ b,F4 b → F b:=fun b h=>(e1 b).2 (.inl ((e2 b).2 (.inr h)))
   have i5 : ∀ b,F2 b → F b:=fun b h=>(e1 b).2 (.inr h)
   refine ⟨F,fun _ h=>h,⟨⟨h1.1,i1 R ((h1.2 R).2 rfl),⟨⟨vP,vL,vS,rfl,h2.1.mono i2,h3.1.mono i3,h4.1.mono i4⟩,h5.1.mono i5⟩⟩,fun b hb=>?_⟩⟩
   rcases (e1 b).1 hb with h | h
   · rcases (e2 b).1 h with h | h
     · rcases (e3 b).1 h with h | h
       · rcases (e4 b).1 h with h | h
         · exact (Blk false R _ T).lt h1 b h
         · exact h2.2 b h
       · exact h3.2 b h
     · exact h4.2 b h
   · exact h5.2 b h
end
theorem firstE_mem (l : List Int) : firstE l = 0 ∨ firstE l ∈ l:=by
 induction l with
 | nil=>simp [firstE]
 | cons x l ih=>by_cases h : x = 0 <;> simp [firstE,h];exact ih.elim .inl fun h=>.inr h
theorem hset {l m : List Value} {x y : Value} {k : Nat} (h : k = l.length) : (l ++ x :: m).set k y = (l ++ [y]) ++ m:=by subst h;simp
end Go.Proofs.YtmjljoaakdocaaaGreatDoor
/- Opening a configuration that came in. -/
namespace Go.Proofs.YtmjljoaakdocaaaGreatDoor
open Go Go.ChangeShapes Go.WideShapes Go.ChangeAt Go.RowKit Mem
open List (set_cons_succ set_cons_zero setIfInBounds_toArray cons_append nil_append)
abbrev i5 : List TypeDesc:=[.int .i64,.int .i64,.int .i64,.int .i64,.int .i64]
theorem dec5 {vs : List Value} (h0 : fits i5 vs = true) : ∃ a b c d e : Int,vs = [.int .i64 a,.int .i64 b,.int .i64 c,.int .i64 d,.int .i64 e]:=by
 obtain ⟨a,v1,rfl,h1⟩:=fits_cons_int h0
 obtain ⟨b,v2,rfl,h2⟩:=fits_cons_int h1
 obtain ⟨c,v3,rfl,h3⟩:=fits_cons_int h2
 obtain ⟨d,v4,rfl,h4⟩:=fits_cons_int h3
 obtain ⟨e,v5,rfl,h5⟩:=fits_cons_int h4
 obtain rfl:=fits_none h5
 exact ⟨a,b,c,d,e,rfl⟩
theorem dec4 {vs : List Value} (h0 : fits i4 vs = true) : ∃ a b c d : Int,vs = [.int .i64 a,.int .i64 b,.int .i64 c,.int .i64 d]:=by
 obtain ⟨a,v1,rfl,h1⟩:=fits_cons_int h0
 obtain ⟨b,v2,rfl,h2⟩:=fits_cons_int h1
 obtain ⟨c,v3,rfl,h3⟩:=fits_cons_int h2
 obtain ⟨d,v4,rfl,h4⟩:=fits_cons_int h3
 obtain rfl:=fits_none h4
 exact ⟨a,b,c,d,rfl⟩
theorem instr_dec : ∀ vs,fits i5 vs = true → (∀ v ∈ vs,wfv v = true) → ∃ k : Instr,k.cells = vs ∧ True:=fun vs h _=>by
 obtain ⟨a,b,c,d,e,rfl⟩:=dec5 h;exact ⟨⟨a,b,c,d,e⟩,rfl,trivial⟩
theorem place_dec : ∀ vs,fits i5 vs = true → (∀ v ∈ vs,wfv v = true) → ∃ k : Place,k.cells = vs ∧ True:=fun vs h _=>by
 obtain ⟨a,b,c,d,e,rfl⟩:=dec5 h;exact ⟨⟨a,⟨b,c,d,e⟩⟩,rfl,trivial⟩
theorem start_dec : ∀ vs,fits i4 vs = true → (∀ v ∈ vs,wfv v = true) → ∃ k : Start,k.cells = vs ∧ True:=fun vs h _=>by
 obtain ⟨a,b,c,d,rfl⟩:=dec4 h;exact ⟨⟨a,b,c,d⟩,rfl,trivial⟩
section
variable {H : Type} {enc : TypeId × Value → H} {w : World} {base : Nat} {spare : Nat → Bool} {held : Bool}
theorem trod_sl {P : Program} {t e : TypeId} {ks : List TypeDesc} {α : Type} (en : α → List Value) (k : Nat) (ht : P.underlying t = some (.slice e)) (hl : lay P 100 e = some ks) (hk : P.cellsOf e = ks.length) (hkk : ks.length = k) (h0 : 0 < k) (hen : ∀ x,(en x).length = k)
 (dec : ∀ vs,fits ks vs = true → (∀ v ∈ vs,wfv v = true) → ∃ x : α,en x = vs ∧ True) {fuel : Nat} {cs : List Value} {x : DataW H × List MemPlace} (hf : DataW.trod enc P w base spare held fuel t cs = some x) :
 ∃ v,∃ xs : List α,cs = [v] ∧ SlAt en k w (fun b=>b < w.heap.size) v xs ∧ xs.length ≤ maxLen:=by
 obtain ⟨a,c,xs,hcs,h1,hc2,h2,_,hc⟩:=open_slice_flat en (fun _=>True) ht hl hk (by omega) dec hf
 refine ⟨_,xs,hcs,⟨a,c,rfl,h1,fun e=>(h2 e).2,fun i y hi=>?_⟩,by omega⟩
 obtain ⟨R,o,e,hcell⟩:=hc i y hi
 refine ⟨R,o,e,?_,fun j u hj=>by rw [← hkk];exact hcell j u hj⟩
 have hy : 0 < (en y).length:=by rw [hen];exact h0
 have:=hcell 0 _ (List.getElem?_eq_getElem hy)
 exact Nat.lt_of_not_le fun hge=>by simp [World.cell?,Array.getElem?_eq_none hge] at this
structure Wide (c : Cfg) : Prop where
 p : c.programs.length ≤ maxLen
 q : ∀ x ∈ c.programs,x.length ≤ maxLen
 l : c.lps.length ≤ maxLen
 s : c.starts.length ≤ maxLen
theorem list6 {α : Type} : ∀ {l : List α},l.length = 6 → ∃ a b c d e f,l = [a,b,c,d,e,f]
 | [a,b,c,d,e,f],_=>⟨a,b,c,d,e,f,rfl⟩
end
end Go.Proofs.YtmjljoaakdocaaaGreatDoor
/- Opening a configuration that came in, with the bytes that it takes. -/
namespace Go.Proofs.YtmjljoaakdocaaaGreatDoor
open Go Go.ChangeShapes Go.WideShapes Go.ChangeAt Go.RowKit Mem Go.Deep
open List (set_cons_succ set_cons_zero setIfInBounds_toArray cons_append nil_append)
section
variable {H : Type} {enc : TypeId × Value → H} {w : World} {base : Nat} {spare : Nat → Bool} {held : Bool}
def Light (P : Program) (t : TypeId) (d : DataW H) : Prop:=∀ n ∈ d.weights P t,n ≤ reachBytes
theorem light_all {P : Program} {e : TypeId} : ∀ {l : List (DataW H)},(∀ n ∈ DataW.weightsAll P e l,n ≤ reachBytes) → ∀ d ∈ l,Light P e d
 | [],_,d,hd=>by cases hd
 | x :: l,h,d,hd=>by
   simp only [DataW.weightsAll,List.mem_append] at h
   rcases List.mem_cons.1 hd with rfl | hd
   · exact fun n hn=>h n (.inl hn)
   · exact light_all (fun n hn=>h n (.inr hn)) d hd
theorem light_slice {P : Program} {t e : TypeId} (ht : P.underlying t = some (.slice e)) {es sp : List (DataW H)} (h : Light P t (.slice es sp)) : (es.length + sp.length) * P.bytesOf e ≤ reachBytes ∧ ∀ d ∈ es,Light P e d:=by
 unfold Light at h
 simp only [DataW.weights,ht,List.mem_cons,List.mem_append] at h
 exact ⟨h _ (.inl rfl),light_all fun n hn=>h n (.inr (.inl hn))⟩
theorem sl_bytes {P : Program} {t e : TypeId} (ht : P.underlying t = some (.slice e)) {fuel : Nat} {cs : List Value} {x : DataW H × List MemPlace} (hf : DataW.trod enc P w base spare held fuel t cs = some x) {a : Option Addr} {len c : Nat} (hcs : cs = [.slice a len c]) (hw : Light P t x.1) :
 len * P.bytesOf e ≤ reachBytes:=by
 rcases open_slice ht hf with ⟨rfl,_⟩ | ⟨a',len',cap,m,n,D,Pl,rfl,_,_,_,_,rfl,_⟩
 · simp only [List.cons.injEq,Value.slice.injEq] at hcs
   obtain ⟨⟨_,rfl,_⟩,_⟩:=hcs
   simp
 · simp only [List.cons.injEq,Value.slice.injEq] at hcs
   obtain ⟨⟨_,rfl,_⟩,_⟩:=hcs
   have:=(light_slice ht hw).1
   simp only [List.length_map,List.length_range] at this
   exact Nat.le_trans (Nat.mul_le_mul_right _ (by omega)) this
theorem trod_slB {P : Program} {t e : TypeId} {ks : List TypeDesc} {α : Type} (en : α → List Value) (k : Nat) (ht : P.underlying t = some (.slice e)) (hl : lay P 100 e = some ks) (hk : P.cellsOf e = ks.length) (hkk : ks.length = k) (h0 : 0 < k) (hen : ∀ x,(en x).length = k)
 (dec : ∀ vs,fits ks vs = true → (∀ v ∈ vs,wfv v = true) → ∃ x : α,en x = vs ∧ True) {fuel : Nat} {cs : List Value} {x : DataW H × List MemPlace} (hf : DataW.trod enc P w base spare held fuel t cs = some x) (hw : Light P t x.1) :
 ∃ v,∃ xs : List α,cs = [v] ∧ SlAt en k w (fun b=>b < w.heap.size) v xs ∧ xs.length ≤ maxLen ∧ xs.length * P.bytesOf e ≤ reachBytes:=by
 obtain ⟨v,xs,h1,h2,h3⟩:=trod_sl en k ht hl hk hkk h0 hen dec hf
 obtain ⟨a,c,rfl,_⟩:=h2.form
 exact ⟨_,xs,h1,h2,h3,sl_bytes ht hf h1 hw⟩
theorem trod_slsB {P : Program} {t e e2 : TypeId} {ks : List TypeDesc} {α : Type} (en : α → List Value) (k : Nat) (ht : P.underlying t = some (.slice e)) (he : P.underlying e = some (.slice e2)) (hce : P.cellsOf e = 1) (hl : lay P 100 e2 = some ks) (hk : P.cellsOf e2 = ks.length) (hkk : ks.length = k) (h0 : 0 < k) (hen : ∀ x,(en x).length = k)
 (dec : ∀ vs,fits ks vs = true → (∀ v ∈ vs,wfv v = true) → ∃ x : α,en x = vs ∧ True) {fuel : Nat} {cs : List Value} {x : DataW H × List MemPlace} (hf : DataW.trod enc P w base spare held fuel t cs = some x) (hw : Light P t x.1) :
 ∃ v,∃ hs : List Value,∃ xss : List (List α),cs = [v] ∧ SlAt vcell 1 w (fun b=>b < w.heap.size) v hs ∧ SlsAt en k w (fun b=>b < w.heap.size) hs xss ∧ xss.length ≤ maxLen ∧ (∀ xs ∈ xss,xs.length ≤ maxLen) ∧ xss.length * P.bytesOf e ≤ reachBytes ∧ ∀ xs ∈ xss,xs.length * P.bytesOf e2 ≤ reachBytes:=by
 obtain ⟨a,c,ys,hcs,h1,hc2,h2,hok,hc⟩:=open_slice_anyW (α:=Value × List α) (k:=1) (fun y=>[y.1]) (fun y=>SlAt en k w (fun b=>b < w.heap.size) y.1 y.2 ∧ y.2.length ≤ maxLen ∧ y.2.length * P.bytesOf e2 ≤ reachBytes) (Light P e) ht hce (by omega)
  (fun n vs x hx hwx=>by obtain ⟨v,xs,h3,h4,h5,h6⟩:=trod_slB en k he hl hk hkk h0 hen dec hx hwx;exact ⟨(v,xs),h3.symm,h4,h5,h6⟩) hf
  (fun es sp e=>(light_slice ht (by rw [← e];exact hw)).2)
 refine ⟨_,ys.map (·.1),ys.map (·.2),hcs,⟨a,c,by simp,by simpa using h1,fun e=>(h2 e).2,fun i y hi=>?_⟩,⟨by simp,fun i v xs hv hx=>?_⟩,by simp;omega,fun xs hx=>?_,by simpa using sl_bytes ht hf hcs hw,fun xs hx=>?_⟩
 · rw [List.getElem?_map] at hi
   cases hy : ys[i]? with
   | none=>rw [hy] at hi;cases hi
   | some z=>
     rw [hy] at hi;simp at hi;subst hi
     obtain ⟨R,o,e,hcell⟩:=hc i z hy
     refine ⟨R,o,e,?_,fun j u hj=>hcell j u hj⟩
     have:=hcell 0 _ rfl
     exact Nat.lt_of_not_le fun hge=>by simp [World.cell?,Array.getElem?_eq_none hge] at this
 · rw [List.getElem?_map] at hv hx
   cases hy : ys[i]? with
   | none=>rw [hy] at hv;cases hv
   | some z=>
     rw [hy] at hv hx;simp at hv hx;subst hv;subst hx
     exact (hok z (List.mem_of_getElem? hy)).1
 · obtain ⟨z,hz,rfl⟩:=List.mem_map.1 hx
   exact (hok z hz).2.1
 · obtain ⟨z,hz,rfl⟩:=List.mem_map.1 hx
   exact (hok z hz).2.2
structure WideB (c : Cfg) : Prop where
 p : c.programs.length * 24 ≤ 140737488351232
 q : ∀ x ∈ c.programs,x.length * 40 ≤ 140737488351232
 l : c.lps.length * 40 ≤ 140737488351232
 s : c.starts.length * 32 ≤ 140737488351232
theorem open_cfgB {v : Value} {d : DataW H} {p : List MemPlace} {r : Reach} {base2 : Nat} (h : DataW.Trod enc Tryz.prog w base spare held 43 v d p) (hv : Value.okWide Tryz.prog w r base2 43 v) (hw : Light Tryz.prog 43 d) :
 ∃ vs hs c,v = .agg vs.toArray ∧ (CfgA true vs hs c).at_ w (fun b=>b < w.heap.size) ∧ Wide c ∧ WideB c:=by
 obtain ⟨cs,rfl,_⟩:=okWide_struct Tryz.underlying43 hv
 obtain ⟨fuel,hf⟩:=h
 obtain ⟨xs,n,_,hd,hlen,hxl,hfs⟩:=DataW.trod_struct Tryz.underlying43 hf
 have z26 : Tryz.prog.cellsOf 43 = 6:=by kernel_rfl
 have zP : Tryz.prog.cellsOf 39 = 1:=by kernel_rfl
 have zL : Tryz.prog.cellsOf 40 = 1:=by kernel_rfl
 have zS : Tryz.prog.cellsOf 41 = 1:=by kernel_rfl
 have zI : Tryz.prog.cellsOf 3 = 1:=by kernel_rfl
 have b0 : Tryz.prog.bytesOf 157 = 24:=by kernel_rfl
 have b1 : Tryz.prog.bytesOf 160 = 40:=by kernel_rfl
 have b2 : Tryz.prog.bytesOf 163 = 40:=by kernel_rfl
 have b3 : Tryz.prog.bytesOf 112 = 32:=by kernel_rfl
 have e0 : (Value.agg cs).cells.toList = cs.toList:=rfl
 rw [e0] at hfs hlen
 rw [z26] at hlen
 obtain ⟨c0,c1,c2,c3,c4,c5,hcs⟩:=list6 hlen
 obtain ⟨y0,y1,y2,y3,y4,y5,rfl⟩:=list6 (show xs.length = 6 from hxl)
 have hd2 : d = .agg [y0.1,y1.1,y2.1,y3.1,y4.1,y5.1]:=(Prod.mk.inj hd).1
 have hw0 : ∀ n ∈ DataW.weightsEach Tryz.prog [39,40,41,3,3,3] [y0.1,y1.1,y2.1,y3.1,y4.1,y5.1],n ≤ reachBytes:=by
  rw [hd2] at hw
  unfold Light at hw
  simp only [DataW.weights,Tryz.underlying43] at hw
  exact hw
 have w0 : Light Tryz.prog 39 y0.1:=fun n hn=>hw0 n (by simp [DataW.weightsEach,hn])
 have w1 : Light Tryz.prog 40 y1.1:=fun n hn=>hw0 n (by simp [DataW.weightsEach,hn])
 have w2 : Light Tryz.prog 41 y2.1:=fun n hn=>hw0 n (by simp [DataW.weightsEach,hn])
 have f0 : DataW.trod enc Tryz.prog w base spare held n 39 [c0] = some y0:=by
  have h : DataW.trod enc Tryz.prog w base spare held n 39 ((cs.toList.drop 0).take (Tryz.prog.cellsOf 39)) = some y0:=hfs 0 _ rfl
  rw [zP,hcs] at h
  exact h
 have f1 : DataW.trod enc Tryz.prog w base spare held n 40 [c1] = some y1:=by
  have h : DataW.trod enc Tryz.prog w base spare held n 40 ((cs.toList.drop 1).take (Tryz.prog.cellsOf 40)) = some y1:=hfs 1 _ rfl
  rw [zL,hcs] at h
  exact h
 have f2 : DataW.trod enc Tryz.prog w base spare held n 41 [c2] = some y2:=by
  have h : DataW.trod enc Tryz.prog w base spare held n 41 ((cs.toList.drop 2).take (Tryz.prog.cellsOf 41)) = some y2:=hfs 2 _ rfl
  rw [zS,hcs] at h
  exact h
 have f3 : DataW.trod enc Tryz.prog w base spare held n 3 [c3] = some y3:=by
  have h : DataW.trod enc Tryz.prog w base spare held n 3 ((cs.toList.drop 3).take (Tryz.prog.cellsOf 3)) = some y3:=hfs 3 _ rfl
  rw [zI,hcs] at h
  exact h
 have f4 : DataW.trod enc Tryz.prog w base spare held n 3 [c4] = some y4:=by
  have h : DataW.trod enc Tryz.prog w base spare held n 3 ((cs.toList.drop 4).take (Tryz.prog.cellsOf 3)) = some y4:=hfs 4 _ rfl
  rw [zI,hcs] at h
  exact h
 have f5 : DataW.trod enc Tryz.prog w base spare held n 3 [c5] = some y5:=by
  have h : DataW.trod enc Tryz.prog w base spare held n 3 ((cs.toList.drop 5).take (Tryz.prog.cellsOf 3)) = some y5:=hfs 5 _ rfl
  rw [zI,hcs] at h
  exact h
 obtain ⟨vP,hs,pss,g0,a0,b0',l0,m0,r0,q0⟩:=trod_slsB (ks:=i5) Instr.cells 5 Tryz.underlying39 Tryz.underlying157 (by kernel_rfl) (by kernel_rfl) (by kernel_rfl) rfl (by decide) incells instr_dec f0 w0
 obtain ⟨vL,ls,g1,a1,l1,r1⟩:=trod_slB (ks:=i5) Place.cells 5 Tryz.underlying40 (by kernel_rfl) (by kernel_rfl) rfl (by decide) plcells place_dec f1 w1
 obtain ⟨vS,ss,g2,a2,l2,r2⟩:=trod_slB (ks:=i4) Start.cells 4 Tryz.underlying41 (by kernel_rfl) (by kernel_rfl) rfl (by decide) stcells start_dec f2 w2
 rw [b0] at r0
 rw [b1] at q0
 rw [b2] at r1
 rw [b3] at r2
 obtain ⟨n3,g3,_⟩:=DataW.trod_int Tryz.underlying3 f3
 obtain ⟨n4,g4,_⟩:=DataW.trod_int Tryz.underlying3 f4
 obtain ⟨n5,g5,_⟩:=DataW.trod_int Tryz.underlying3 f5
 cases g0;cases g1;cases g2;cases g3;cases g4;cases g5
 refine ⟨_,hs,⟨pss,ls,ss,n3,n4,n5⟩,?_,⟨⟨⟨_,_,_,rfl,a0,a1,a2⟩,b0'⟩,fun _ h=>h⟩,⟨l0,m0,l1,l2⟩,⟨r0,q0,r1,r2⟩⟩
 rw [← hcs]
theorem light_two {P : Program} {t1 t2 : TypeId} {l : List TypeId} {d1 d2 : DataW H} {gs : List (DataW H)} (h : (DataW.weightsEach P ([t1,t2] ++ l) ([d1,d2] ++ gs)).all (· ≤ reachBytes) = true) : Light P t1 d1 ∧ Light P t2 d2:=by
 rw [List.all_eq_true] at h
 simp only [cons_append,nil_append,DataW.weightsEach,List.mem_append,decide_eq_true_eq] at h
 exact ⟨fun n hn=>h n (.inl hn),fun n hn=>h n (.inr (.inl hn))⟩
end
end Go.Proofs.YtmjljoaakdocaaaGreatDoor
/- The net as a thing; the walks of its New and Send. -/
namespace Go.Proofs.YtmjljoaakdocaaaGreatDoor
open Go Go.RowKit Reg Mem
open List (set_cons_succ set_cons_zero setIfInBounds_toArray cons_append nil_append)
structure ItemE where
 kind : Int
 m : Message
 no : Int
 at_ : Int
structure PkE where
 no : Int
 from_ : Int
 to_ : Int
 x : ItemE
def itcell (x : ItemE) : List Value:=[.int .i64 x.kind,.int .i64 x.m.ev.key.at_,.int .i64 x.m.ev.key.src,.int .i64 x.m.ev.key.sent,.int .i64 x.m.ev.key.no,.int .i64 x.m.ev.dst,.int .i64 x.m.ev.kind,.int .i64 x.m.ev.data,.bool x.m.anti,.int .i64 x.no,.int .i64 x.at_]
theorem itcells : ∀ x,(itcell x).length = 11:=fun _=>rfl
def pkcell (x : PkE) : List Value:=[.int .i64 x.no,.int .i64 x.from_,.int .i64 x.to_,.int .i64 x.x.kind,.int .i64 x.x.m.ev.key.at_,.int .i64 x.x.m.ev.key.src,.int .i64 x.x.m.ev.key.sent,.int .i64 x.x.m.ev.key.no,.int .i64 x.x.m.ev.dst,.int .i64 x.x.m.ev.kind,.int .i64 x.x.m.ev.data,.bool x.x.m.anti,.int .i64 x.x.no,.int .i64 x.x.at_]
theorem pkcells : ∀ x,(pkcell x).length = 14:=fun _=>rfl
theorem pkone : ∀ x,∀ u ∈ pkcell x,u.oneCell' = true:=fun _=>by simp [pkcell,Value.oneCell']
theorem elem_Pk : Elem Tryz.prog 145 100 14 112:=⟨_,.agg #[.int .i64 0,.int .i64 0,.int .i64 0,.int .i64 0,.int .i64 0,.int .i64 0,.int .i64 0,.int .i64 0,.int .i64 0,.int .i64 0,.int .i64 0,.bool false,.int .i64 0,.int .i64 0],Tryz.underlying145,rfl,by kernel_rfl,by kernel_rfl,by kernel_rfl,by kernel_rfl,by omega⟩
structure NetE where
 boxes : Int
 next : Int
 way : List PkE
def netB (X : Nat) (n : NetE) (v : Value) : Asn:=sep false (Blk false X #[.int .i64 n.boxes,.int .i64 n.next,v] 147) (Mem.Own 100 pkcell 14 v n.way)
def netA (X : Nat) (n : NetE) : Asn:=exs false (netB X n)
theorem net_open {G : Nat → Prop} {w0 w : World} {L : List Asn} {X : Nat} {n : NetE} (S : St G w0 w (netA X n :: L)) : ∃ v,St G w0 w (Blk false X #[.int .i64 n.boxes,.int .i64 n.next,v] 147 :: Mem.Own 100 pkcell 14 v n.way :: L):=by
 obtain ⟨v,S⟩:=S.open_exs (fun _=>rfl)
 exact ⟨v,S.open_sep rfl rfl⟩
theorem net_close {G : Nat → Prop} {w0 w : World} {L : List Asn} {X : Nat} {n : NetE} {v : Value} (S : St G w0 w (Blk false X #[.int .i64 n.boxes,.int .i64 n.next,v] 147 :: Mem.Own 100 pkcell 14 v n.way :: L)) : St G w0 w (netA X n :: L):=by
 have S2 : St G w0 w (netB X n v :: L):=S.close_sep rfl rfl
 exact S2.close_exs (A:=netB X n) v rfl
def NetNewPost (boxes : Int) (w : World) (e : Ending) (w' : World) : Prop:=
 (boxes < 1 ∨ boxes > 64) ∧ e = .returned (.tuple #[.pointer none,.int .i64 1]) ∧ Below w.heap.size w w' ∨
 (1 ≤ boxes ∧ boxes ≤ 64) ∧ ∃ X,e = .returned (.tuple #[.pointer (some ⟨X,0,none⟩),.int .i64 0]) ∧ St (fun _=>False) w w' [netA X ⟨boxes,0,[]⟩]
theorem netnew_calls (boxes : Int) (w : World) : Calls Tryz.prog 27 #[.int .i64 boxes] w (NetNewPost boxes w):=by
 have S:=St.init (fun _=>False) w
 by_cases h1 : boxes < 1
 · have f1 : decide (boxes < 1) = true:=decide_eq_true h1
   go_enter Tryz.func27,Tryz.ntmps27
   go_wp2_with first | ((with_reducible apply wps_box1 (v:=.func _ _ _) S);(case hx|h1=>rfl);clear S;intro bz wz S)
   (try simp only [Exit.inBlock,Exit.then]);refine bodyPost_ret (results2 rfl (res_tmp rfl) (res_tmp rfl)) rfl ?_
   exact .inl ⟨.inl h1,rfl,S.below⟩
 · have f1 : decide (boxes < 1) = false:=decide_eq_false h1
   by_cases h2 : boxes > 64
   · have f2 : decide (boxes > 64) = true:=decide_eq_true h2
     go_enter Tryz.func27,Tryz.ntmps27
     go_wp2_with first | ((with_reducible apply wps_box1 (v:=.func _ _ _) S);(case hx|h1=>rfl);clear S;intro bz wz S)
     (try simp only [Exit.inBlock,Exit.then]);refine bodyPost_ret (results2 rfl (res_tmp rfl) (res_tmp rfl)) rfl ?_
     exact .inl ⟨.inr h2,rfl,S.below⟩
   · have f2 : decide (boxes > 64) = false:=decide_eq_false h2
     go_enter Tryz.func27,Tryz.ntmps27
     go_wp2_with first | ((with_reducible apply wps_boxa (E:=147) S);(case hx=>rfl);clear S;intro bX wz S)
     (try simp only [Exit.inBlock,Exit.then]);refine bodyPost_ret (results2 rfl (res_tmp rfl) (res_tmp rfl)) rfl ?_
     replace S:=S.nil 100 pkcell 14
     exact .inr ⟨⟨by omega,by omega⟩,bX,rfl,net_close (S.pick [1,0] rfl)⟩
def boxB (n no : Int) : Bool:=decide (0 ≤ no ∧ no < n)
theorem netbox_calls (X : Nat) (n : NetE) (v : Value) (no : Int) (w : World) (F : Nat → Prop) (h : (Blk true X #[.int .i64 n.boxes,.int .i64 n.next,v] 147).at_ w F) : Calls Tryz.prog 128 #[.pointer (some ⟨X,0,none⟩),.int .i64 no] w fun e w'=>e = .returned (.bool (boxB n.boxes no)) ∧ Below w.heap.size w w':=by
 have S : St (fun _=>False) w w [Blk true X #[.int .i64 n.boxes,.int .i64 n.next,v] 147]:=(St.init _ w).share rfl rfl h
 clear h
 by_cases h1 : no ≥ 0
 · have f1 : decide (no ≥ 0) = true:=decide_eq_true h1
   go_enter Tryz.func128,Tryz.ntmps128
   go_wp2_with first | ((with_reducible apply wps_load S 0);(case hx|hi|hu=>rfl);(case hT=>decide +kernel))
   go_ret
   exact ⟨ret_bool (by unfold boxB;rw [Bool.eq_iff_iff];simp;omega),S.below⟩
 · have f1 : decide (no ≥ 0) = false:=decide_eq_false h1
   go_enter Tryz.func128,Tryz.ntmps128
   go_wp2_with first | ((with_reducible apply wps_load S 0);(case hx|hi|hu=>rfl);(case hT=>decide +kernel))
   go_ret
   exact ⟨ret_bool (by unfold boxB;rw [Bool.eq_iff_iff];simp;omega),S.below⟩
end Go.Proofs.YtmjljoaakdocaaaGreatDoor
/- A part of a slice is taken out of it, in its place. Over any program. -/
namespace Go.Proofs.YtmjljoaakdocaaaGreatDoor.Mem
open Go Go.RowKit Reg
open List (set_cons_succ set_cons_zero setIfInBounds_toArray cons_append nil_append)
section
variable {P : Program} {ops : Array Oper} {rest : List Oper} {a : Act} {Q : Exit → Act → World → Prop} {d : Option Tmp} {tt : TypeId} {p : String} {af : Array Edge} {gd : Option (Nat × Bool)} {x y : Operand}
variable {G : Nat → Prop} {w0 w w' : World} {L : List Asn}
theorem run_sl3 {T E : TypeId} {k : Nat} (hT : P.underlying T = some (.slice E)) (hE : (sizeOf E).run P w = .ok k w) (ad : Option Addr) (n c l u m : Nat) (h1 : l ≤ u) (h2 : u ≤ m) (h3 : m ≤ c) :
 (Instr.sliceAt T (.slice ad n c) (some (.int .i64 l)) (some (.int .i64 u)) (some (.int .i64 m))).run P w = .ok (.slice (if m = l then ad else ad.map (·.add (l * k))) (u - l) (m - l)) w:=by
 have g1 : ¬ u < l:=by omega
 have g2 : ¬ m < u:=by omega
 have g3 : ¬ c < m:=by omega
 unfold Instr.sliceAt
 simp [Instr.slice,run_underlying hT,Instr.sliceBounds,Instr.sliceBound,asIntOf,hE,h1,h2,h3]
theorem wps_sl3 {T E : TypeId} {k n c l u m : Nat} {ad : Option Addr} {lo hi' mx : Operand} (hT : P.underlying T = some (.slice E)) (hE : ∀ w,(sizeOf E).run P w = .ok k w) (hx : a.eval x = .slice ad n c)
 (hlo : a.eval lo = .int .i64 l) (hhi : a.eval hi' = .int .i64 u) (hmx : a.eval mx = .int .i64 m) (h1 : l ≤ u) (h2 : u ≤ m) (h3 : m ≤ c)
 (next : ∀ v,wpList P ops Q rest (a.put d v) w) (hgd : gOk gd ops a = true:=by with_unfolding_all rfl) :
 wpList P ops Q ({ dst:=d,op:=.slice T x (some lo) (some hi') (some mx),type:=tt,pos:=p,after:=af,guard:=gd } :: rest) a w:=
 wpList_ok hgd fun K hK=>by
  have hr:=run_sl3 (P:=P) (w:=w) hT (hE w) ad n c l u m h1 h2 h3
  unfold Oper.wp execOp
  simp only [Option.map_some,hx,hlo,hhi,hmx,hr,Sem.run_bind,Sem.run_pure,Result.andThen_ok]
  exact hK _ _ (next _)
theorem St.cutOwn {α : Type} {E : TypeId} {enc : α → List Value} {k R n c : Nat} {xs : List α} (S : St G w0 w L) (hk : ∀ x,(enc x).length = k) (i : Nat) (hi : L[i]? = some (Own E enc k (.slice (some ⟨R,0,none⟩) n c) xs)) (u : Nat) (h1 : u ≤ xs.length) :
 St G w0 w (L.set i (Own E enc k (.slice (some ⟨R,0,none⟩) u c) (xs.take u))):=
 S.weak hi (fun _=>rfl) fun F hF=>⟨F,fun _ hb=>hb,by
  obtain ⟨cur,hO,hn⟩:=own_at hF
  have:=(hO.cut hk u h1).own hk
  rwa [show (xs.take u).length = u by rw [List.length_take];omega] at this,fun x=>by rw [hF.2 x];rfl⟩
theorem wps_appendin {T E : TypeId} {k bytes R o2 u c m c2 : Nat} {cur : Array Value} (el : Elem P T E k bytes) (S : St G w0 w L) (i : Nat) (hi : L[i]? = some (Blk false R cur E)) (us : List Value) (nn : Nat)
 (hx : a.eval x = .slice (some ⟨R,0,none⟩) u c) (hy : a.eval y = .slice (some ⟨R,o2,none⟩) m c2) (hn : us.length = m * k) (hsrc : ∀ q v,us[q]? = some v → cur[o2 + q]? = some v) (hnn : nn = u + m) (hroom : u + m ≤ c) (hfit : u * k + us.length ≤ cur.size) (h1 : ∀ v ∈ us,v.oneCell' = true)
 (next : ∀ w',St G w0 w' (L.set i (Blk false R (splice cur (u * k) us) E)) → wpList P ops Q rest (a.put d (.slice (some ⟨R,0,none⟩) nn c)) w') (hgd : gOk gd ops a = true:=by with_unfolding_all rfl) :
 wpList P ops Q ({ dst:=d,op:=.call { callee:=.builtin .append,args:=#[x,y],argTypes:=#[T,T] },type:=tt,pos:=p,after:=af,guard:=gd } :: rest) a w:=
 wpList_ok hgd fun K hK=>by
  subst hnn
  obtain ⟨ei,z,ht,hei,hez,hs,hbb,hzs,hpos⟩:=el
  subst hs
  have hb:=S.blk i hi
  have hl:=run_loadCells (P:=P) R o2 w us 0 #[] (fun j v hj=>by rw [Nat.add_zero,cell_of hb];exact hsrc j v hj)
  have hl2 : (Builtin.firstCells ei.size m (.slice (some ⟨R,o2,none⟩) m c2)).run P w = .ok us.toArray w:=by
   unfold Builtin.firstCells loadCells;rw [← hn];simpa using hl
  have hst:=run_storeCells_at P R (u * ei.size) E us 0 cur w hb (by simpa using hfit) h1
  simp only [Nat.add_zero] at hst
  have hr : (Builtin.append_ #[T,T] tt #[.slice (some ⟨R,0,none⟩) u c,.slice (some ⟨R,o2,none⟩) m c2]).run P w = .ok (.slice (some ⟨R,0,none⟩) (u + m) c) (w.setRow R (splice cur (u * ei.size) us)):=by
   simp [Builtin.append_,run_underlying ht,sizeOf,typeInfo,hei,Builtin.lenOf,hroom,hl2,add_none,hst]
   unfold splice;rw [List.append_assoc]
  unfold Oper.wp execOp
  simp only [resolve,invoke,builtin,Sem.run_bind,Sem.run_pure,Result.andThen_ok,List.map_toArray,List.map_cons,List.map_nil,hx,hy,hr]
  exact hK _ _ (next _ (S.step hi rfl fun F hF=>⟨F,setRow_keep.mono (fun z _ hn e=>hn ((hF.2 z).2 e)),⟨setRow_heap w R cur _ E _ hb,hF.2⟩,fun _ h=>.inl h⟩))
theorem wps_append0 {T E : TypeId} {k bytes u c m c2 : Nat} {ad ay : Option Addr} (el : Elem P T E k bytes)
 (hx : a.eval x = .slice ad u c) (hy : a.eval y = .slice ay m c2) (hm : m = 0) (hroom : u ≤ c)
 (next : wpList P ops Q rest (a.put d (.slice ad u c)) w) (hgd : gOk gd ops a = true:=by with_unfolding_all rfl) :
 wpList P ops Q ({ dst:=d,op:=.call { callee:=.builtin .append,args:=#[x,y],argTypes:=#[T,T] },type:=tt,pos:=p,after:=af,guard:=gd } :: rest) a w:=
 wpList_ok hgd fun K hK=>by
  subst hm
  obtain ⟨ei,z,ht,hei,hez,hs,hbb,hzs,hpos⟩:=el
  have hl : (Builtin.firstCells ei.size 0 (.slice ay 0 c2)).run P w = .ok #[] w:=by
   cases ay <;> simp [Builtin.firstCells,loadCells,loadCellsFrom]
  have hr : (Builtin.append_ #[T,T] tt #[.slice ad u c,.slice ay 0 c2]).run P w = .ok (.slice ad u c) w:=by
   cases ad <;> simp [Builtin.append_,run_underlying ht,sizeOf,typeInfo,hei,Builtin.lenOf,hroom,hl,storeCells]
  unfold Oper.wp execOp
  simp only [resolve,invoke,builtin,Sem.run_bind,Sem.run_pure,Result.andThen_ok,List.map_toArray,List.map_cons,List.map_nil,hx,hy,hr]
  exact hK _ _ next
end
section
variable {α : Type} {enc : α → List Value} {k : Nat}
theorem splice_del (hk : ∀ x,(enc x).length = k) {cur : Array Value} {xs : List α} {n i j : Nat} (hn : n = xs.length) (hij : i ≤ j) (hj : j ≤ n) (hs : n * k ≤ cur.size) (ht : cur.toList.take (n * k) = flatE enc xs) :
 (splice cur (i * k) (flatE enc (xs.drop j))).toList.take (n * k) = flatE enc (xs.take i ++ xs.drop j ++ xs.drop (i + (n - j))) ∧ (splice cur (i * k) (flatE enc (xs.drop j))).size = cur.size:=by
 subst hn
 obtain ⟨d,rfl⟩ : ∃ d,j = i + d:=⟨j - i,by omega⟩
 obtain ⟨m,hm⟩ : ∃ m,xs.length = i + d + m:=⟨xs.length - (i + d),by omega⟩
 have hd : (flatE enc (xs.drop (i + d))).length = m * k:=by rw [flatE_length hk,List.length_drop,hm];congr 1;omega
 have e0 : i + (xs.length - (i + d)) = i + m:=by omega
 rw [e0]
 have hnk : xs.length * k = i * k + d * k + m * k:=by rw [hm,Nat.add_mul,Nat.add_mul]
 have him : (i + m) * k = i * k + m * k:=Nat.add_mul ..
 have hcl : cur.toList.length = cur.size:=Array.length_toList
 have ht1 : cur.toList.take (i * k) = flatE enc (xs.take i):=by
  rw [flatE_take hk,← ht,List.take_take,Nat.min_eq_left (by omega)]
 have ht2 : (cur.toList.drop (i * k + m * k)).take (d * k) = flatE enc (xs.drop (i + m)):=by
  have e1 : flatE enc xs = flatE enc (xs.take (i + m)) ++ flatE enc (xs.drop (i + m)):=by rw [← flatE_append,List.take_append_drop]
  have l1 : (flatE enc (xs.take (i + m))).length = i * k + m * k:=by rw [flatE_length hk,List.length_take,Nat.min_eq_left (by omega),him]
  have e2:=congrArg (List.drop (i * k + m * k)) (ht.trans e1)
  rw [List.drop_left' l1,List.drop_take] at e2
  rw [← e2]
  congr 1;omega
 refine ⟨?_,splice_size (by rw [hd];omega)⟩
 rw [splice_toList,hd,flatE_append,flatE_append,ht1,← ht2]
 have l2 : (flatE enc (xs.take i) ++ flatE enc (xs.drop (i + d))).length = i * k + m * k:=by
  rw [List.length_append,hd,flatE_length hk,List.length_take,Nat.min_eq_left (by omega)]
 rw [List.take_append,l2,List.take_of_length_le (by rw [l2];omega)]
 congr 2;omega
end
end Go.Proofs.YtmjljoaakdocaaaGreatDoor.Mem
/- The walks of slices.Delete and IndexFunc of packets; of the net's Take. -/
namespace Go.Proofs.YtmjljoaakdocaaaGreatDoor
open Go Go.RowKit Reg Mem
open List (set_cons_succ set_cons_zero setIfInBounds_toArray cons_append nil_append)
def pkz : PkE:=⟨0,0,0,⟨0,⟨⟨⟨0,0,0,0⟩,0,0,0⟩,false⟩,0,0⟩⟩
theorem zero_Pk : zeroIs Tryz.prog 100 14 (pkcell pkz):=⟨_,.agg #[.int .i64 0,.int .i64 0,.int .i64 0,.int .i64 0,.int .i64 0,.int .i64 0,.int .i64 0,.int .i64 0,.int .i64 0,.int .i64 0,.int .i64 0,.bool false,.int .i64 0,.int .i64 0],rfl,by kernel_rfl,by kernel_rfl,rfl,by decide⟩
theorem sizePk (w : World) : (sizeOf 100).run Tryz.prog w = .ok 14 w:=by kernel_rfl
def DelPPost (l : List PkE) (F : Nat → Prop) (w : World) (e : Ending) (w' : World) : Prop:=
 ∃ ad c,e = .returned (.slice ad l.length c) ∧ St F w w' [Mem.Own 100 pkcell 14 (.slice ad l.length c) l]
theorem own_fits {α : Type} {E : TypeId} {enc : α → List Value} {k : Nat} {v : Value} {l : List α} {G : Nat → Prop} {w0 w : World} {L : List Asn} (i : Nat) (S : St G w0 w L) (hi : L[i]? = some (Mem.Own E enc k v l)) : ∃ ad c,v = .slice ad l.length c ∧ l.length ≤ c ∧ (0 < l.length → ∃ R,ad = some ⟨R,0,none⟩):=by
 obtain ⟨F1,h1⟩:=S.get hi
 obtain ⟨a,c,e1⟩:=h1.1.form
 refine ⟨a,c,e1,?_,fun h0=>?_⟩
 · rcases h1.1.2 with ⟨h2,h3⟩ | ⟨g,cap,cur,h2,_,_,h4,_⟩
   · rw [e1] at h2;simp only [Value.slice.injEq] at h2;omega
   · rw [e1] at h2;simp only [Value.slice.injEq] at h2;omega
 · obtain ⟨R,c2,e2⟩:=own_hdE i S hi h0
   rw [e1] at e2
   simp only [Value.slice.injEq] at e2
   exact ⟨R,e2.1⟩
theorem delp_calls (v : Value) (l : List PkE) (i j : Nat) (w : World) (F : Nat → Prop) (S0 : St F w w [Mem.Own 100 pkcell 14 v l]) (hij : i ≤ j) (hj : j ≤ l.length) (hn : l.length ≤ 1000000) :
 Calls Tryz.prog 171 #[v,.int .i64 i,.int .i64 j] w (DelPPost (l.take i ++ l.drop j) F w):=by
 have S:=S0
 clear S0
 obtain ⟨ad,c,rfl,hlc,hR⟩:=own_fits 0 S rfl
 have hn2 : (l.length : Int) ≤ 1000000:=by omega
 rcases Nat.lt_or_eq_of_le hij with hlt | rfl
 · obtain ⟨R,rfl⟩:=hR (by omega)
   clear hR
   have hne : ((i : Int) == j) = false:=by simp;omega
   have hne2 : (i == j) = false:=by simp;omega
   obtain ⟨m,hm⟩ : ∃ m,m = i + (l.length - j):=⟨_,rfl⟩
   have hmi : (m : Int) ≤ l.length:=by omega
   have HLL : Hid ((l.take i ++ l.drop j).length = m):=Lib.hid (by rw [List.length_append,List.length_take,List.length_drop,hm,Nat.min_eq_left (by omega)])
   have HTK : Hid ((l.take i ++ l.drop j ++ l.drop m).take m = l.take i ++ l.drop j):=Lib.hid (List.take_left' HLL.out)
   rcases Nat.lt_or_eq_of_le hj with hjl | rfl
   · obtain ⟨cur,hcs,-,-,hcm,hct,S2⟩:=S.raw 0 rfl
     clear S
     have S:=S2
     clear S2
     simp only [set_cons_zero] at S
     obtain ⟨us,hus⟩ : ∃ us,flatE pkcell (l.drop j) = us:=⟨_,rfl⟩
     have HUL : Hid (us.length = (l.length - j) * 14):=Lib.hid (by rw [← hus,flatE_length pkcells,List.length_drop])
     have HUS : Hid (∀ (q : Nat) v,us[q]? = some v → cur[j * 14 + q]? = some v):=Lib.hid fun q v h=>flat_src pkcells hct q v (by rw [hus];exact h)
     have HU1 : Hid (∀ v ∈ us,v.oneCell' = true):=Lib.hid (by rw [← hus];exact flat_ones pkone)
     have HEND:=Lib.hid (splice_del (n:=l.length) (i:=i) (j:=j) pkcells rfl hij hj (by omega) hct)
     rw [hus,← hm] at HEND
     have HFIT : Hid (i * 14 + us.length ≤ cur.size):=Lib.hid (by rw [HUL.out];omega)
     have HL3 : Hid (l.length = (l.take i ++ l.drop j ++ l.drop m).length):=Lib.hid (by rw [List.length_append,HLL.out,List.length_drop];omega)
     have hml : m < l.length:=by omega
     have HM:=Lib.hid hm
     have HRM : Hid (i + (l.length - j) ≤ c):=Lib.hid (by omega)
     have Hcs:=Lib.hid hcs
     have Hcm:=Lib.hid hcm
     have Hct:=Lib.hid hct
     have Hus:=Lib.hid hus
     clear hcs hcm hct hus
     clear hm
     go_enter Tryz.func171,Tryz.ntmps171
     go_wp2_with first | ((with_reducible apply wps_sl3 Tryz.underlying145 sizePk (n:=l.length) (c:=c) (l:=i) (u:=j) (m:=l.length));(case hx|hlo|hhi|hmx=>rfl);(case h1|h2=>omega);(case h3=>exact hlc);intro vz) | ((with_reducible apply wps_slv Tryz.underlying145 sizePk (n:=l.length) (c:=c) (l:=0) (u:=i));(case hx=>rfl);(case hlo=>exact .inl ⟨rfl,rfl⟩);(case hhi=>exact .inr rfl);(case h1|h2|h3=>omega)) | ((with_reducible apply wps_slv Tryz.underlying145 sizePk (n:=l.length) (c:=c) (l:=j) (u:=l.length));(case hx=>rfl);(case hlo=>exact .inr rfl);(case hhi=>exact .inl ⟨rfl,rfl⟩);(case h1=>omega);(case h2=>exact hlc);(case h3=>omega)) | ((with_reducible apply wps_appendin elem_Pk S 0 rfl us m (u:=i) (m:=l.length - j) (o2:=j * 14) (c:=c));(case hx|hy=>rfl);(case hn=>exact HUL.out);(case hsrc=>exact HUS.out);(case hnn=>exact HM.out);(case hroom=>exact HRM.out);(case hfit=>exact HFIT.out);(case h1=>exact HU1.out);clear S;intro wz S;simp only [set_cons_zero] at S;replace S:=S.unraw (n:=l.length) (c:=c) (xs:=l.take i ++ l.drop j ++ l.drop m) pkcells 0 rfl (by rw [HEND.out.2];exact Hcs.out) HL3.out hlc Hcm.out HEND.out.1;simp only [set_cons_zero] at S) | ((with_reducible apply wps_slv Tryz.underlying145 sizePk (n:=m) (c:=c) (l:=m) (u:=l.length));(case hx=>rfl);(case hlo|hhi=>exact .inr rfl);(case h1=>omega);(case h2=>exact hlc);(case h3=>omega)) | ((with_reducible apply wps_clearTail elem_Pk pkcells pkone pkz zero_Pk S 0 (o:=m * 14) (m:=m) (q:=l.length - m));(case hx|hi|ho=>rfl);(case hm=>rw [← HL3.out];omega);(case h0=>omega);clear S;intro wz S;simp only [set_cons_zero] at S) | ((with_reducible refine tot_done ?ht ?_);(case ht=>kernel_rfl)) | ((with_reducible apply wps_text S);(case hm=>kernel_rfl);(case hB=>decide +kernel);clear S;intro wz S)
     go_ret
     replace S:=S.cutOwn pkcells 0 rfl m (by rw [List.length_append,HTK.out,HLL.out];omega)
     rw [HTK.out,List.take_left' HLL.out] at S
     exact ⟨some ⟨R,0,none⟩,c,by rw [HLL.out];rfl,by rw [HLL.out];exact S.pick [0] rfl⟩
   · rw [List.drop_length,List.append_nil]
     obtain rfl : m = i:=by omega
     have HTL : Hid ((l.take m).length = m):=Lib.hid (by rw [List.length_take];omega)
     have HTT : Hid (((l.take m ++ List.replicate (l.length - m) pkz).take m) = l.take m):=Lib.hid (List.take_left' HTL.out)
     clear HTK HLL hm
     go_enter Tryz.func171,Tryz.ntmps171
     go_wp2_with first | ((with_reducible apply wps_sl3 Tryz.underlying145 sizePk (n:=l.length) (c:=c) (l:=m) (u:=l.length) (m:=l.length));(case hx|hlo|hhi|hmx=>rfl);(case h1|h2=>omega);(case h3=>exact hlc);intro vz) | ((with_reducible apply wps_slv Tryz.underlying145 sizePk (n:=l.length) (c:=c) (l:=0) (u:=m));(case hx=>rfl);(case hlo=>exact .inl ⟨rfl,rfl⟩);(case hhi=>exact .inr rfl);(case h1|h2|h3=>omega)) | ((with_reducible apply wps_slany Tryz.underlying145 sizePk (n:=l.length) (c:=c) (l:=l.length) (u:=l.length));(case hx=>rfl);(case hlo=>exact .inr rfl);(case hhi=>exact .inl ⟨rfl,rfl⟩);(case h1=>omega);(case h2=>exact hlc);intro adz) | ((with_reducible apply wps_append0 elem_Pk (u:=m) (c:=c));(case hx|hy=>rfl);(case hm=>exact Nat.sub_self _);(case hroom=>omega)) | ((with_reducible apply wps_slv Tryz.underlying145 sizePk (n:=m) (c:=c) (l:=m) (u:=l.length));(case hx=>rfl);(case hlo|hhi=>exact .inr rfl);(case h1=>omega);(case h2=>exact hlc);(case h3=>omega)) | ((with_reducible apply wps_clearTail elem_Pk pkcells pkone pkz zero_Pk S 0 (o:=m * 14) (m:=m) (q:=l.length - m));(case hx|hi|ho=>rfl);(case hm|h0=>omega);clear S;intro wz S;simp only [set_cons_zero] at S) | ((with_reducible refine tot_done ?ht ?_);(case ht=>kernel_rfl)) | ((with_reducible apply wps_text S);(case hm=>kernel_rfl);(case hB=>decide +kernel);clear S;intro wz S)
     go_ret
     replace S:=S.cutOwn pkcells 0 rfl m (by rw [List.length_append,HTL.out];omega)
     rw [HTT.out] at S
     exact ⟨some ⟨R,0,none⟩,c,by rw [HTL.out];rfl,by rw [HTL.out];exact S.pick [0] rfl⟩
 · clear hR
   rw [List.take_append_drop]
   have hil : (i : Int) ≤ l.length:=by omega
   go_enter Tryz.func171,Tryz.ntmps171
   go_wp2_with first | ((with_reducible apply wps_sl3 Tryz.underlying145 sizePk (n:=l.length) (c:=c) (l:=i) (u:=i) (m:=l.length));(case hx|hlo|hhi|hmx=>rfl);(case h1|h2=>omega);(case h3=>exact hlc);intro vz)
   go_ret
   exact ⟨ad,c,rfl,S.pick [0] rfl⟩
theorem take1_calls (b3 : Nat) (no : Int) (x : PkE) (w : World) (F : Nat → Prop) (h : (Blk true b3 #[.int .i64 no] 3).at_ w F) :
 Calls Tryz.prog 170 #[.agg #[.int .i64 x.no,.int .i64 x.from_,.int .i64 x.to_,.int .i64 x.x.kind,.int .i64 x.x.m.ev.key.at_,.int .i64 x.x.m.ev.key.src,.int .i64 x.x.m.ev.key.sent,.int .i64 x.x.m.ev.key.no,.int .i64 x.x.m.ev.dst,.int .i64 x.x.m.ev.kind,.int .i64 x.x.m.ev.data,.bool x.x.m.anti,.int .i64 x.x.no,.int .i64 x.x.at_],.pointer (some ⟨b3,0,none⟩)] w fun e w'=>e = .returned (.bool (x.no == no)) ∧ Below w.heap.size w w':=by
 have S : St (fun _=>False) w w [Blk true b3 #[.int .i64 no] 3]:=(St.init _ w).share rfl rfl h
 clear h
 go_enter Tryz.func170,Tryz.ntmps170
 go_wp2_with first | ((with_reducible apply wps_boxa (E:=100) S);(case hx=>rfl);clear S;intro b2 wz S) | ((with_reducible apply wps_load S 0);(case hx|hi|hu=>rfl);(case hT=>decide +kernel)) | ((with_reducible apply wps_load S 1);(case hx|hi|hu=>rfl);(case hT=>decide +kernel))
 go_ret
 exact ⟨rfl,S.below⟩
def IxRel (L : List Asn) (l : List PkE) (i : Nat) (w : World) (iv : Value) (wr : World) : Prop:=
 ∃ j : Nat,j ≤ i ∧ iv = .int .i64 j ∧ St (fun _=>False) w wr L
theorem idxp_calls (b3 : Nat) (v : Value) (l : List PkE) (i : Nat) (x : PkE) (hx : l[i]? = some x) (hfi : ∀ (q : Nat) y,q < i → l[q]? = some y → y.no ≠ x.no) (w : World) (F F2 : Nat → Prop) (h : (Sl true pkcell 14 v l).at_ w F) (h2 : (Blk true b3 #[.int .i64 x.no] 3).at_ w F2) (hn : l.length ≤ 1000000) :
 Calls Tryz.prog 169 #[v,.func (.func 170) #[] #[.pointer (some ⟨b3,0,none⟩)]] w fun e w'=>e = .returned (.int .i64 i) ∧ Below w.heap.size w w':=by
 have S : St (fun _=>False) w w [Sl true pkcell 14 v l,Blk true b3 #[.int .i64 x.no] 3]:=((St.init _ w).share rfl rfl h2).share (A:=Sl true pkcell 14 v l) rfl rfl h
 clear h h2
 obtain ⟨ad,c,rfl,_⟩:=(S.sl 0 rfl).elim fun _ h=>h.form
 have hil : i < l.length:=(List.getElem?_eq_some_iff.1 hx).1
 obtain ⟨R,o,rfl⟩ : ∃ R o,ad = some ⟨R,o,none⟩:=(S.sl 0 rfl).elim fun F h=>h.head (by omega)
 have hn2 : (l.length : Int) ≤ 1000000:=by omega
 have HX:=Lib.hid hx
 have HF:=Lib.hid hfi
 clear hx hfi
 go_enter Tryz.func169,Tryz.ntmps169
 go_wp2_with first | ((with_reducible apply wps_loada (T:=100) (k:=14) S 0);(case hx|hi=>rfl);(case hk=>exact nle rfl);(case hT=>decide +kernel))
 go_loopw [8] (fun iv wr=>IxRel [Sl true pkcell 14 (.slice (some ⟨R,o,none⟩) l.length c) l,Blk true b3 #[.int .i64 x.no] 3] l i w iv wr) (fun iv _=>l.length - (intOf iv).toNat)
 case atStart=>exact ⟨0,Nat.zero_le _,rfl,S⟩
 case round=>
  clear S
  obtain ⟨j,hj,rfl,S⟩:=hrel
  obtain ⟨y,hy⟩ : ∃ y,l[j]? = some y:=⟨_,List.getElem?_eq_getElem (by omega)⟩
  have hlt2 : (j : Int) < l.length:=by omega
  have HY:=Lib.hid hy
  have HH:=Lib.hid fun w F h=>take1_calls b3 x.no y w F h
  rcases Nat.lt_or_eq_of_le hj with hji | rfl
  · have hne : (y.no == x.no) = false:=by simpa using HF.out j y hji hy
    rw [hne] at HH
    clear hy hne
    go_wp2_with first | ((with_reducible apply wps_loada_el S 0 (hj:=HY.out) (q:=0) (vs:=[.int .i64 y.no,.int .i64 y.from_,.int .i64 y.to_,.int .i64 y.x.kind,.int .i64 y.x.m.ev.key.at_,.int .i64 y.x.m.ev.key.src,.int .i64 y.x.m.ev.key.sent,.int .i64 y.x.m.ev.key.no,.int .i64 y.x.m.ev.dst,.int .i64 y.x.m.ev.kind,.int .i64 y.x.m.ev.data,.bool y.x.m.anti,.int .i64 y.x.no,.int .i64 y.x.at_]) (m:=14));(case hx|hi=>rfl);(case hn=>omega);(case hm|hv=>rfl);(case hT=>decide +kernel)) | (go_at_call 170;refine Calls.mono (HH.out _ _ (S.get (i:=1) rfl).choose_spec) ?_;rintro e wz ⟨rfl,hE⟩;replace S:=S.ext (Keep.of_below hE);clear hE)
    go_roundw
    case rel=>exact ⟨j + 1,by omega,by go_num,S⟩
    case measure=>first | (simp [intOf];done) | (simp [intOf];omega)
  · obtain rfl : y = x:=by have:=HX.out;rw [hy] at this;exact Option.some.inj this
    have hne : (y.no == y.no) = true:=by simp
    rw [hne] at HH
    clear hy hne
    go_wp2_with first | ((with_reducible apply wps_loada_el S 0 (hj:=HY.out) (q:=0) (vs:=[.int .i64 y.no,.int .i64 y.from_,.int .i64 y.to_,.int .i64 y.x.kind,.int .i64 y.x.m.ev.key.at_,.int .i64 y.x.m.ev.key.src,.int .i64 y.x.m.ev.key.sent,.int .i64 y.x.m.ev.key.no,.int .i64 y.x.m.ev.dst,.int .i64 y.x.m.ev.kind,.int .i64 y.x.m.ev.data,.bool y.x.m.anti,.int .i64 y.x.no,.int .i64 y.x.at_]) (m:=14));(case hx|hi=>rfl);(case hn=>omega);(case hm|hv=>rfl);(case hT=>decide +kernel)) | (go_at_call 170;refine Calls.mono (HH.out _ _ (S.get (i:=1) rfl).choose_spec) ?_;rintro e wz ⟨rfl,hE⟩;replace S:=S.ext (Keep.of_below hE);clear hE)
    go_ret
    exact ⟨rfl,S.below⟩
theorem nettake_calls (X : Nat) (n : NetE) (i : Nat) (x : PkE) (wy : List PkE) (hx : n.way[i]? = some x) (hfi : ∀ (q : Nat) y,q < i → n.way[q]? = some y → y.no ≠ x.no) (hwy : n.way.take i ++ n.way.drop (i + 1) = wy) (hn : n.way.length ≤ 1000000) (w : World) (F : Nat → Prop) (S0 : St F w w [netA X n]) :
 Calls Tryz.prog 129 #[.pointer (some ⟨X,0,none⟩),.int .i64 x.no] w fun e w'=>e = .returned (.tuple #[.agg #[.int .i64 x.no,.int .i64 x.from_,.int .i64 x.to_,.int .i64 x.x.kind,.int .i64 x.x.m.ev.key.at_,.int .i64 x.x.m.ev.key.src,.int .i64 x.x.m.ev.key.sent,.int .i64 x.x.m.ev.key.no,.int .i64 x.x.m.ev.dst,.int .i64 x.x.m.ev.kind,.int .i64 x.x.m.ev.data,.bool x.x.m.anti,.int .i64 x.x.no,.int .i64 x.x.at_],.int .i64 0]) ∧ St F w w' [netA X ⟨n.boxes,n.next,wy⟩]:=by
 obtain ⟨v,S⟩:=net_open S0
 clear S0
 have hil : i < n.way.length:=(List.getElem?_eq_some_iff.1 hx).1
 have HI:=Lib.hid fun b3 v w F F2 h h2=>idxp_calls b3 v n.way i x hx hfi w F F2 h h2 hn
 have HD:=Lib.hid fun v w F S0=>delp_calls v n.way i (i + 1) w F S0 (by omega) (by omega) hn
 rw [hwy,show ((i + 1 : Nat) : Int) = (i : Int) + 1 from by omega] at HD
 have HX:=Lib.hid hx
 have hi2 : (i : Int) < n.way.length:=by omega
 have hi3 : (i : Int) < 1000000:=by omega
 have hi4 : decide ((i : Int) < 0) = false:=decide_eq_false (by omega)
 clear hx hfi hwy
 obtain ⟨ad,c,rfl,_,hR⟩:=own_fits 1 S rfl
 obtain ⟨R,rfl⟩:=hR (by omega)
 clear hR
 go_enter Tryz.func129,Tryz.ntmps129
 go_wp2_with first | ((with_reducible apply wps_box1 (v:=.int _ x.no) S);(case hx|h1=>rfl);clear S;intro b3 wz S) | ((with_reducible apply wps_alloca (E:=100) S);(case hz=>exact Tryz.zeroValue100);clear S;intro b4 wz S) | ((with_reducible apply wps_load S 2);(case hx|hi|hu=>rfl);(case hT=>decide +kernel)) | (go_at_call 169;refine Calls.mono (HI.out b3 _ _ _ _ (own_sl (sh:=true) pkcells (S.get (i:=3) rfl).choose_spec) (S.get (i:=1) rfl).choose_spec) ?_;rintro e wz ⟨rfl,hE⟩;replace S:=S.ext (Keep.of_below hE);clear hE) | ((with_reducible apply wps_loada_own pkcells S 3 (hj:=HX.out) (q:=0) (vs:=[.int .i64 x.no,.int .i64 x.from_,.int .i64 x.to_,.int .i64 x.x.kind,.int .i64 x.x.m.ev.key.at_,.int .i64 x.x.m.ev.key.src,.int .i64 x.x.m.ev.key.sent,.int .i64 x.x.m.ev.key.no,.int .i64 x.x.m.ev.dst,.int .i64 x.x.m.ev.kind,.int .i64 x.x.m.ev.data,.bool x.x.m.anti,.int .i64 x.x.no,.int .i64 x.x.at_]) (m:=14));(case hx|hi=>rfl);(case hn=>omega);(case hm|hv=>rfl);(case hT=>decide +kernel)) | ((with_reducible apply wps_storea (T:=100) S 0 (vs:=[.int .i64 x.no,.int .i64 x.from_,.int .i64 x.to_,.int .i64 x.x.kind,.int .i64 x.x.m.ev.key.at_,.int .i64 x.x.m.ev.key.src,.int .i64 x.x.m.ev.key.sent,.int .i64 x.x.m.ev.key.no,.int .i64 x.x.m.ev.dst,.int .i64 x.x.m.ev.kind,.int .i64 x.x.m.ev.data,.bool x.x.m.anti,.int .i64 x.x.no,.int .i64 x.x.at_]) (m:=14));(case hx|hy|hi|hm|h1=>rfl);(case hn=>exact nle rfl);(case hT=>decide +kernel);clear S;intro wz S;simp only [set_cons_zero,set_cons_succ,setAll,setIfInBounds_toArray] at S) | ((with_reducible apply wps_load S 3);(case hx|hi|hu=>rfl);(case hT=>decide +kernel)) | (go_at_call 171;obtain ⟨Fz,hF,hBk⟩:=S.lend [4] [] [0,1,2,3] rfl rfl rfl;simp only [cons_append,nil_append,pick,nth] at hF hBk;refine Calls.mono (HD.out _ _ _ hF) ?_;rintro rr wz ⟨a2,c2,rfl,T⟩;replace S:=hBk _ _ T rfl;clear hBk hF T;simp only [cons_append,nil_append] at S) | ((with_reducible apply wps_store (u:=(.slice a2 wy.length c2)) S 4);(case hx|hy|hi|h1=>rfl);(case hn=>exact nle rfl);(case hT=>decide +kernel);clear S;intro wz S;simp only [set_cons_succ,set_cons_zero,setIfInBounds_toArray] at S) | ((with_reducible apply wps_loada (T:=100) (k:=14) S 1);(case hx|hi=>rfl);(case hk=>exact nle rfl);(case hT=>decide +kernel)) | ((with_reducible apply wps_storea (T:=100) S 2 (vs:=[.int .i64 x.no,.int .i64 x.from_,.int .i64 x.to_,.int .i64 x.x.kind,.int .i64 x.x.m.ev.key.at_,.int .i64 x.x.m.ev.key.src,.int .i64 x.x.m.ev.key.sent,.int .i64 x.x.m.ev.key.no,.int .i64 x.x.m.ev.dst,.int .i64 x.x.m.ev.kind,.int .i64 x.x.m.ev.data,.bool x.x.m.anti,.int .i64 x.x.no,.int .i64 x.x.at_]) (m:=14));(case hx|hy|hi|hm|h1=>rfl);(case hn=>exact nle rfl);(case hT=>decide +kernel);clear S;intro wz S;simp only [set_cons_zero,set_cons_succ,setAll,setIfInBounds_toArray] at S)
 (try simp only [Exit.inBlock,Exit.then]);refine bodyPost_ret (results2 rfl (S.resA 2 rfl rfl (by kernel_rfl)) (res_tmp rfl)) rfl ?_
 exact ⟨rfl,net_close (n:=⟨n.boxes,n.next,wy⟩) (S.pick [4,0] rfl)⟩
end Go.Proofs.YtmjljoaakdocaaaGreatDoor
