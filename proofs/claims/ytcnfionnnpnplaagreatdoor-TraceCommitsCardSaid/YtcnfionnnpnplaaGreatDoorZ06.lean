import Derived.Test.YtcnfionnnpnplaaGreatDoorTie
import Derived.Test.YtcnfionnnpnplaaGreatDoorCards
import Derived.Test.YtcnfionnnpnplaaGreatDoorZ01
import Derived.Test.YtcnfionnnpnplaaGreatDoorZ04
import Derived.Test.YtcnfionnnpnplaaGreatDoorZ05
import Derived.MakeChecks
import Derived.LaidMore
import Derived.Stop.Joined
import Derived.SevenTiedAt
import Derived.Sort.Statements
/- The table of ops, as the row's condition has it; and that the program's own door meets the condition. -/
set_option maxHeartbeats 16000000
set_option maxRecDepth 100000
namespace Go.Proofs.YtcnfionnnpnplaaGreatDoor
open Go Go.ChangeShapes Go.WideShapes Go.ChangeAt Go.RowKit Mem
open List (set_cons_succ set_cons_zero setIfInBounds_toArray cons_append nil_append)
def tabLaid : List (String × DataW Unit) := [("boomerang/code.table", Rows.laid_boomerang_code_table)]
theorem door_met (os : Os) (args : Array Value) : laidMetH Tryz.prog tabLaid ((World.doorLaid Tryz.prog 59 os).forCall (fun _ _=>0) ⟨#[],args,[]⟩).memory:=
 laidMetH_of_parts3 (fuel:=8) (laidMet_of_run' 8 (by kernel_rfl) (by kernel_rfl)) (by kernel_rfl) (by kernel_rfl)
theorem gTable : Tryz.prog.globalNamed "boomerang/code.table" = some 0 := by kernel_rfl
theorem tTable : (Tryz.prog.globals[0]?).map (·.type) = some 228:=by kernel_rfl
theorem lay_some {P : Program} {t : TypeId} (h : (lay P 100 t).isSome = true) (h2 : P.cellsOf t = ((lay P 100 t).getD []).length) : ∃ ks,lay P 100 t = some ks ∧ P.cellsOf t = ks.length:=by
 obtain ⟨ks,hk⟩:=Option.isSome_iff_exists.1 h
 exact ⟨ks,hk,by rw [h2,hk];rfl⟩
theorem tab_of_laid {W : World} (h : laidMetH Tryz.prog tabLaid W) : Tab.at_ W (fun b=>b = 0):=by
 rw [MakeChecks.laidMetH_plain _ _ _ (by kernel_rfl)] at h
 obtain ⟨ps,⟨g0,t0,cs0,f0,p0,q0,hg0,ht0,hv0,hd0,_⟩,_⟩:=h
 obtain rfl:=Option.some.inj (gTable.symm.trans hg0)
 obtain rfl:=Option.some.inj (tTable.symm.trans ht0)
 obtain ⟨ks,hk,hc⟩:=lay_some (P:=Tryz.prog) (t:=228) (by kernel_rfl) (by kernel_rfl)
 have e:=trod_cells 100 228 ks hk hc _ _ _ hd0
 have e2 : cellsD 100 (Rows.laid_boomerang_code_table : DataW Unit) = flatE About.cells table:=by kernel_rfl
 have e3 : cs0.toList = flatE About.cells table:=e.trans e2
 have hcell : ∀ i,W.cell? ⟨0,i,none⟩ = (flatE About.cells table)[i]?:=fun i=>by
  rw [World.var?_cell gTable hv0 i,← e3,Array.getElem?_toList]
 have acells : ∀ x : About,x.cells.length = 6:=fun _=>rfl
 refine ⟨⟨some ⟨0,0,none⟩,16,rfl,by rw [table_len];exact Nat.le_refl _,(fun h=>by cases h),fun i x hi=>⟨0,0,rfl,rfl,fun j u hj=>?_⟩⟩,fun b hb=>?_⟩
 · have hj6 : j < 6:=by rw [← acells x];exact (List.getElem?_eq_some_iff.1 hj).1
   rw [hcell,Nat.zero_add,flatE_get acells hi j hj6]
   exact hj
 · subst hb
   have h0:=hcell 0
   cases hz : W.heap[0]? with
   | none=>exfalso;simp only [World.cell?,hz] at h0;exact absurd h0 (by rw [flatE_get acells (i:=0) (x:=table[0]) rfl 0 (by decide)];simp [About.cells])
   | some o=>exact (Array.getElem?_eq_some_iff.1 hz).1
end Go.Proofs.YtcnfionnnpnplaaGreatDoor
/- Two things that are owned, as one; a new model out of its parts. -/
namespace Go.Proofs.YtcnfionnnpnplaaGreatDoor
open Go Go.RowKit Mem
open List (set_cons_succ set_cons_zero setIfInBounds_toArray cons_append nil_append)
theorem loc_of {A : Asn} {w w' : World} {F F1 : Nat → Prop} (h : A.at_ w F1) (hF : ∀ b,F1 b → F b) (hb : ∀ b,F b → w'.heap[b]? = w.heap[b]?) : A.at_ w' F1:=A.loc h fun b h=>hb b (hF b h)
def Both (A B : Asn) : Asn where
 sh:=false
 at_ w F:=∃ F1 F2,A.at_ w F1 ∧ B.at_ w F2 ∧ ∀ b,F b ↔ F1 b ∨ F2 b
 loc h hb:=let ⟨F1,F2,h1,h2,h3⟩:=h;⟨F1,F2,loc_of h1 (fun b h=>(h3 b).2 (.inl h)) hb,loc_of h2 (fun b h=>(h3 b).2 (.inr h)) hb,h3⟩
 lt h b hb:=let ⟨_,_,h1,h2,h3⟩:=h;((h3 b).1 hb).elim (A.lt h1 b) (B.lt h2 b)
section
variable {G : Nat → Prop} {w0 w : World} {L : List Asn} {A B : Asn}
theorem Mem.St.both (S : St G w0 w (A :: B :: L)) (hA : A.sh = false) (hB : B.sh = false) : St G w0 w (Both A B :: L):=
 S.merge _ hA hB rfl fun F F' h h'=>⟨F,F',h,h',fun _=>Iff.rfl⟩
theorem Mem.St.modNew {T : TypeId} {R : Nat} {vP vL vS : Value} {hs : List Value} {ps : List (List Instr)} {ls : List Place} {ss : List Start} {fin fuel fan : Int}
 (S : St G w0 w (Blk false R #[vP,vL,vS,.int .i64 fin,.int .i64 fuel,.int .i64 fan] T :: Sl false vcell 1 vP hs :: Sl false Place.cells 5 vL ls :: Sl false Start.cells 4 vS ss :: Sls false Instr.cells 5 hs ps :: L)) :
 St G w0 w (ModA false T R [vP,vL,vS,.int .i64 fin,.int .i64 fuel,.int .i64 fan] hs ⟨ps,ls,ss,fin,fuel,fan⟩ :: L):=by
 have S1:=(((S.both rfl rfl).both rfl rfl).both rfl rfl).both rfl rfl
 have:=S1.weak (i:=0) (A':=ModA false T R [vP,vL,vS,.int .i64 fin,.int .i64 fuel,.int .i64 fan] hs ⟨ps,ls,ss,fin,fuel,fan⟩) rfl (fun _=>rfl) fun F h=>?_
 · simpa using this
 · obtain ⟨F1,F2,⟨F3,F4,⟨F5,F6,⟨F7,F8,h1,h2,e4⟩,h3,e3⟩,h4,e2⟩,h5,e1⟩:=h
   have i1 : ∀ b,F7 b → F b:=fun b h=>(e1 b).2 (.inl ((e2 b).2 (.inl ((e3 b).2 (.inl ((e4 b).2 (.inl h)))))))
   have i2 : ∀ b,F8 b → F b:=fun b h=>(e1 b).2 (.inl ((e2 b).2 (.inl ((e3 b).2 (.inl ((e4 b).2 (.inr h)))))))
   have i3 : ∀ b,F6 b → F b:=fun b h=>(e1 b).2 (.inl ((e2 b).2 (.inl ((e3 b).2 (.inr h)))))
   have i4 : ∀ b,F4 b → F b:=fun b h=>(e1 b).2 (.inl ((e2 b).2 (.inr h)))
   have i5 : ∀ b,F2 b → F b:=fun b h=>(e1 b).2 (.inr h)
   refine ⟨F,fun _ h=>h,⟨⟨h1.1,i1 R ((h1.2 R).2 rfl),⟨⟨vP,vL,vS,rfl,h2.1.mono i2,h3.1.mono i3,h4.1.mono i4⟩,h5.1.mono i5⟩⟩,fun b hb=>?_⟩⟩
   rcases (e1 b).1 hb with h | h
   · rcases (e2 b).1 h with h | h
     · rcases (e3 b).1 h with h | h
       · rcases (e4 b).1 h with h | h
         · exact (Blk false R _ T).lt h1 b h
         · exact h2.2 b h
       · exact h3.2 b h
     · exact h4.2 b h
   · exact h5.2 b h
end
theorem firstE_mem (l : List Int) : firstE l = 0 ∨ firstE l ∈ l:=by
 induction l with
 | nil=>simp [firstE]
 | cons x l ih=>by_cases h : x = 0 <;> simp [firstE,h];exact ih.elim .inl fun h=>.inr h
theorem hset {l m : List Value} {x y : Value} {k : Nat} (h : k = l.length) : (l ++ x :: m).set k y = (l ++ [y]) ++ m:=by subst h;simp
end Go.Proofs.YtcnfionnnpnplaaGreatDoor
/- Opening a configuration that came in. -/
namespace Go.Proofs.YtcnfionnnpnplaaGreatDoor
open Go Go.ChangeShapes Go.WideShapes Go.ChangeAt Go.RowKit Mem
open List (set_cons_succ set_cons_zero setIfInBounds_toArray cons_append nil_append)
abbrev i5 : List TypeDesc:=[.int .i64,.int .i64,.int .i64,.int .i64,.int .i64]
theorem dec5 {vs : List Value} (h0 : fits i5 vs = true) : ∃ a b c d e : Int,vs = [.int .i64 a,.int .i64 b,.int .i64 c,.int .i64 d,.int .i64 e]:=by
 obtain ⟨a,v1,rfl,h1⟩:=fits_cons_int h0
 obtain ⟨b,v2,rfl,h2⟩:=fits_cons_int h1
 obtain ⟨c,v3,rfl,h3⟩:=fits_cons_int h2
 obtain ⟨d,v4,rfl,h4⟩:=fits_cons_int h3
 obtain ⟨e,v5,rfl,h5⟩:=fits_cons_int h4
 obtain rfl:=fits_none h5
 exact ⟨a,b,c,d,e,rfl⟩
theorem dec4 {vs : List Value} (h0 : fits i4 vs = true) : ∃ a b c d : Int,vs = [.int .i64 a,.int .i64 b,.int .i64 c,.int .i64 d]:=by
 obtain ⟨a,v1,rfl,h1⟩:=fits_cons_int h0
 obtain ⟨b,v2,rfl,h2⟩:=fits_cons_int h1
 obtain ⟨c,v3,rfl,h3⟩:=fits_cons_int h2
 obtain ⟨d,v4,rfl,h4⟩:=fits_cons_int h3
 obtain rfl:=fits_none h4
 exact ⟨a,b,c,d,rfl⟩
theorem instr_dec : ∀ vs,fits i5 vs = true → (∀ v ∈ vs,wfv v = true) → ∃ k : Instr,k.cells = vs ∧ True:=fun vs h _=>by
 obtain ⟨a,b,c,d,e,rfl⟩:=dec5 h;exact ⟨⟨a,b,c,d,e⟩,rfl,trivial⟩
theorem place_dec : ∀ vs,fits i5 vs = true → (∀ v ∈ vs,wfv v = true) → ∃ k : Place,k.cells = vs ∧ True:=fun vs h _=>by
 obtain ⟨a,b,c,d,e,rfl⟩:=dec5 h;exact ⟨⟨a,⟨b,c,d,e⟩⟩,rfl,trivial⟩
theorem start_dec : ∀ vs,fits i4 vs = true → (∀ v ∈ vs,wfv v = true) → ∃ k : Start,k.cells = vs ∧ True:=fun vs h _=>by
 obtain ⟨a,b,c,d,rfl⟩:=dec4 h;exact ⟨⟨a,b,c,d⟩,rfl,trivial⟩
section
variable {H : Type} {enc : TypeId × Value → H} {w : World} {base : Nat} {spare : Nat → Bool} {held : Bool}
theorem trod_sl {P : Program} {t e : TypeId} {ks : List TypeDesc} {α : Type} (en : α → List Value) (k : Nat) (ht : P.underlying t = some (.slice e)) (hl : lay P 100 e = some ks) (hk : P.cellsOf e = ks.length) (hkk : ks.length = k) (h0 : 0 < k) (hen : ∀ x,(en x).length = k)
 (dec : ∀ vs,fits ks vs = true → (∀ v ∈ vs,wfv v = true) → ∃ x : α,en x = vs ∧ True) {fuel : Nat} {cs : List Value} {x : DataW H × List MemPlace} (hf : DataW.trod enc P w base spare held fuel t cs = some x) :
 ∃ v,∃ xs : List α,cs = [v] ∧ SlAt en k w (fun b=>b < w.heap.size) v xs ∧ xs.length ≤ maxLen:=by
 obtain ⟨a,c,xs,hcs,h1,hc2,h2,_,hc⟩:=open_slice_flat en (fun _=>True) ht hl hk (by omega) dec hf
 refine ⟨_,xs,hcs,⟨a,c,rfl,h1,fun e=>(h2 e).2,fun i y hi=>?_⟩,by omega⟩
 obtain ⟨R,o,e,hcell⟩:=hc i y hi
 refine ⟨R,o,e,?_,fun j u hj=>by rw [← hkk];exact hcell j u hj⟩
 have hy : 0 < (en y).length:=by rw [hen];exact h0
 have:=hcell 0 _ (List.getElem?_eq_getElem hy)
 exact Nat.lt_of_not_le fun hge=>by simp [World.cell?,Array.getElem?_eq_none hge] at this
structure Wide (c : Cfg) : Prop where
 p : c.programs.length ≤ maxLen
 q : ∀ x ∈ c.programs,x.length ≤ maxLen
 l : c.lps.length ≤ maxLen
 s : c.starts.length ≤ maxLen
theorem list6 {α : Type} : ∀ {l : List α},l.length = 6 → ∃ a b c d e f,l = [a,b,c,d,e,f]
 | [a,b,c,d,e,f],_=>⟨a,b,c,d,e,f,rfl⟩
end
end Go.Proofs.YtcnfionnnpnplaaGreatDoor
/- Opening a configuration that came in, with the bytes that it takes. -/
namespace Go.Proofs.YtcnfionnnpnplaaGreatDoor
open Go Go.ChangeShapes Go.WideShapes Go.ChangeAt Go.RowKit Mem Go.Deep
open List (set_cons_succ set_cons_zero setIfInBounds_toArray cons_append nil_append)
section
variable {H : Type} {enc : TypeId × Value → H} {w : World} {base : Nat} {spare : Nat → Bool} {held : Bool}
def Light (P : Program) (t : TypeId) (d : DataW H) : Prop:=∀ n ∈ d.weights P t,n ≤ reachBytes
theorem light_all {P : Program} {e : TypeId} : ∀ {l : List (DataW H)},(∀ n ∈ DataW.weightsAll P e l,n ≤ reachBytes) → ∀ d ∈ l,Light P e d
 | [],_,d,hd=>by cases hd
 | x :: l,h,d,hd=>by
   simp only [DataW.weightsAll,List.mem_append] at h
   rcases List.mem_cons.1 hd with rfl | hd
   · exact fun n hn=>h n (.inl hn)
   · exact light_all (fun n hn=>h n (.inr hn)) d hd
theorem light_slice {P : Program} {t e : TypeId} (ht : P.underlying t = some (.slice e)) {es sp : List (DataW H)} (h : Light P t (.slice es sp)) : (es.length + sp.length) * P.bytesOf e ≤ reachBytes ∧ ∀ d ∈ es,Light P e d:=by
 unfold Light at h
 simp only [DataW.weights,ht,List.mem_cons,List.mem_append] at h
 exact ⟨h _ (.inl rfl),light_all fun n hn=>h n (.inr (.inl hn))⟩
theorem sl_bytes {P : Program} {t e : TypeId} (ht : P.underlying t = some (.slice e)) {fuel : Nat} {cs : List Value} {x : DataW H × List MemPlace} (hf : DataW.trod enc P w base spare held fuel t cs = some x) {a : Option Addr} {len c : Nat} (hcs : cs = [.slice a len c]) (hw : Light P t x.1) :
 len * P.bytesOf e ≤ reachBytes:=by
 rcases open_slice ht hf with ⟨rfl,_⟩ | ⟨a',len',cap,m,n,D,Pl,rfl,_,_,_,_,rfl,_⟩
 · simp only [List.cons.injEq,Value.slice.injEq] at hcs
   obtain ⟨⟨_,rfl,_⟩,_⟩:=hcs
   simp
 · simp only [List.cons.injEq,Value.slice.injEq] at hcs
   obtain ⟨⟨_,rfl,_⟩,_⟩:=hcs
   have:=(light_slice ht hw).1
   simp only [List.length_map,List.length_range] at this
   exact Nat.le_trans (Nat.mul_le_mul_right _ (by omega)) this
theorem trod_slB {P : Program} {t e : TypeId} {ks : List TypeDesc} {α : Type} (en : α → List Value) (k : Nat) (ht : P.underlying t = some (.slice e)) (hl : lay P 100 e = some ks) (hk : P.cellsOf e = ks.length) (hkk : ks.length = k) (h0 : 0 < k) (hen : ∀ x,(en x).length = k)
 (dec : ∀ vs,fits ks vs = true → (∀ v ∈ vs,wfv v = true) → ∃ x : α,en x = vs ∧ True) {fuel : Nat} {cs : List Value} {x : DataW H × List MemPlace} (hf : DataW.trod enc P w base spare held fuel t cs = some x) (hw : Light P t x.1) :
 ∃ v,∃ xs : List α,cs = [v] ∧ SlAt en k w (fun b=>b < w.heap.size) v xs ∧ xs.length ≤ maxLen ∧ xs.length * P.bytesOf e ≤ reachBytes:=by
 obtain ⟨v,xs,h1,h2,h3⟩:=trod_sl en k ht hl hk hkk h0 hen dec hf
 obtain ⟨a,c,rfl,_⟩:=h2.form
 exact ⟨_,xs,h1,h2,h3,sl_bytes ht hf h1 hw⟩
theorem trod_slsB {P : Program} {t e e2 : TypeId} {ks : List TypeDesc} {α : Type} (en : α → List Value) (k : Nat) (ht : P.underlying t = some (.slice e)) (he : P.underlying e = some (.slice e2)) (hce : P.cellsOf e = 1) (hl : lay P 100 e2 = some ks) (hk : P.cellsOf e2 = ks.length) (hkk : ks.length = k) (h0 : 0 < k) (hen : ∀ x,(en x).length = k)
 (dec : ∀ vs,fits ks vs = true → (∀ v ∈ vs,wfv v = true) → ∃ x : α,en x = vs ∧ True) {fuel : Nat} {cs : List Value} {x : DataW H × List MemPlace} (hf : DataW.trod enc P w base spare held fuel t cs = some x) (hw : Light P t x.1) :
 ∃ v,∃ hs : List Value,∃ xss : List (List α),cs = [v] ∧ SlAt vcell 1 w (fun b=>b < w.heap.size) v hs ∧ SlsAt en k w (fun b=>b < w.heap.size) hs xss ∧ xss.length ≤ maxLen ∧ (∀ xs ∈ xss,xs.length ≤ maxLen) ∧ xss.length * P.bytesOf e ≤ reachBytes ∧ ∀ xs ∈ xss,xs.length * P.bytesOf e2 ≤ reachBytes:=by
 obtain ⟨a,c,ys,hcs,h1,hc2,h2,hok,hc⟩:=open_slice_anyW (α:=Value × List α) (k:=1) (fun y=>[y.1]) (fun y=>SlAt en k w (fun b=>b < w.heap.size) y.1 y.2 ∧ y.2.length ≤ maxLen ∧ y.2.length * P.bytesOf e2 ≤ reachBytes) (Light P e) ht hce (by omega)
  (fun n vs x hx hwx=>by obtain ⟨v,xs,h3,h4,h5,h6⟩:=trod_slB en k he hl hk hkk h0 hen dec hx hwx;exact ⟨(v,xs),h3.symm,h4,h5,h6⟩) hf
  (fun es sp e=>(light_slice ht (by rw [← e];exact hw)).2)
 refine ⟨_,ys.map (·.1),ys.map (·.2),hcs,⟨a,c,by simp,by simpa using h1,fun e=>(h2 e).2,fun i y hi=>?_⟩,⟨by simp,fun i v xs hv hx=>?_⟩,by simp;omega,fun xs hx=>?_,by simpa using sl_bytes ht hf hcs hw,fun xs hx=>?_⟩
 · rw [List.getElem?_map] at hi
   cases hy : ys[i]? with
   | none=>rw [hy] at hi;cases hi
   | some z=>
     rw [hy] at hi;simp at hi;subst hi
     obtain ⟨R,o,e,hcell⟩:=hc i z hy
     refine ⟨R,o,e,?_,fun j u hj=>hcell j u hj⟩
     have:=hcell 0 _ rfl
     exact Nat.lt_of_not_le fun hge=>by simp [World.cell?,Array.getElem?_eq_none hge] at this
 · rw [List.getElem?_map] at hv hx
   cases hy : ys[i]? with
   | none=>rw [hy] at hv;cases hv
   | some z=>
     rw [hy] at hv hx;simp at hv hx;subst hv;subst hx
     exact (hok z (List.mem_of_getElem? hy)).1
 · obtain ⟨z,hz,rfl⟩:=List.mem_map.1 hx
   exact (hok z hz).2.1
 · obtain ⟨z,hz,rfl⟩:=List.mem_map.1 hx
   exact (hok z hz).2.2
structure WideB (c : Cfg) : Prop where
 p : c.programs.length * 24 ≤ 140737488351232
 q : ∀ x ∈ c.programs,x.length * 40 ≤ 140737488351232
 l : c.lps.length * 40 ≤ 140737488351232
 s : c.starts.length * 32 ≤ 140737488351232
theorem open_cfgB {v : Value} {d : DataW H} {p : List MemPlace} {r : Reach} {base2 : Nat} (h : DataW.Trod enc Tryz.prog w base spare held 26 v d p) (hv : Value.okWide Tryz.prog w r base2 26 v) (hw : Light Tryz.prog 26 d) :
 ∃ vs hs c,v = .agg vs.toArray ∧ (CfgA true vs hs c).at_ w (fun b=>b < w.heap.size) ∧ Wide c ∧ WideB c:=by
 obtain ⟨cs,rfl,_⟩:=okWide_struct Tryz.underlying26 hv
 obtain ⟨fuel,hf⟩:=h
 obtain ⟨xs,n,_,hd,hlen,hxl,hfs⟩:=DataW.trod_struct Tryz.underlying26 hf
 have z26 : Tryz.prog.cellsOf 26 = 6:=by kernel_rfl
 have zP : Tryz.prog.cellsOf 22 = 1:=by kernel_rfl
 have zL : Tryz.prog.cellsOf 23 = 1:=by kernel_rfl
 have zS : Tryz.prog.cellsOf 24 = 1:=by kernel_rfl
 have zI : Tryz.prog.cellsOf 3 = 1:=by kernel_rfl
 have b0 : Tryz.prog.bytesOf 80 = 24:=by kernel_rfl
 have b1 : Tryz.prog.bytesOf 79 = 40:=by kernel_rfl
 have b2 : Tryz.prog.bytesOf 82 = 40:=by kernel_rfl
 have b3 : Tryz.prog.bytesOf 84 = 32:=by kernel_rfl
 have e0 : (Value.agg cs).cells.toList = cs.toList:=rfl
 rw [e0] at hfs hlen
 rw [z26] at hlen
 obtain ⟨c0,c1,c2,c3,c4,c5,hcs⟩:=list6 hlen
 obtain ⟨y0,y1,y2,y3,y4,y5,rfl⟩:=list6 (show xs.length = 6 from hxl)
 have hd2 : d = .agg [y0.1,y1.1,y2.1,y3.1,y4.1,y5.1]:=(Prod.mk.inj hd).1
 have hw0 : ∀ n ∈ DataW.weightsEach Tryz.prog [22,23,24,3,3,3] [y0.1,y1.1,y2.1,y3.1,y4.1,y5.1],n ≤ reachBytes:=by
  rw [hd2] at hw
  unfold Light at hw
  simp only [DataW.weights,Tryz.underlying26] at hw
  exact hw
 have w0 : Light Tryz.prog 22 y0.1:=fun n hn=>hw0 n (by simp [DataW.weightsEach,hn])
 have w1 : Light Tryz.prog 23 y1.1:=fun n hn=>hw0 n (by simp [DataW.weightsEach,hn])
 have w2 : Light Tryz.prog 24 y2.1:=fun n hn=>hw0 n (by simp [DataW.weightsEach,hn])
 have f0 : DataW.trod enc Tryz.prog w base spare held n 22 [c0] = some y0:=by
  have h : DataW.trod enc Tryz.prog w base spare held n 22 ((cs.toList.drop 0).take (Tryz.prog.cellsOf 22)) = some y0:=hfs 0 _ rfl
  rw [zP,hcs] at h
  exact h
 have f1 : DataW.trod enc Tryz.prog w base spare held n 23 [c1] = some y1:=by
  have h : DataW.trod enc Tryz.prog w base spare held n 23 ((cs.toList.drop 1).take (Tryz.prog.cellsOf 23)) = some y1:=hfs 1 _ rfl
  rw [zL,hcs] at h
  exact h
 have f2 : DataW.trod enc Tryz.prog w base spare held n 24 [c2] = some y2:=by
  have h : DataW.trod enc Tryz.prog w base spare held n 24 ((cs.toList.drop 2).take (Tryz.prog.cellsOf 24)) = some y2:=hfs 2 _ rfl
  rw [zS,hcs] at h
  exact h
 have f3 : DataW.trod enc Tryz.prog w base spare held n 3 [c3] = some y3:=by
  have h : DataW.trod enc Tryz.prog w base spare held n 3 ((cs.toList.drop 3).take (Tryz.prog.cellsOf 3)) = some y3:=hfs 3 _ rfl
  rw [zI,hcs] at h
  exact h
 have f4 : DataW.trod enc Tryz.prog w base spare held n 3 [c4] = some y4:=by
  have h : DataW.trod enc Tryz.prog w base spare held n 3 ((cs.toList.drop 4).take (Tryz.prog.cellsOf 3)) = some y4:=hfs 4 _ rfl
  rw [zI,hcs] at h
  exact h
 have f5 : DataW.trod enc Tryz.prog w base spare held n 3 [c5] = some y5:=by
  have h : DataW.trod enc Tryz.prog w base spare held n 3 ((cs.toList.drop 5).take (Tryz.prog.cellsOf 3)) = some y5:=hfs 5 _ rfl
  rw [zI,hcs] at h
  exact h
 obtain ⟨vP,hs,pss,g0,a0,b0',l0,m0,r0,q0⟩:=trod_slsB (ks:=i5) Instr.cells 5 Tryz.underlying22 Tryz.underlying80 (by kernel_rfl) (by kernel_rfl) (by kernel_rfl) rfl (by decide) incells instr_dec f0 w0
 obtain ⟨vL,ls,g1,a1,l1,r1⟩:=trod_slB (ks:=i5) Place.cells 5 Tryz.underlying23 (by kernel_rfl) (by kernel_rfl) rfl (by decide) plcells place_dec f1 w1
 obtain ⟨vS,ss,g2,a2,l2,r2⟩:=trod_slB (ks:=i4) Start.cells 4 Tryz.underlying24 (by kernel_rfl) (by kernel_rfl) rfl (by decide) stcells start_dec f2 w2
 rw [b0] at r0
 rw [b1] at q0
 rw [b2] at r1
 rw [b3] at r2
 obtain ⟨n3,g3,_⟩:=DataW.trod_int Tryz.underlying3 f3
 obtain ⟨n4,g4,_⟩:=DataW.trod_int Tryz.underlying3 f4
 obtain ⟨n5,g5,_⟩:=DataW.trod_int Tryz.underlying3 f5
 cases g0;cases g1;cases g2;cases g3;cases g4;cases g5
 refine ⟨_,hs,⟨pss,ls,ss,n3,n4,n5⟩,?_,⟨⟨⟨_,_,_,rfl,a0,a1,a2⟩,b0'⟩,fun _ h=>h⟩,⟨l0,m0,l1,l2⟩,⟨r0,q0,r1,r2⟩⟩
 rw [← hcs]
theorem light_three {P : Program} {t1 t2 t3 : TypeId} {l : List TypeId} {d1 d2 d3 : DataW H} {gs : List (DataW H)} (h : (DataW.weightsEach P ([t1,t2,t3] ++ l) ([d1,d2,d3] ++ gs)).all (· ≤ reachBytes) = true) : Light P t1 d1 ∧ Light P t2 d2 ∧ Light P t3 d3:=by
 rw [List.all_eq_true] at h
 simp only [cons_append,nil_append,DataW.weightsEach,List.mem_append,decide_eq_true_eq] at h
 exact ⟨fun n hn=>h n (.inl hn),fun n hn=>h n (.inr (.inl hn)),fun n hn=>h n (.inr (.inr (.inl hn)))⟩
end
end Go.Proofs.YtcnfionnnpnplaaGreatDoor
/- The order of keys, plain. -/
namespace Go.Proofs.YtcnfionnnpnplaaGreatDoor
open Go.Sort
open List (set_cons_succ set_cons_zero setIfInBounds_toArray cons_append nil_append)
theorem Key.lt_iff (k l : Key) : k.lt l = true ↔ k.at_ < l.at_ ∨ (k.at_ = l.at_ ∧ (k.src < l.src ∨ (k.src = l.src ∧ (k.sent < l.sent ∨ (k.sent = l.sent ∧ k.no < l.no))))):=by
 unfold Key.lt
 split
 · simp;omega
 · split
   · simp;omega
   · split
     · simp;omega
     · simp;omega
theorem Key.lt_irrefl' (k : Key) : k.lt k = false:=by
 rw [Bool.eq_false_iff,ne_eq,Key.lt_iff];omega
theorem Key.lt_asymm' {a b : Key} (h : a.lt b = true) : b.lt a = false:=by
 rw [Bool.eq_false_iff,ne_eq,Key.lt_iff];rw [Key.lt_iff] at h;omega
theorem Key.eq_of {a b : Key} (h : a.lt b = false) (k : b.lt a = false) : a = b:=by
 rw [Bool.eq_false_iff,ne_eq,Key.lt_iff] at h k
 obtain ⟨a1,a2,a3,a4⟩:=a;obtain ⟨b1,b2,b3,b4⟩:=b
 simp only [Key.mk.injEq] at *;omega
theorem Key.cmp_neg (k l : Key) : decide (k.cmp l < 0) = k.lt l:=by
 unfold Key.cmp
 cases h : k.lt l with
 | true=>simp
 | false=>cases h2 : l.lt k <;> simp
end Go.Proofs.YtcnfionnnpnplaaGreatDoor
/- Stable sorting, plain: events with their places, sorted by keys, and by places where keys are the same. -/
namespace Go.Proofs.YtcnfionnnpnplaaGreatDoor
abbrev TE:=Event × Nat
def tless (x y : TE) : Bool:=x.1.key.lt y.1.key
def slt (x y : TE) : Prop:=tless x y = true ∨ (tless y x = false ∧ x.2 < y.2)
abbrev Srt (l : List TE) : Prop:=l.Pairwise slt
theorem slt_trans {x y z : TE} (h : slt x y) (k : slt y z) : slt x z:=by
 simp only [slt,tless,Bool.eq_false_iff,ne_eq,Key.lt_iff] at *;omega
theorem slt_irrefl (x : TE) : ¬ slt x x:=by
 simp only [slt,tless,Bool.eq_false_iff,ne_eq,Key.lt_iff];omega
theorem slt_asymm {x y : TE} (h : slt x y) : ¬ slt y x:=fun k=>slt_irrefl _ (slt_trans h k)
theorem slt_yes {x y : TE} (h : tless x y = true) : slt x y:=.inl h
theorem slt_no {x y : TE} (h : tless y x = false) (k : x.2 < y.2) : slt x y:=.inr ⟨h,k⟩
theorem tless_down {x y z : TE} (h : slt x y) (k : tless y z = true) : tless x z = true:=by
 simp only [slt,tless,Bool.eq_false_iff,ne_eq,Key.lt_iff] at *;omega
theorem tless_up {x y z : TE} (h : slt x y) (k : tless z x = true) : tless z y = true:=by
 simp only [slt,tless,Bool.eq_false_iff,ne_eq,Key.lt_iff] at *;omega
theorem srt_uniq : ∀ {l m : List TE},Srt l → Srt m → l.Perm m → l = m
 | [],m,_,_,hp=>by simpa using hp
 | a :: l,[],_,_,hp=>by simpa using hp.length_eq
 | a :: l,b :: m,hl,hm,hp=>by
   have hl':=List.pairwise_cons.1 hl
   have hm':=List.pairwise_cons.1 hm
   have hab : a = b:=by
    have h1 : a ∈ b :: m:=hp.mem_iff.1 (by simp)
    have h2 : b ∈ a :: l:=hp.mem_iff.2 (by simp)
    rcases List.mem_cons.1 h1 with h | h
    · exact h
    · rcases List.mem_cons.1 h2 with h3 | h3
      · exact h3.symm
      · exact absurd (hl'.1 b h3) (slt_asymm (hm'.1 a h))
   subst hab
   rw [srt_uniq hl'.2 hm'.2 (List.Perm.cons_inv hp)]
structure BS (f : Nat → Bool) (lo hi i j : Nat) : Prop where
 le1 : lo ≤ i
 le2 : i ≤ j
 le3 : j ≤ hi
 yes : ∀ k,lo ≤ k → k < i → f k = true
 no : ∀ k,j ≤ k → k < hi → f k = false
def Falls (f : Nat → Bool) (lo hi : Nat) : Prop:=∀ k k',lo ≤ k → k ≤ k' → k' < hi → f k' = true → f k = true
theorem BS.start {f : Nat → Bool} {lo hi : Nat} (h : lo ≤ hi) : BS f lo hi lo hi:=⟨Nat.le_refl _,h,Nat.le_refl _,fun k h1 h2=>by omega,fun k h1 h2=>by omega⟩
theorem BS.up {f : Nat → Bool} {lo hi i j : Nat} (h : BS f lo hi i j) (hf : Falls f lo hi) {k : Nat} (h1 : i ≤ k) (h2 : k < j) (hk : f k = true) : BS f lo hi (k + 1) j:=
 ⟨by have:=h.le1;omega,by omega,h.le3,fun q hq hq'=>hf q k hq (by omega) (by have:=h.le3;omega) hk,h.no⟩
theorem BS.down {f : Nat → Bool} {lo hi i j : Nat} (h : BS f lo hi i j) (hf : Falls f lo hi) {k : Nat} (h1 : i ≤ k) (h2 : k < j) (hk : f k = false) : BS f lo hi i k:=
 ⟨h.le1,h1,by have:=h.le3;omega,h.yes,fun q hq hq'=>by
   cases hv : f q with
   | false=>rfl
   | true=>rw [hf k q (by have:=h.le1;omega) hq hq' hv] at hk;cases hk⟩
def Merged (p l r q ys : List TE) : Prop:=∃ s : List TE,s.Perm (l ++ r) ∧ Srt s ∧ ys = p ++ s ++ q
theorem srt_get {l : List TE} (h : Srt l) {i j : Nat} {x y : TE} (hij : i < j) (hx : l[i]? = some x) (hy : l[j]? = some y) : slt x y:=by
 obtain ⟨h1,rfl⟩:=List.getElem?_eq_some_iff.1 hx
 obtain ⟨h2,rfl⟩:=List.getElem?_eq_some_iff.1 hy
 exact List.pairwise_iff_getElem.1 h i j h1 h2 hij
theorem tless_run {l : List TE} (h : Srt l) {i j : Nat} {x y z : TE} (hij : i ≤ j) (hx : l[i]? = some x) (hy : l[j]? = some y) (hz : tless y z = true) : tless x z = true:=by
 by_cases e : i = j
 · subst e;rw [hx] at hy;cases hy;exact hz
 · exact tless_down (srt_get h (by omega) hx hy) hz
theorem tless_run' {l : List TE} (h : Srt l) {i j : Nat} {x y z : TE} (hij : i ≤ j) (hx : l[i]? = some x) (hy : l[j]? = some y) (hz : tless z x = true) : tless z y = true:=by
 by_cases e : i = j
 · subst e;rw [hx] at hy;cases hy;exact hz
 · exact tless_up (srt_get h (by omega) hx hy) hz
def att (xs : List TE) (k : Nat) : TE:=xs[k]?.getD (⟨⟨0,0,0,0⟩,0,0,0⟩,0)
theorem some_att {xs : List TE} {k : Nat} (h : k < xs.length) : xs[k]? = some (att xs k):=by simp [att,h]
section
variable {p l r q xs : List TE} {a m b : Nat}
structure Parts (p l r q xs : List TE) (a m b : Nat) : Prop where
 eq : xs = p ++ l ++ r ++ q
 ha : a = p.length
 hm : m = a + l.length
 hb : b = m + r.length
theorem Parts.left (h : Parts p l r q xs a m b) {k : Nat} (hk : k < l.length) : xs[a + k]? = l[k]?:=by
 obtain ⟨rfl,rfl,rfl,rfl⟩:=h
 rw [List.append_assoc,List.append_assoc,List.getElem?_append_right (by omega),List.getElem?_append_left (by omega)]
 congr 1;omega
theorem Parts.right (h : Parts p l r q xs a m b) {k : Nat} (hk : k < r.length) : xs[m + k]? = r[k]?:=by
 obtain ⟨rfl,rfl,rfl,rfl⟩:=h
 rw [List.append_assoc (p ++ l),List.getElem?_append_right (by simp),List.getElem?_append_left (by simp;omega)]
 congr 1;simp
theorem Parts.len (h : Parts p l r q xs a m b) : b + q.length = xs.length:=by obtain ⟨rfl,rfl,rfl,rfl⟩:=h;simp;omega
theorem Parts.l_at (h : Parts p l r q xs a m b) {k : Nat} (h1 : a ≤ k) (h2 : k < m) : l[k - a]? = some (att xs k):=by
 have hm:=h.hm
 rw [← h.left (by omega),show a + (k - a) = k by omega]
 exact some_att (by have:=h.len;have:=h.hb;omega)
theorem Parts.r_at (h : Parts p l r q xs a m b) {k : Nat} (h1 : m ≤ k) (h2 : k < b) : r[k - m]? = some (att xs k):=by
 have hb:=h.hb
 rw [← h.right (by omega),show m + (k - m) = k by omega]
 exact some_att (by have:=h.len;omega)
theorem falls1 (h : Parts p l r q xs a m b) (hr : Srt r) (z : TE) : Falls (fun k=>tless (att xs k) z) m b:=fun k k' h1 h2 h3 hv=>
 tless_run hr (i:=k - m) (j:=k' - m) (by omega) (h.r_at h1 (by omega)) (h.r_at (by omega) h3) hv
theorem falls2 (h : Parts p l r q xs a m b) (hl : Srt l) (z : TE) : Falls (fun k=>!tless z (att xs k)) a m:=fun k k' h1 h2 h3 hv=>by
 simp only [Bool.not_eq_true'] at *
 cases hk : tless z (att xs k) with
 | false=>rfl
 | true=>rw [tless_run' hl (i:=k - a) (j:=k' - a) (by omega) (h.l_at h1 (by omega)) (h.l_at (by omega) h3) hk] at hv;cases hv
theorem falls3 (h : Parts p l r q xs a m b) (hl : Srt l) (hr : Srt r) {s e n : Nat} (hs : a ≤ s) (he : e ≤ m) (h1 : ∀ c,s ≤ c → c < e → m ≤ n - c ∧ n - c < b ∧ c ≤ n) : Falls (fun k=>!tless (att xs (n - k)) (att xs k)) s e:=fun k k' g1 g2 g3 hv=>by
 simp only [Bool.not_eq_true'] at *
 cases hk : tless (att xs (n - k)) (att xs k) with
 | false=>rfl
 | true=>
   have c1:=h1 k g1 (by omega)
   have c2:=h1 k' (by omega) g3
   have e1:=tless_run' hl (i:=k - a) (j:=k' - a) (by omega) (h.l_at (by omega) (by omega)) (h.l_at (by omega) (by omega)) hk
   have e2:=tless_run hr (i:=n - k' - m) (j:=n - k - m) (by omega) (h.r_at c2.1 c2.2.1) (h.r_at c1.1 c1.2.1) e1
   rw [e2] at hv;cases hv
theorem merge1 {x : TE} {i : Nat} (h : Parts p [x] r q xs a m b) (hr : Srt r) (ht : ∀ y ∈ r,x.2 < y.2) (hB : BS (fun k=>tless (att xs k) x) m b i i) : Merged p [x] r q (p ++ r.take (i - m) ++ [x] ++ r.drop (i - m) ++ q):=by
 refine ⟨r.take (i - m) ++ [x] ++ r.drop (i - m),?_,?_,by simp⟩
 · have e : r.take (i - m) ++ r.drop (i - m) = r:=List.take_append_drop _ _
   rw [List.append_assoc]
   refine (List.perm_append_comm_assoc _ _ _).trans ?_
   rw [e]
 · have y1 : ∀ z ∈ r.take (i - m),slt z x:=fun z hz=>by
    obtain ⟨k,hk,rfl⟩:=List.mem_take_iff_getElem.1 hz
    have:=hB.yes (m + k) (by omega) (by omega)
    have hb:=h.hb
    have g:=h.r_at (k:=m + k) (by omega) (by omega)
    rw [show m + k - m = k by omega,List.getElem?_eq_getElem (by omega)] at g
    rw [Option.some.inj g];exact slt_yes this
   have y2 : ∀ z ∈ r.drop (i - m),slt x z:=fun z hz=>by
    obtain ⟨k,hk,rfl⟩:=List.mem_drop_iff_getElem.1 hz
    have hb:=h.hb
    have:=hB.no (i + k) (by omega) (by have:=hB.le1;omega)
    have g:=h.r_at (k:=i + k) (by have:=hB.le1;omega) (by have:=hB.le1;omega)
    rw [show i + k - m = (i - m) + k by have:=hB.le1;omega,List.getElem?_eq_getElem (by omega)] at g
    refine slt_no ?_ (ht _ (List.getElem_mem _))
    rw [Option.some.inj g];exact this
   rw [List.append_assoc]
   refine List.pairwise_append.2 ⟨hr.sublist (List.take_sublist _ _),List.pairwise_cons.2 ⟨y2,hr.sublist (List.drop_sublist _ _)⟩,fun u hu v hv=>?_⟩
   rcases List.mem_cons.1 hv with rfl | hv
   · exact y1 u hu
   · exact slt_trans (y1 u hu) (y2 v hv)
theorem merge2 {y : TE} {i : Nat} (h : Parts p l [y] q xs a m b) (hl : Srt l) (ht : ∀ x ∈ l,x.2 < y.2) (hB : BS (fun k=>!tless y (att xs k)) a m i i) : Merged p l [y] q (p ++ l.take (i - a) ++ [y] ++ l.drop (i - a) ++ q):=by
 refine ⟨l.take (i - a) ++ [y] ++ l.drop (i - a),?_,?_,by simp⟩
 · rw [List.append_assoc]
   refine (List.perm_append_comm_assoc _ _ _).trans ?_
   rw [List.take_append_drop]
   exact List.perm_append_comm
 · have hm:=h.hm
   have y1 : ∀ z ∈ l.take (i - a),slt z y:=fun z hz=>by
    obtain ⟨k,hk,rfl⟩:=List.mem_take_iff_getElem.1 hz
    have:=hB.yes (a + k) (by omega) (by omega)
    have g:=h.l_at (k:=a + k) (by omega) (by omega)
    rw [show a + k - a = k by omega,List.getElem?_eq_getElem (by omega)] at g
    refine slt_no ?_ (ht _ (List.getElem_mem _))
    rw [Option.some.inj g];simpa using this
   have y2 : ∀ z ∈ l.drop (i - a),slt y z:=fun z hz=>by
    obtain ⟨k,hk,rfl⟩:=List.mem_drop_iff_getElem.1 hz
    have:=hB.no (i + k) (by omega) (by have:=hB.le1;omega)
    have g:=h.l_at (k:=i + k) (by have:=hB.le1;omega) (by have:=hB.le1;omega)
    rw [show i + k - a = (i - a) + k by have:=hB.le1;omega,List.getElem?_eq_getElem (by omega)] at g
    rw [Option.some.inj g];exact slt_yes (by simpa using this)
   rw [List.append_assoc]
   refine List.pairwise_append.2 ⟨hl.sublist (List.take_sublist _ _),List.pairwise_cons.2 ⟨y2,hl.sublist (List.drop_sublist _ _)⟩,fun u hu v hv=>?_⟩
   rcases List.mem_cons.1 hv with rfl | hv
   · exact y1 u hu
   · exact slt_trans (y1 u hu) (y2 v hv)
structure Cut (l r l1 l2 r1 r2 : List TE) : Prop where
 el : l = l1 ++ l2
 er : r = r1 ++ r2
 h1 : ∀ x ∈ l1,∀ y ∈ r2,slt x y
 h2 : ∀ y ∈ r1,∀ x ∈ l2,slt y x
theorem cut3 (h : Parts p l r q xs a m b) (hl : Srt l) (hr : Srt r) (ht : ∀ x ∈ l,∀ y ∈ r,x.2 < y.2) {s e c mid : Nat} (hmid : mid = (a + b) / 2) (hse : (mid < m ∧ s + b = mid + m ∧ e = mid) ∨ (m ≤ mid ∧ s = a ∧ e = m))
 (hB : BS (fun k=>!tless (att xs (mid + m - 1 - k)) (att xs k)) s e c c) : Cut l r (l.take (c - a)) (l.drop (c - a)) (r.take (mid - c)) (r.drop (mid - c)):=by
 have hm:=h.hm
 have hb:=h.hb
 have b1:=hB.le1
 have b2:=hB.le3
 refine ⟨(List.take_append_drop _ _).symm,(List.take_append_drop _ _).symm,fun x hx y hy=>?_,fun y hy x hx=>?_⟩
 · obtain ⟨k,hk,rfl⟩:=List.mem_take_iff_getElem.1 hx
   obtain ⟨k',hk',rfl⟩:=List.mem_drop_iff_getElem.1 hy
   by_cases hcs : c = s
   · omega
   · have hv:=hB.no
     have:=hB.yes (c - 1) (by omega) (by omega)
     simp only [Bool.not_eq_true'] at this
     have gl:=h.l_at (k:=c - 1) (by omega) (by omega)
     have gr:=h.r_at (k:=mid + m - 1 - (c - 1)) (by omega) (by omega)
     have e1 : tless (att xs (mid + m - 1 - (c - 1))) l[k] = false:=by
      cases hz : tless (att xs (mid + m - 1 - (c - 1))) l[k] with
      | false=>rfl
      | true=>rw [tless_run' hl (i:=k) (j:=c - 1 - a) (by omega) (List.getElem?_eq_getElem (by omega)) gl hz] at this;cases this
     refine slt_no ?_ (ht _ (List.getElem_mem _) _ (List.getElem_mem _))
     cases hz : tless r[mid - c + k'] l[k] with
     | false=>rfl
     | true=>rw [tless_run hr (i:=mid + m - 1 - (c - 1) - m) (j:=mid - c + k') (by omega) gr (List.getElem?_eq_getElem (by omega)) hz] at e1;cases e1
 · obtain ⟨k,hk,rfl⟩:=List.mem_take_iff_getElem.1 hy
   obtain ⟨k',hk',rfl⟩:=List.mem_drop_iff_getElem.1 hx
   by_cases hce : c = e
   · omega
   · have:=hB.no c (by omega) (by omega)
     simp only [Bool.not_eq_false'] at this
     have gl:=h.l_at (k:=c) (by omega) (by omega)
     have gr:=h.r_at (k:=mid + m - 1 - c) (by omega) (by omega)
     refine slt_yes ?_
     have e1:=tless_run hr (i:=k) (j:=mid + m - 1 - c - m) (by omega) (List.getElem?_eq_getElem (by omega)) gr this
     exact tless_run' hl (i:=c - a) (j:=c - a + k') (by omega) gl (List.getElem?_eq_getElem (by omega)) e1
end
theorem merged_cut {p l r q l1 l2 r1 r2 s1 s2 : List TE} (hl : Srt l) (hr : Srt r) (h : Cut l r l1 l2 r1 r2) (h1 : s1.Perm (l1 ++ r1)) (g1 : Srt s1) (h2 : s2.Perm (l2 ++ r2)) (g2 : Srt s2) : Merged p l r q (p ++ s1 ++ s2 ++ q):=by
 obtain ⟨rfl,rfl,k1,k2⟩:=h
 have hl':=List.pairwise_append.1 hl
 have hr':=List.pairwise_append.1 hr
 refine ⟨s1 ++ s2,?_,List.pairwise_append.2 ⟨g1,g2,fun x hx y hy=>?_⟩,by simp⟩
 · refine (h1.append h2).trans ?_
   rw [List.append_assoc,List.append_assoc]
   refine List.Perm.append_left _ ?_
   rw [← List.append_assoc,← List.append_assoc]
   exact (List.perm_append_comm).append_right _
 · rcases List.mem_append.1 (h1.mem_iff.1 hx) with hx | hx <;> rcases List.mem_append.1 (h2.mem_iff.1 hy) with hy | hy
   · exact hl'.2.2 x hx y hy
   · exact k1 x hx y hy
   · exact k2 x hx y hy
   · exact hr'.2.2 x hx y hy
end Go.Proofs.YtcnfionnnpnplaaGreatDoor
/- One thing of a state is lent to a call, which hands another one back in its place. Over any program. -/
namespace Go.Proofs.YtcnfionnnpnplaaGreatDoor.Mem
open Go Go.RowKit
open List (set_cons_succ set_cons_zero setIfInBounds_toArray cons_append nil_append)
section
variable {G : Nat → Prop} {w0 w w' : World} {L : List Asn} {A A' : Asn} {i : Nat}
theorem St.stepAt (S : St G w0 w L) (hi : L[i]? = some A) (ho : A.sh = false) : ∃ F,A.at_ w F ∧ ∀ w' A',(∃ F',Keep F w w' ∧ A'.at_ w' F' ∧ ∀ b,F' b → F b ∨ w.heap.size ≤ b) → St G w0 w' (L.set i A'):=by
 obtain ⟨Fs,hf,hd⟩:=S.ex
 refine ⟨Fs i,(hf i A hi).1,fun w' A' ⟨F',hK,hA',hF'⟩=>?_⟩
 have hil:=(List.getElem?_eq_some_iff.1 hi).1
 have hnew : ∀ b,F' b → Fs i b ∨ w.heap.size ≤ b:=hF'
 have apart : ∀ j B,j ≠ i → L[j]? = some B → ∀ b,Fs j b → ¬ Fs i b:=by
  intro j B hj hB b hb hb'
  rcases Nat.lt_or_gt_of_ne hj with h | h
  · rcases hd j i B A h hB hi with ⟨_,e⟩ | e
    · rw [ho] at e;cases e
    · exact e b hb hb'
  · rcases hd i j A B h hi hB with ⟨e,_⟩ | e
    · rw [ho] at e;cases e
    · exact e b hb' hb
 refine ⟨S.keep.trans hK (fun x hx hn=>⟨hn,fun hb=>?_⟩),fun j=>if j = i then F' else Fs j,fun j B hj=>?_,fun j k B C hjk hj hk=>?_⟩
 · rcases (hf i A hi).2 ho x hb with h | h
   · exact hn h
   · omega
 · by_cases e : j = i
   · subst e
     rw [List.getElem?_set_self hil] at hj
     cases hj
     simp only [if_true]
     refine ⟨hA',fun _ b hb=>?_⟩
     rcases hnew b hb with h | h
     · exact (hf j A hi).2 ho b h
     · exact .inr (Nat.le_trans S.size h)
   · rw [List.getElem?_set_ne (Ne.symm e)] at hj
     simp only [if_neg e]
     exact ⟨B.loc (hf j B hj).1 (fun b hb=>hK.block b (B.lt (hf j B hj).1 b hb) (apart j B e hj b hb)),(hf j B hj).2⟩
 · by_cases e : j = i
   · subst e
     have e' : k ≠ j:=by omega
     rw [List.getElem?_set_ne (Ne.symm e')] at hk
     simp only [if_true,if_neg e']
     refine .inr fun b hb hb'=>?_
     rcases hnew b hb with h | h
     · exact apart k C e' hk b hb' h
     · have:=C.lt (hf k C hk).1 b hb';omega
   · rw [List.getElem?_set_ne (Ne.symm e)] at hj
     by_cases e' : k = i
     · subst e'
       simp only [if_true,if_neg e]
       refine .inr fun b hb hb'=>?_
       rcases hnew b hb' with h | h
       · exact apart j B e hj b hb h
       · have:=B.lt (hf j B hj).1 b hb;omega
     · rw [List.getElem?_set_ne (Ne.symm e')] at hk
       simp only [if_neg e,if_neg e']
       exact hd j k B C hjk hj hk
theorem St.lend1 (S : St G w0 w L) (i : Nat) (hi : L[i]? = some A) (ho : A.sh = false) : ∃ F,A.at_ w F ∧ ∀ w' A',A'.sh = false → St F w w' [A'] → St G w0 w' (L.set i A'):=by
 obtain ⟨F,h1,h2⟩:=S.stepAt hi ho
 refine ⟨F,h1,fun w' A' ho' T=>?_⟩
 obtain ⟨Gs,hg,_⟩:=T.ex
 obtain ⟨g1,g2⟩:=hg 0 A' rfl
 exact h2 w' A' ⟨Gs 0,T.keep,g1,g2 ho'⟩
end
end Go.Proofs.YtcnfionnnpnplaaGreatDoor.Mem
/- The walks of slices.SortStableFunc's parts: swapRange and rotate. -/
namespace Go.Proofs.YtcnfionnnpnplaaGreatDoor
open Go Go.RowKit Reg Mem
open List (set_cons_succ set_cons_zero setIfInBounds_toArray cons_append nil_append)
def tcells (x : TE) : List Value:=x.1.cells
theorem tlen : ∀ x : TE,(tcells x).length = 7:=fun _=>rfl
theorem get_mid {α : Type} {p q : List α} {x : α} {k : Nat} (h : k = p.length) : (p ++ x :: q)[k]? = some x:=by subst h;simp
theorem set_mid {α : Type} {p q : List α} {x y : α} {k : Nat} (h : k = p.length) : (p ++ x :: q).set k y = p ++ y :: q:=by subst h;simp
def SwRel (F : Nat → Prop) (R c N : Nat) (p u md v q : List TE) (w : World) (i : Value) (wr : World) : Prop:=
 ∃ (k : Nat),k ≤ u.length ∧ i = .int .i64 k ∧ St F w wr [Own 56 tcells 7 (.slice (some ⟨R,0,none⟩) N c) (p ++ v.take k ++ (u.drop k ++ md ++ u.take k) ++ (v.drop k ++ q))]
theorem swapRange_calls (R c N a b n : Nat) (p u md v q : List TE) (cv : Value) (w : World) (F : Nat → Prop) (h : (Own 56 tcells 7 (.slice (some ⟨R,0,none⟩) N c) (p ++ u ++ md ++ v ++ q)).at_ w F)
 (hN : N = (p ++ u ++ md ++ v ++ q).length) (ha : a = p.length) (hu : u.length = n) (hv : v.length = n) (hb : b = p.length + u.length + md.length) (hn : N ≤ 65536) :
 Calls Tryz.prog 136 #[.slice (some ⟨R,0,none⟩) N c,.int .i64 a,.int .i64 b,.int .i64 n,cv] w fun e w'=>e = .returned (.tuple #[]) ∧ St F w w' [Own 56 tcells 7 (.slice (some ⟨R,0,none⟩) N c) (p ++ v ++ md ++ u ++ q)]:=by
 have S:=St.one w h
 clear h
 have hN' : N = p.length + n + md.length + n + q.length:=by rw [hN];simp;omega
 have Hu:=Lib.hid hu
 have Hv:=Lib.hid hv
 have Ha:=Lib.hid ha
 have Hb:=Lib.hid hb
 have g1 : a + n ≤ b:=by omega
 have g2 : b + n ≤ N:=by omega
 clear hu hv ha hb hN hN'
 go_enter Tryz.func136,Tryz.ntmps136
 go_wp2_with first | ((with_reducible apply wps_loada (T:=56) (k:=7) S 3);(case hx|hi=>rfl);(case hk=>exact nle rfl);(case hT=>decide +kernel))
 go_loopw [10] (fun i wr=>SwRel F R c N p u md v q w i wr) (fun i _=>n - (intOf i).toNat)
 case atStart=>exact ⟨0,Nat.zero_le _,rfl,by simpa using S⟩
 case round=>
  clear S
  obtain ⟨k,hk,rfl,S⟩:=hrel
  have Hk:=Lib.hid hk
  clear hk
  by_cases hlt : k < n
  · obtain ⟨x,hx⟩ : ∃ x,u[k]? = some x:=⟨_,List.getElem?_eq_getElem (by have:=Hu.out;omega)⟩
    obtain ⟨y,hy⟩ : ∃ y,v[k]? = some y:=⟨_,List.getElem?_eq_getElem (by have:=Hv.out;omega)⟩
    have hud : u.drop k = x :: u.drop (k + 1):=by obtain ⟨h1,rfl⟩:=List.getElem?_eq_some_iff.1 hx;exact List.drop_eq_getElem_cons h1
    have hvd : v.drop k = y :: v.drop (k + 1):=by obtain ⟨h1,rfl⟩:=List.getElem?_eq_some_iff.1 hy;exact List.drop_eq_getElem_cons h1
    have hut : u.take (k + 1) = u.take k ++ [x]:=by rw [List.take_add_one,hx];rfl
    have hvt : v.take (k + 1) = v.take k ++ [y]:=by rw [List.take_add_one,hy];rfl
    have l1 : (u.take k).length = k:=by simp;have:=Hu.out;omega
    have l2 : (v.take k).length = k:=by simp;have:=Hv.out;omega
    have l3 : (u.drop (k + 1)).length = n - (k + 1):=by simp;have:=Hu.out;omega
    have HX : Hid ((p ++ v.take k ++ (u.drop k ++ md ++ u.take k) ++ (v.drop k ++ q))[a + k]? = some x):=by
     rw [hud];have:=get_mid (p:=p ++ v.take k) (q:=u.drop (k + 1) ++ md ++ u.take k ++ (v.drop k ++ q)) (x:=x) (k:=a + k) (by simp [l2];exact Ha.out)
     simp only [List.append_assoc,cons_append] at *;exact this
    have HY : Hid ((p ++ v.take k ++ (u.drop k ++ md ++ u.take k) ++ (v.drop k ++ q))[b + k]? = some y):=by
     rw [hvd]
     have e : b + k = (p ++ v.take k ++ (u.drop k ++ md ++ u.take k)).length:=by simp [l1,l2];have:=Hb.out;have:=Hu.out;omega
     rw [e,cons_append];exact get_mid rfl
    have HS : Hid (((p ++ v.take k ++ (u.drop k ++ md ++ u.take k) ++ (v.drop k ++ q)).set (a + k) y).set (b + k) x = p ++ v.take (k + 1) ++ (u.drop (k + 1) ++ md ++ u.take (k + 1)) ++ (v.drop (k + 1) ++ q)):=by
     rw [hut,hvt,hud,hvd]
     have e1:=set_mid (p:=p ++ v.take k) (q:=u.drop (k + 1) ++ md ++ u.take k ++ (y :: v.drop (k + 1) ++ q)) (x:=x) (y:=y) (k:=a + k) (by simp [l2];exact Ha.out)
     have e2:=set_mid (p:=p ++ v.take k ++ y :: (u.drop (k + 1) ++ md ++ u.take k)) (q:=v.drop (k + 1) ++ q) (x:=y) (y:=x) (k:=b + k) (by simp [l1,l2,l3];have:=Hb.out;have:=Hu.out;omega)
     simp only [List.append_assoc,cons_append,nil_append] at *
     rw [e1,e2];rfl
    have HY2 : Hid (((p ++ v.take k ++ (u.drop k ++ md ++ u.take k) ++ (v.drop k ++ q)).set (a + k) y)[b + k]? = some y):=by
     rw [List.getElem?_set_ne (by omega)];exact HY.out
    generalize p ++ v.take k ++ (u.drop k ++ md ++ u.take k) ++ (v.drop k ++ q) = cur at *
    obtain ⟨nxt,HN⟩ : ∃ nxt,Hid (p ++ v.take (k + 1) ++ (u.drop (k + 1) ++ md ++ u.take (k + 1)) ++ (v.drop (k + 1) ++ q) = nxt):=⟨_,rfl⟩
    rw [HN.out] at HS
    clear hx hy hud hvd hut hvt l1 l2 l3
    go_wp2_with first | ((with_reducible apply wps_loada_own tlen S 0 (hj:=HX.out) (q:=0) (vs:=[.int .i64 x.1.key.at_,.int .i64 x.1.key.src,.int .i64 x.1.key.sent,.int .i64 x.1.key.no,.int .i64 x.1.dst,.int .i64 x.1.kind,.int .i64 x.1.data]) (m:=7));(case hx|hi=>rfl);(case hn=>omega);(case hm|hv=>rfl);(case hT=>decide +kernel)) | ((with_reducible apply wps_loada_own tlen S 0 (hj:=HY.out) (q:=0) (vs:=[.int .i64 y.1.key.at_,.int .i64 y.1.key.src,.int .i64 y.1.key.sent,.int .i64 y.1.key.no,.int .i64 y.1.dst,.int .i64 y.1.kind,.int .i64 y.1.data]) (m:=7));(case hx|hi=>rfl);(case hn=>omega);(case hm|hv=>rfl);(case hT=>decide +kernel)) | ((with_reducible apply wps_store_owna tlen S 0 (hj:=HX.out) (e':=y) (q:=0) (vs:=[.int .i64 y.1.key.at_,.int .i64 y.1.key.src,.int .i64 y.1.key.sent,.int .i64 y.1.key.no,.int .i64 y.1.dst,.int .i64 y.1.kind,.int .i64 y.1.data]) (m:=7));(case hx=>rfl);(case hn=>omega);(case hi|hy|hm|h1|he=>rfl);(case hq=>exact nle rfl);(case hT=>decide +kernel);clear S;intro wz S;simp only [set_cons_zero] at S) | ((with_reducible apply wps_store_owna tlen S 0 (hj:=HY2.out) (e':=x) (q:=0) (vs:=[.int .i64 x.1.key.at_,.int .i64 x.1.key.src,.int .i64 x.1.key.sent,.int .i64 x.1.key.no,.int .i64 x.1.dst,.int .i64 x.1.kind,.int .i64 x.1.data]) (m:=7));(case hx=>rfl);(case hn=>omega);(case hi|hy|hm|h1|he=>rfl);(case hq=>exact nle rfl);(case hT=>decide +kernel);clear S;intro wz S;simp only [set_cons_zero] at S) | ((with_reducible refine tot_done ?ht ?_);(case ht=>kernel_rfl)) | ((with_reducible apply wps_text S);(case hm=>kernel_rfl);(case hB=>decide +kernel);clear S;intro wz S)
    rw [HS.out] at S
    go_roundw
    case rel=>exact ⟨k + 1,by have:=Hu.out;omega,by go_num,by rw [HN.out];exact S⟩
    case measure=>simp [intOf];omega
  · have hkn : k = n:=by have:=Hk.out;have:=Hu.out;omega
    have HE : Hid (p ++ v.take k ++ (u.drop k ++ md ++ u.take k) ++ (v.drop k ++ q) = p ++ v ++ md ++ u ++ q):=by
     rw [List.take_of_length_le (by have:=Hv.out;omega),List.drop_eq_nil_of_le (by have:=Hu.out;omega),List.take_of_length_le (by have:=Hu.out;omega),List.drop_eq_nil_of_le (by have:=Hv.out;omega)]
     simp [Hid]
    rw [HE.out] at S
    clear hkn HE
    go_wp2_with first | ((with_reducible apply wps_loada (T:=56) (k:=7) S 3);(case hx|hi=>rfl);(case hk=>exact nle rfl);(case hT=>decide +kernel))
    go_end0
    exact ⟨rfl,S⟩
theorem swapRange_int (R c N : Nat) (a b n : Int) (p u md v q : List TE) (cv : Value) (w : World) (F : Nat → Prop) (h : (Own 56 tcells 7 (.slice (some ⟨R,0,none⟩) N c) (p ++ u ++ md ++ v ++ q)).at_ w F)
 (hN : N = (p ++ u ++ md ++ v ++ q).length) (ha : a = p.length) (hu : (u.length : Int) = n) (hv : (v.length : Int) = n) (hb : b = p.length + u.length + md.length) (hn : N ≤ 65536) :
 Calls Tryz.prog 136 #[.slice (some ⟨R,0,none⟩) N c,.int .i64 a,.int .i64 b,.int .i64 n,cv] w fun e w'=>e = .returned (.tuple #[]) ∧ St F w w' [Own 56 tcells 7 (.slice (some ⟨R,0,none⟩) N c) (p ++ v ++ md ++ u ++ q)]:=by
 have e1 : a = ((p.length : Nat) : Int):=ha
 have e2 : b = ((p.length + u.length + md.length : Nat) : Int):=by omega
 have e3 : n = ((u.length : Nat) : Int):=by omega
 rw [e1,e2,e3]
 exact swapRange_calls R c N _ _ _ p u md v q cv w F h hN rfl rfl (by omega) rfl hn
structure RotAt (m i j : Nat) (T p u v q : List TE) : Prop where
 hm : p.length + u.length = m
 hi : u.length = i
 hj : v.length = j
 hT : p ++ v ++ u ++ q = T
def RotRel (F : Nat → Prop) (R c N m : Nat) (T : List TE) (w : World) (iv jv : Value) (wr : World) : Prop:=
 ∃ (i j : Nat) (p u v q : List TE),0 < i ∧ 0 < j ∧ i ≤ m ∧ m + j ≤ N ∧ iv = .int .i64 i ∧ jv = .int .i64 j ∧ RotAt m i j T p u v q ∧ N = (p ++ u ++ v ++ q).length ∧ St F w wr [Own 56 tcells 7 (.slice (some ⟨R,0,none⟩) N c) (p ++ u ++ v ++ q)]
theorem rot_more {m i j : Nat} {T p u v q : List TE} (h : RotAt m i j T p u v q) (hij : j < i) : u.take j ++ u.drop j = u ∧ (u.take j).length = j ∧ RotAt m (i - j) j T (p ++ v) (u.drop j) (u.take j) q:=by
 obtain ⟨hm,hi,hj,hT⟩:=h
 have e:=List.take_append_drop j u
 refine ⟨e,by simp;omega,by simp;omega,by simp;omega,by simp;omega,?_⟩
 rw [← hT];conv=>rhs;rw [← e]
 simp
theorem rot_less {m i j : Nat} {T p u v q : List TE} (h : RotAt m i j T p u v q) (hij : i < j) : v.take (j - i) ++ v.drop (j - i) = v ∧ (v.drop (j - i)).length = i ∧ RotAt m i (j - i) T p (v.drop (j - i)) (v.take (j - i)) (u ++ q):=by
 obtain ⟨hm,hi,hj,hT⟩:=h
 have e:=List.take_append_drop (j - i) v
 refine ⟨e,by simp;omega,by simp;omega,by simp;omega,by simp;omega,?_⟩
 rw [← hT];conv=>rhs;rw [← e]
 simp
theorem rotate_calls (R c N a m b : Nat) (p u v q : List TE) (cv : Value) (w : World) (F : Nat → Prop) (h : (Own 56 tcells 7 (.slice (some ⟨R,0,none⟩) N c) (p ++ u ++ v ++ q)).at_ w F)
 (hN : N = (p ++ u ++ v ++ q).length) (ha : a = p.length) (hm : m = a + u.length) (hb : b = m + v.length) (h1 : 0 < u.length) (h2 : 0 < v.length) (hn : N ≤ 65536) :
 Calls Tryz.prog 128 #[.slice (some ⟨R,0,none⟩) N c,.int .i64 a,.int .i64 m,.int .i64 b,cv] w fun e w'=>e = .returned (.tuple #[]) ∧ St F w w' [Own 56 tcells 7 (.slice (some ⟨R,0,none⟩) N c) (p ++ v ++ u ++ q)]:=by
 have S:=St.one w h
 clear h
 have g1 : a < m:=by omega
 have g2 : m < b:=by omega
 have g3 : b ≤ N:=by rw [hN];simp;omega
 have HR : Hid (RotAt m (m - a) (b - m) (p ++ v ++ u ++ q) p u v q):=⟨by omega,by omega,by omega,rfl⟩
 have HN:=Lib.hid hN
 clear hN ha hm hb h1 h2
 generalize p ++ v ++ u ++ q = T at *
 go_enter Tryz.func128,Tryz.ntmps128
 go_wp2_with first | ((with_reducible refine tot_done ?ht ?_);(case ht=>kernel_rfl))
 go_loopw [10,11] (fun i j wr=>RotRel F R c N m T w i j wr) (fun i j _=>((intOf i) + (intOf j)).toNat)
 case atStart=>exact ⟨m - a,b - m,p,u,v,q,by omega,by omega,by omega,by omega,by congr 1;omega,by congr 1;omega,HR.out,HN.out,S⟩
 case round=>
  clear S HR HN
  obtain ⟨i,j,p,u,v,q,hi,hj,him,hjm,rfl,rfl,hR,hN,S⟩:=hrel
  have HR:=Lib.hid hR
  have HN:=Lib.hid hN
  clear hR hN
  by_cases hlt : j < i
  · have hne : ((i : Int) != (j : Int)) = true:=by simp;omega
    have hgt : (j : Int) < i:=by omega
    have HM:=Lib.hid (rot_more HR.out hlt)
    rw [← HM.out.1] at S
    rw [← HM.out.1] at HN
    have HE : Hid (p ++ (u.take j ++ u.drop j) ++ v ++ q = p ++ u.take j ++ u.drop j ++ v ++ q):=by simp [Hid]
    rw [HE.out] at S
    rw [HE.out] at HN
    have hpu:=HR.out.hm
    have hpi:=HR.out.hi
    have hpj:=HR.out.hj
    have l1:=HM.out.2.1
    have l2 : (u.drop j).length = i - j:=by simp;omega
    have Hpu:=Lib.hid hpu
    have Hpi:=Lib.hid hpi
    have Hpj:=Lib.hid hpj
    have L1:=Lib.hid l1
    have L2:=Lib.hid l2
    clear hpu hpi hpj l1 l2
    go_wp2_with first | (go_at_call 136;obtain ⟨Fz,hF,hBk⟩:=S.lend1 0 rfl rfl;refine Calls.mono (swapRange_int _ _ _ _ _ _ p (u.take j) (u.drop j) v q _ _ _ hF HN.out (by have:=Hpu.out;have:=Hpi.out;omega) (by have:=L1.out;omega) (by have:=Hpj.out;omega) (by have:=L1.out;have:=L2.out;have:=Hpu.out;have:=Hpi.out;omega) hn) ?_;rintro e wz ⟨rfl,T⟩;replace S:=hBk _ _ rfl T;clear hBk hF T;simp only [set_cons_zero] at S)
    have HE2 : Hid (p ++ v ++ u.drop j ++ u.take j ++ q = (p ++ v) ++ u.drop j ++ u.take j ++ q):=rfl
    go_roundw
    case rel=>exact ⟨i - j,j,p ++ v,u.drop j,u.take j,q,by omega,hj,by omega,by omega,by congr 1;omega,rfl,HM.out.2.2,by rw [HN.out];simp;omega,S⟩
    case measure=>simp [intOf];omega
  · by_cases heq : i = j
    · have hne : ((i : Int) != (j : Int)) = false:=by simp [heq]
      have hpu:=HR.out.hm
      have hpi:=HR.out.hi
      have hpj:=HR.out.hj
      have hpT:=HR.out.hT
      have HE : Hid (p ++ u ++ v ++ q = p ++ u ++ [] ++ v ++ q):=by simp [Hid]
      rw [HE.out] at S
      rw [HE.out] at HN
      have HE2 : Hid (p ++ v ++ [] ++ u ++ q = T):=by simpa [Hid] using hpT
      have Hpu:=Lib.hid hpu
      have Hpi:=Lib.hid hpi
      have Hpj:=Lib.hid hpj
      have Heq:=Lib.hid heq
      have HpT:=Lib.hid hpT
      clear hpu hpi hpj heq hpT
      go_wp2_with first | (go_at_call 136;obtain ⟨Fz,hF,hBk⟩:=S.lend1 0 rfl rfl;refine Calls.mono (swapRange_int _ _ _ _ _ _ p u [] v q _ _ _ hF HN.out (by have:=Hpu.out;have:=Hpi.out;omega) (by have:=Hpi.out;omega) (by have:=Hpj.out;have:=Heq.out;omega) (by have:=Hpu.out;simp;omega) hn) ?_;rintro e wz ⟨rfl,T⟩;replace S:=hBk _ _ rfl T;clear hBk hF T;simp only [set_cons_zero] at S)
      rw [HE2.out] at S
      go_end0
      exact ⟨rfl,S⟩
    · have hne : ((i : Int) != (j : Int)) = true:=by simp;omega
      have hgt : ¬ (j : Int) < i:=by omega
      have hlt2 : i < j:=by omega
      have HM:=Lib.hid (rot_less HR.out hlt2)
      have HE : Hid (p ++ u ++ v ++ q = p ++ u ++ v.take (j - i) ++ v.drop (j - i) ++ q):=by
       show p ++ u ++ v ++ q = _
       rw [List.append_assoc (p ++ u) (v.take (j - i)),HM.out.1]
      rw [HE.out] at S
      rw [HE.out] at HN
      have hpu:=HR.out.hm
      have hpi:=HR.out.hi
      have l1:=HM.out.2.1
      have l2 : (v.take (j - i)).length = j - i:=by have:=HR.out.hj;simp;omega
      have Hpu:=Lib.hid hpu
      have Hpi:=Lib.hid hpi
      have L1:=Lib.hid l1
      have L2:=Lib.hid l2
      clear hpu hpi l1 l2
      go_wp2_with first | (go_at_call 136;obtain ⟨Fz,hF,hBk⟩:=S.lend1 0 rfl rfl;refine Calls.mono (swapRange_int _ _ _ _ _ _ p u (v.take (j - i)) (v.drop (j - i)) q _ _ _ hF HN.out (by have:=Hpu.out;have:=Hpi.out;omega) (by have:=Hpi.out;omega) (by have:=L1.out;omega) (by have:=L2.out;have:=Hpu.out;omega) hn) ?_;rintro e wz ⟨rfl,T⟩;replace S:=hBk _ _ rfl T;clear hBk hF T;simp only [set_cons_zero] at S)
      have HE2 : Hid (p ++ v.drop (j - i) ++ v.take (j - i) ++ u ++ q = p ++ v.drop (j - i) ++ v.take (j - i) ++ (u ++ q)):=by simp [Hid]
      rw [HE2.out] at S
      go_roundw
      case rel=>exact ⟨i,j - i,p,v.drop (j - i),v.take (j - i),u ++ q,hi,by omega,him,by omega,rfl,by congr 1;omega,HM.out.2.2,by rw [HN.out];simp;omega,S⟩
      case measure=>simp [intOf];omega
end Go.Proofs.YtcnfionnnpnplaaGreatDoor
