import Derived.Test.YtcnfionnnpnplaaGreatDoorZ06
import Derived.Test.YtcnfionnnpnplaaGreatDoorZ09
import Derived.Test.YtcnfionnnpnplaaGreatDoorZ18
import Derived.Test.YtcnfionnnpnplaaGreatDoorZ04
import Derived.Test.YtcnfionnnpnplaaGreatDoorZ22
import Derived.Test.YtcnfionnnpnplaaGreatDoorZ17
import Derived.Deep.LoopGhost
import Derived.Deep.Cut
/- Opening a slice of batches that came in. -/
set_option maxHeartbeats 16000000
set_option maxRecDepth 100000
namespace Go.Proofs.YtcnfionnnpnplaaGreatDoor
open Go Go.ChangeShapes Go.WideShapes Go.ChangeAt Go.RowKit Mem
open List (set_cons_succ set_cons_zero setIfInBounds_toArray cons_append nil_append)
theorem list5' {α : Type} : ∀ {l : List α},l.length = 5 → ∃ a b c d e,l = [a,b,c,d,e]
 | [a,b,c,d,e],_=>⟨a,b,c,d,e,rfl⟩
theorem list8' {α : Type} : ∀ {l : List α},l.length = 8 → ∃ a b c d e f g h,l = [a,b,c,d,e,f,g,h]
 | [a,b,c,d,e,f,g,h],_=>⟨a,b,c,d,e,f,g,h,rfl⟩
section
variable {H : Type} {enc : TypeId × Value → H} {w : World} {base : Nat} {spare : Nat → Bool} {held : Bool}
def BatOk (w : World) (x : BatV) : Prop:=SlAt Event.cells 7 w (fun b=>b < w.heap.size) x.vi x.b.ins ∧ SlAt Event.cells 7 w (fun b=>b < w.heap.size) x.vo x.b.sent ∧ x.b.ins.length ≤ maxLen ∧ x.b.sent.length ≤ maxLen
theorem batch_dec {fuel : Nat} {vs : List Value} {z : DataW H × List MemPlace} (hf : DataW.trod enc Tryz.prog w base spare held fuel 52 vs = some z) : ∃ x : BatV,x.cells = vs ∧ BatOk w x:=by
 obtain ⟨xs,n,_,_,hlen,hxl,hfs⟩:=DataW.trod_struct Tryz.underlying52 hf
 have zC : Tryz.prog.cellsOf 52 = 8:=by kernel_rfl
 have zS : Tryz.prog.cellsOf 50 = 4:=by kernel_rfl
 have zL : Tryz.prog.cellsOf 48 = 1:=by kernel_rfl
 have zI : Tryz.prog.cellsOf 3 = 1:=by kernel_rfl
 rw [zC] at hlen
 obtain ⟨c0,c1,c2,c3,c4,c5,c6,c7,hcs⟩:=list8' hlen
 obtain ⟨y0,y1,y2,y3,y4,rfl⟩:=list5' (show xs.length = 5 from hxl)
 have f0 : DataW.trod enc Tryz.prog w base spare held n 3 [c0] = some y0:=by
  have h : DataW.trod enc Tryz.prog w base spare held n 3 ((vs.drop 0).take (Tryz.prog.cellsOf 3)) = some y0:=hfs 0 _ rfl
  rw [zI,hcs] at h
  exact h
 have f1 : DataW.trod enc Tryz.prog w base spare held n 3 [c1] = some y1:=by
  have h : DataW.trod enc Tryz.prog w base spare held n 3 ((vs.drop 1).take (Tryz.prog.cellsOf 3)) = some y1:=hfs 1 _ rfl
  rw [zI,hcs] at h
  exact h
 have f2 : DataW.trod enc Tryz.prog w base spare held n 48 [c2] = some y2:=by
  have h : DataW.trod enc Tryz.prog w base spare held n 48 ((vs.drop 2).take (Tryz.prog.cellsOf 48)) = some y2:=hfs 2 _ rfl
  rw [zL,hcs] at h
  exact h
 have f3 : DataW.trod enc Tryz.prog w base spare held n 50 [c3,c4,c5,c6] = some y3:=by
  have h : DataW.trod enc Tryz.prog w base spare held n 50 ((vs.drop 3).take (Tryz.prog.cellsOf 50)) = some y3:=hfs 3 _ rfl
  rw [zS,hcs] at h
  exact h
 have f4 : DataW.trod enc Tryz.prog w base spare held n 48 [c7] = some y4:=by
  have h : DataW.trod enc Tryz.prog w base spare held n 48 ((vs.drop 7).take (Tryz.prog.cellsOf 48)) = some y4:=hfs 4 _ rfl
  rw [zL,hcs] at h
  exact h
 obtain ⟨at_,g0,_⟩:=DataW.trod_int Tryz.underlying3 f0
 obtain ⟨lp,g1,_⟩:=DataW.trod_int Tryz.underlying3 f1
 obtain ⟨h3,_⟩:=trod_flat 100 50 i4 (by kernel_rfl) (by kernel_rfl) n _ _ f3
 obtain ⟨a,b,c,d,g3⟩:=dec4 h3
 obtain ⟨vI,l,g2,a2,l2⟩:=trod_sl (ks:=i7) Event.cells 7 Tryz.underlying48 (by kernel_rfl) (by kernel_rfl) rfl (by decide) ecells event_dec f2
 obtain ⟨vO,m,g4,a4,l4⟩:=trod_sl (ks:=i7) Event.cells 7 Tryz.underlying48 (by kernel_rfl) (by kernel_rfl) rfl (by decide) ecells event_dec f4
 cases g0;cases g1;cases g2;cases g3;cases g4
 obtain ⟨ai,ci,rfl,_⟩:=a2.form
 obtain ⟨ao,co,rfl,_⟩:=a4.form
 exact ⟨⟨⟨at_,lp,l,⟨a,b,c,d⟩,m⟩,ai,ci,ao,co⟩,hcs.symm,a2,a4,l2,l4⟩
theorem open_bats {v : Value} {d : DataW H} {p : List MemPlace} {r : Reach} {base2 : Nat} (h : DataW.Trod enc Tryz.prog w base spare held 27 v d p) (hv : Value.okWide Tryz.prog w r base2 27 v) :
 ∃ (ad : Option Addr) (c : Nat) (l : List BatV),v = .slice ad l.length c ∧ (Sl true BatV.cells 8 (.slice ad l.length c) l).at_ w (fun b=>b < w.heap.size) ∧ (insA true l).at_ w (fun b=>b < w.heap.size) ∧ (outA true l).at_ w (fun b=>b < w.heap.size) ∧ l.length ≤ maxLen ∧ ∀ x ∈ l,x.b.ins.length ≤ maxLen ∧ x.b.sent.length ≤ maxLen:=by
 obtain ⟨fuel,hf⟩:=h
 obtain ⟨a0,len,cap,rfl⟩:=okWide_slice Tryz.underlying27 hv
 obtain ⟨a,c,ys,hcs,h1,hc2,h2,hok,hc⟩:=open_slice_any (α:=BatV) (k:=8) BatV.cells (BatOk w) Tryz.underlying27 (by kernel_rfl) (by omega)
  (fun n vs x hx=>batch_dec hx) hf
 have e : (Value.slice a0 len cap) = .slice a ys.length c:=by simpa [Value.cells] using hcs
 rw [e]
 refine ⟨a,c,ys,rfl,⟨⟨a,c,rfl,by simpa using h1,fun e=>(h2 e).2,fun i y hi=>?_⟩,fun _ h=>h⟩,⟨⟨by simp,fun i v xs hv hx=>?_⟩,fun _ h=>h⟩,⟨⟨by simp,fun i v xs hv hx=>?_⟩,fun _ h=>h⟩,by omega,fun x hx=>(hok x hx).2.2⟩
 · obtain ⟨R,o,e,hcell⟩:=hc i y hi
   refine ⟨R,o,e,?_,fun j u hj=>hcell j u hj⟩
   have:=hcell 0 _ rfl
   exact Nat.lt_of_not_le fun hge=>by simp [World.cell?,Array.getElem?_eq_none hge] at this
 · rw [List.getElem?_map,Option.map_eq_some_iff] at hv hx
   obtain ⟨x,hx1,rfl⟩:=hv
   obtain ⟨y,hy1,rfl⟩:=hx
   rw [hx1] at hy1;cases hy1
   exact (hok x (List.mem_of_getElem? hx1)).1
 · rw [List.getElem?_map,Option.map_eq_some_iff] at hv hx
   obtain ⟨x,hx1,rfl⟩:=hv
   obtain ⟨y,hy1,rfl⟩:=hx
   rw [hx1] at hy1;cases hy1
   exact (hok x (List.mem_of_getElem? hx1)).2.1
end
end Go.Proofs.YtcnfionnnpnplaaGreatDoor
/- Slices that are owned and written, of which only their room is known; and several owned slices at once. Over any program. -/
namespace Go.Proofs.YtcnfionnnpnplaaGreatDoor.Mem
open Go Go.RowKit Reg
open List (set_cons_succ set_cons_zero setIfInBounds_toArray cons_append nil_append)
def RoomAt (k : Nat) (w : World) (F : Nat → Prop) (vs : List Value) : Prop:=
 ∀ (i : Nat) v,vs[i]? = some v → ∃ ad n c,v = .slice ad n c ∧ (0 < n → ∃ R cs t,ad = some ⟨R,0,none⟩ ∧ F R ∧ w.heap[R]? = some (.cells cs t (0,0)) ∧ n * k ≤ cs.size)
def Room (k : Nat) (vs : List Value) : Asn where
 sh:=false
 at_ w F:=RoomAt k w F vs ∧ ∀ b,F b → b < w.heap.size
 loc h hb:=⟨fun i v hi=>by
  obtain ⟨ad,n,c,e,h2⟩:=h.1 i v hi
  refine ⟨ad,n,c,e,fun h0=>?_⟩
  obtain ⟨R,cs,t,e1,h3,h4,h5⟩:=h2 h0
  exact ⟨R,cs,t,e1,h3,(hb R h3).trans h4,h5⟩,lt_loc h.2 hb⟩
 lt h:=h.2
def Ows {α : Type} (E : TypeId) (enc : α → List Value) (k : Nat) (vs : List Value) (xss : List (List α)) : Asn where
 sh:=false
 at_ w F:=(vs.length = xss.length ∧ ∀ (i : Nat) v xs,vs[i]? = some v → xss[i]? = some xs → ∃ Fi,(Own E enc k v xs).at_ w Fi ∧ ∀ b,Fi b → F b) ∧ ∀ b,F b → b < w.heap.size
 loc h hb:=⟨⟨h.1.1,fun i v xs hv hx=>by
  obtain ⟨Fi,h1,h2⟩:=h.1.2 i v xs hv hx
  exact ⟨Fi,(Own _ _ _ v xs).loc h1 (fun b hb'=>hb b (h2 b hb')),h2⟩⟩,lt_loc h.2 hb⟩
 lt h:=h.2
section
variable {α : Type} {E : TypeId} {enc : α → List Value} {k : Nat} {G : Nat → Prop} {w0 w : World} {L : List Asn}
theorem St.owsNil (S : St G w0 w L) (E : TypeId) (enc : α → List Value) (k : Nat) : St G w0 w (Ows E enc k [] ([] : List (List α)) :: L):=
 S.grow (F:=fun _=>False) (Keep.refl _ _) ⟨⟨rfl,fun i v xs h=>by simp at h⟩,fun _ h=>h.elim⟩ (fun _ h=>h.elim)
theorem St.owsSnoc {vs : List Value} {xss : List (List α)} {v : Value} {xs : List α} (S : St G w0 w (Own E enc k v xs :: Ows E enc k vs xss :: L)) : St G w0 w (Ows E enc k (vs ++ [v]) (xss ++ [xs]) :: L):=
 S.merge _ rfl rfl rfl fun F F' h h'=>by
  refine ⟨⟨by simp [h'.1.1],fun j u ys hu hy=>?_⟩,fun b hb=>hb.elim ((Own E enc k v xs).lt h b) (h'.2 b)⟩
  by_cases hj : j < vs.length
  · rw [List.getElem?_append_left hj] at hu
    rw [List.getElem?_append_left (by rw [← h'.1.1];exact hj)] at hy
    obtain ⟨Fi,h1,h2⟩:=h'.1.2 j u ys hu hy
    exact ⟨Fi,h1,fun b hb=>.inr (h2 b hb)⟩
  · have hjl:=(List.getElem?_eq_some_iff.1 hu).1
    simp at hjl
    obtain rfl : j = vs.length:=by omega
    rw [List.getElem?_append_right (Nat.le_refl _)] at hu
    rw [List.getElem?_append_right (by rw [h'.1.1];exact Nat.le_refl _)] at hy
    simp [h'.1.1] at hu hy
    subst hu;subst hy
    exact ⟨F,h,fun b hb=>.inl hb⟩
theorem ows_sls (hk : ∀ x,(enc x).length = k) {vs : List Value} {xss : List (List α)} {F : Nat → Prop} (h : (Ows E enc k vs xss).at_ w F) : (Sls true enc k vs xss).at_ w F:=
 ⟨⟨h.1.1,fun i v xs hv hx=>let ⟨_,h1,h2⟩:=h.1.2 i v xs hv hx;(own_sl (sh:=true) hk h1).1.mono h2⟩,h.2⟩
variable {P : Program} {ops : Array Oper} {rest : List Oper} {a : Act} {Q : Exit → Act → World → Prop} {d : Option Tmp} {tt : TypeId} {p : String} {af : Array Edge} {gd : Option (Nat × Bool)} {x y : Operand}
end
end Go.Proofs.YtcnfionnnpnplaaGreatDoor.Mem
/- The walk of trace's own: batches that share no memory with others. -/
namespace Go.Proofs.YtcnfionnnpnplaaGreatDoor
open Go Go.RowKit Reg Mem
open List (set_cons_succ set_cons_zero setIfInBounds_toArray cons_append nil_append)
def owI (d : List BatV) : Asn:=Ows 56 Event.cells 7 (d.map (·.vi)) (d.map (·.b.ins))
theorem owi_snoc {G : Nat → Prop} {w0 w : World} {L : List Asn} {d : List BatV} (x : BatV) (S : St G w0 w (Mem.Own 56 Event.cells 7 x.vi x.b.ins :: owI d :: L)) : St G w0 w (owI (d ++ [x]) :: L):=by
 have S4:=S.owsSnoc
 unfold owI;rw [List.map_append,List.map_append];exact S4
theorem owi_ins {G : Nat → Prop} {w0 w : World} {L : List Asn} {d : List BatV} (i : Nat) (S : St G w0 w L) (hi : L[i]? = some (owI d)) : St G w0 w (L.set i (insA false d)):=
 S.weak hi (fun _=>rfl) fun F h=>⟨F,fun _ hb=>hb,ows_sls ecells h⟩
def TOwnRel (v1 : Value) (l : List BatV) (w : World) (i : Value) (wr : World) : Prop:=
 ∃ (j : Nat) (d : List BatV),j ≤ l.length ∧ i = .int .i64 j ∧ d.length = j ∧ Hid (d.map (·.b) = (l.take j).map (·.b)) ∧
  St (fun _=>False) w wr [Mem.Own 52 BatV.cells 8 v1 (d ++ l.drop j),owI d,outA false d,insA true l,outA true l]
def TOwnPost2 (l : List BatV) (w : World) (e : Ending) (w' : World) : Prop:=
 ∃ a cp d,e = .returned (.slice a l.length cp) ∧ d.map (·.b) = l.map (·.b) ∧
  St (fun _=>False) w w' [Mem.Own 52 BatV.cells 8 (.slice a l.length cp) d,owI d,outA false d]
def TOwnPost (l : List BatV) (w : World) (e : Ending) (w' : World) : Prop:=
 ∃ a cp d,e = .returned (.slice a l.length cp) ∧ d.map (·.b) = l.map (·.b) ∧
  St (fun _=>False) w w' [Mem.Own 52 BatV.cells 8 (.slice a l.length cp) d,insA false d,outA false d]
theorem town_calls2 (ad : Option Addr) (c : Nat) (l : List BatV) (w : World) (F F2 F3 : Nat → Prop) (h : (Sl true BatV.cells 8 (.slice ad l.length c) l).at_ w F) (h2 : (insA true l).at_ w F2) (h3 : (outA true l).at_ w F3) (hn : SmallB (l.map (·.b))) :
 Calls Tryz.prog 31 #[.slice ad l.length c] w (TOwnPost2 l w):=by
 have S : St (fun _=>False) w w [Sl true BatV.cells 8 (.slice ad l.length c) l,insA true l,outA true l]:=(((St.init _ w).share (A:=outA true l) rfl rfl h3).share (A:=insA true l) rfl rfl h2).share (A:=Sl true BatV.cells 8 (.slice ad l.length c) l) rfl rfl h
 clear h h2 h3
 have hn0 : l.length ≤ 4294967296:=by have:=hn.1;rw [List.length_map] at this;omega
 have HN : Hid (∀ x ∈ l,x.b.ins.length ≤ 4294967296 ∧ x.b.sent.length ≤ 4294967296):=Lib.hid fun x hx=>by have:=hn.2 x.b (List.mem_map.2 ⟨x,hx,rfl⟩);omega
 clear hn
 go_enter Tryz.func31,Tryz.ntmps31
 go_wp2_with first | (go_at_call 30;refine Calls.mono (clone_Bat _ _ (S.get (i:=0) rfl).choose_spec hn0) ?_;rintro e wz ⟨a1,c1,rfl,_,T⟩;replace S:=S.join T rfl;clear T;simp only [cons_append,nil_append] at S)
 replace S:=((S.slsNil Event.cells 7).owsNil 56 Event.cells 7).pick [2,0,1,4,5] rfl
 simp only [pick,nth] at S
 go_loopw [9] (fun i wr=>TOwnRel (.slice a1 l.length c1) l w i wr) (fun i _=>l.length - (intOf i).toNat)
 case atStart=>exact ⟨0,[],Nat.zero_le _,rfl,rfl,Lib.hid rfl,S⟩
 case round=>
  clear S
  obtain ⟨j,d,hj,rfl,hd,HD,S⟩:=hrel
  by_cases hlt : j < l.length
  · obtain ⟨x,hx⟩ : ∃ x,l[j]? = some x:=⟨_,List.getElem?_eq_getElem hlt⟩
    have hlt2 : (j : Int) < l.length:=by omega
    have hsz:=HN.out x (List.mem_of_getElem? hx)
    have hs1:=hsz.1
    have hs2:=hsz.2
    have HX:=Lib.hid (List.mem_of_getElem? hx)
    have hlen : (d ++ l.drop j).length = l.length:=by rw [List.length_append,List.length_drop];omega
    have HJ : Hid ((d ++ l.drop j)[j]? = some x):=Lib.hid (by rw [List.getElem?_append_right (by omega),hd,Nat.sub_self,List.getElem?_drop,Nat.add_zero];exact hx)
    have HD2 : Hid (∀ y : BatV,y.b = x.b → (d ++ [y]).map (·.b) = (l.take (j + 1)).map (·.b)):=Lib.hid fun y hy=>by rw [List.map_append,HD.out,take_snoc hx,List.map_append,List.map_singleton,List.map_singleton,hy]
    have HST : Hid (∀ y : BatV,(d ++ l.drop j).set j y = (d ++ [y]) ++ l.drop (j + 1)):=Lib.hid fun y=>by
     rw [List.set_append_right _ _ (by omega),hd,Nat.sub_self,List.drop_eq_getElem_cons hlt,set_cons_zero,List.append_assoc];rfl
    obtain ⟨Rr,crr,e⟩:=own_hd 0 S rfl (by omega)
    simp only [Value.slice.injEq] at e
    obtain ⟨rfl,hq,rfl⟩:=e
    clear hq hsz hx
    obtain ⟨⟨xat,xlp,xins,xthn,xsent⟩,xai,xci,xao,xco⟩:=x
    generalize hLL : d ++ l.drop j = LL at *
    go_upto_region 5 with first | ((with_reducible apply wps_loada_own bvcells S 0 (hj:=HJ.out) (q:=0) (vs:=[.int .i64 (⟨⟨xat,xlp,xins,xthn,xsent⟩,xai,xci,xao,xco⟩:BatV).b.at_,.int .i64 (⟨⟨xat,xlp,xins,xthn,xsent⟩,xai,xci,xao,xco⟩:BatV).b.lp,(⟨⟨xat,xlp,xins,xthn,xsent⟩,xai,xci,xao,xco⟩:BatV).vi,.int .i64 (⟨⟨xat,xlp,xins,xthn,xsent⟩,xai,xci,xao,xco⟩:BatV).b.thn.n0,.int .i64 (⟨⟨xat,xlp,xins,xthn,xsent⟩,xai,xci,xao,xco⟩:BatV).b.thn.n1,.int .i64 (⟨⟨xat,xlp,xins,xthn,xsent⟩,xai,xci,xao,xco⟩:BatV).b.thn.n2,.int .i64 (⟨⟨xat,xlp,xins,xthn,xsent⟩,xai,xci,xao,xco⟩:BatV).b.thn.n3,(⟨⟨xat,xlp,xins,xthn,xsent⟩,xai,xci,xao,xco⟩:BatV).vo]) (m:=8));(case hx|hi=>rfl);(case hn=>omega);(case hm|hv=>rfl);(case hT=>decide +kernel)) | ((with_reducible apply wps_alloca (E:=52) S);(case hz=>exact Tryz.zeroValue52);clear S;intro b4 wz S) | ((with_reducible apply wps_storea (T:=52) S 0 (vs:=[.int .i64 xat,.int .i64 xlp,.slice xai xins.length xci,.int .i64 xthn.n0,.int .i64 xthn.n1,.int .i64 xthn.n2,.int .i64 xthn.n3,.slice xao xsent.length xco]) (m:=8));(case hx|hy|hi|hm|h1=>rfl);(case hn=>exact nle rfl);(case hT=>decide +kernel);clear S;intro wz S;simp only [set_cons_zero,set_cons_succ,setAll,setIfInBounds_toArray] at S)
    replace S:=S.pick [2,3,4,5,0,1] rfl
    simp only [pick,nth] at S
    have HSJ : Hid (∀ e : BatV,(LL.set j e)[j]? = some e):=Lib.hid fun e=>List.getElem?_set_self (by omega)
    have hjl : j < LL.length:=by omega
    have Hlen:=Lib.hid hlen
    have HLL:=Lib.hid hLL
    have Hd:=Lib.hid hd
    clear hlen hLL hd
    (refine wp_region_wt (soft:=[0,1,2,3,4,5,7,8]) (L:=[_,_,_,_,_]) (T:=[_]) S ?hm ?hB ?_);(case hm=>kernel_rfl);(case hB=>decide +kernel);clear S
    iterate 8
     (with_reducible apply softs_cons)
     (case hw=>
       (with_reducible apply soft_of);(case hi=>rfl)
       intro T wz S
       simp only [cons_append,nil_append] at S
       go_wp2_with first | ((with_reducible apply wps_load S 4);(case hx|hi|hu=>rfl);(case hT=>decide +kernel)) | ((with_reducible refine tot_done ?ht ?_);(case ht=>kernel_rfl))
       exact ⟨rfl,S⟩)
     (case hs=>exact ⟨_,rfl,by kernel_rfl⟩)
    refine softs_nil ?_
    (with_reducible apply W_hard1 (i:=6));(case hn=>rfl);(case hr=>decide +kernel)
    intro wz S
    (with_reducible apply hard_of);(case hi=>rfl)
    simp only [cons_append,nil_append] at S
    go_wp2_with first | (go_at_call 58;have hcz:=fun w F h=>clone_Ev (ad:=xai) (n:=xins.length) (c:=xci) (xs:=xins) w F h hs1;have hq : (Sl true Event.cells 7 (.slice xai xins.length xci) xins).at_ _ _:=ins_el (S.get (i:=2) rfl).choose_spec HX.out;(with_reducible refine Calls.mono (hcz _ _ hq) ?_);clear hcz hq;rintro e wz ⟨ai,ci,rfl,_,T⟩;replace S:=S.join T rfl;clear T;simp only [cons_append,nil_append] at S) | ((with_reducible refine tot_done ?ht ?_);(case ht=>kernel_rfl))
    refine ⟨_,S.pick [1,2,3,4,5,6,0] rfl,?_⟩
    clear S
    (with_reducible apply W_hard1 (i:=9));(case hn=>rfl);(case hr=>decide +kernel)
    intro wz S
    (with_reducible apply hard_of);(case hi=>rfl)
    simp only [cons_append,nil_append] at S
    go_wp2_with first | (go_at_call 58;have hcz:=fun w F h=>clone_Ev (ad:=xao) (n:=xsent.length) (c:=xco) (xs:=xsent) w F h hs2;have hq : (Sl true Event.cells 7 (.slice xao xsent.length xco) xsent).at_ _ _:=out_el (S.get (i:=3) rfl).choose_spec HX.out;(with_reducible refine Calls.mono (hcz _ _ hq) ?_);clear hcz hq;rintro e wz ⟨ao,co,rfl,_,T⟩;replace S:=S.join T rfl;clear T;simp only [cons_append,nil_append] at S) | ((with_reducible refine tot_done ?ht ?_);(case ht=>kernel_rfl))
    refine ⟨_,S.pick [1,2,3,4,5,6,7,0] rfl,?_⟩
    clear S
    (refine W_mid (f:=4) (soft:=[10,11]) rfl ?hB ?_);(case hB=>decide +kernel)
    iterate 2
     (with_reducible apply softs_cons)
     (case hw=>
       (with_reducible apply soft_of);(case hi=>rfl)
       intro T wz S
       simp only [cons_append,nil_append] at S
       go_wp2_with first | ((with_reducible refine tot_done ?ht ?_);(case ht=>kernel_rfl))
       exact ⟨rfl,S⟩)
     (case hs=>exact ⟨_,rfl,by kernel_rfl⟩)
    refine softs_nil ?_
    (with_reducible apply W_hard1 (i:=12));(case hn=>rfl);(case hr=>decide +kernel)
    intro wz S
    (with_reducible apply hard_of);(case hi=>rfl)
    simp only [cons_append,nil_append] at S
    go_wp2_with first | ((with_reducible apply wps_store_own bvcells S 5 (hj:=HJ.out) (e':=(⟨⟨xat,xlp,xins,xthn,xsent⟩,ai,ci,xao,xco⟩:BatV)) (q:=2));(case hx=>rfl);(case hn=>omega);(case hi|hy|h1|he=>rfl);(case hq=>decide);(case hT=>decide +kernel);clear S;intro wz S;simp only [set_cons_succ,set_cons_zero] at S) | ((with_reducible refine tot_done ?ht ?_);(case ht=>kernel_rfl))
    refine ⟨_,S,?_⟩
    clear S
    (refine W_mid (f:=1) (soft:=[13,14]) rfl ?hB ?_);(case hB=>decide +kernel)
    iterate 2
     (with_reducible apply softs_cons)
     (case hw=>
       (with_reducible apply soft_of);(case hi=>rfl)
       intro T wz S
       simp only [cons_append,nil_append] at S
       go_wp2_with first | ((with_reducible refine tot_done ?ht ?_);(case ht=>kernel_rfl))
       exact ⟨rfl,S⟩)
     (case hs=>exact ⟨_,rfl,by kernel_rfl⟩)
    refine softs_nil ?_
    (with_reducible apply W_hard1 (i:=15));(case hn=>rfl);(case hr=>decide +kernel)
    intro wz S
    (with_reducible apply hard_of);(case hi=>rfl)
    simp only [cons_append,nil_append] at S
    go_wp2_with first | ((with_reducible apply wps_store_own bvcells S 5 (hj:=(HSJ.out ⟨⟨xat,xlp,xins,xthn,xsent⟩,ai,ci,xao,xco⟩)) (e':=(⟨⟨xat,xlp,xins,xthn,xsent⟩,ai,ci,ao,co⟩:BatV)) (q:=7));(case hx=>rfl);(case hn=>omega);(case hi|hy|h1|he=>rfl);(case hq=>decide);(case hT=>decide +kernel);clear S;intro wz S;simp only [set_cons_succ,set_cons_zero] at S) | ((with_reducible refine tot_done ?ht ?_);(case ht=>kernel_rfl))
    refine ⟨_,S,?_⟩
    clear S
    (with_reducible apply W_done);(case hn=>rfl);(case hr=>decide +kernel)
    intro wz S
    repeat (first | simp only at S | simp only [pick] at S | simp only [nth] at S | simp only [set_cons_succ] at S | simp only [set_cons_zero] at S | simp only [setIfInBounds_toArray] at S | simp only [setAll] at S | simp only [cons_append] at S | simp only [nil_append] at S | simp only [List.append_nil] at S)
    rw [List.set_set,HST.out] at S
    go_wp2_with first | ((with_reducible apply wps_loada (T:=52) (k:=8) S 0);(case hx|hi=>rfl);(case hk=>exact nle rfl);(case hT=>decide +kernel))
    go_roundw
    case rel=>
     refine ⟨j + 1,d ++ [⟨⟨xat,xlp,xins,xthn,xsent⟩,ai,ci,ao,co⟩],by omega,by go_num,by rw [List.length_append,Hd.out];rfl,Lib.hid (HD2.out _ rfl),?_⟩
     have S2:=S.pick [6,0,7,1,2,3,5] rfl
     simp only [pick,nth] at S2
     have S4:=(owi_snoc (⟨⟨xat,xlp,xins,xthn,xsent⟩,ai,ci,ao,co⟩ : BatV) S2).pick [1,2,0,3,4,5] rfl
     simp only [pick,nth] at S4
     exact (out_snoc (⟨⟨xat,xlp,xins,xthn,xsent⟩,ai,ci,ao,co⟩ : BatV) S4).pick [4,1,0,2,3] rfl
    case measure=>simp [intOf];omega
  · obtain rfl : j = l.length:=by omega
    rw [List.drop_length,List.append_nil] at S
    have HD2 : Hid (d.map (·.b) = l.map (·.b)):=Lib.hid (by rw [HD.out,List.take_length])
    go_wp2_with first | ((with_reducible apply wps_loada (T:=52) (k:=8) S 0);(case hx|hi=>rfl);(case hk=>exact nle rfl);(case hT=>decide +kernel))
    go_ret
    exact ⟨_,_,d,rfl,HD2.out,S.pick [0,1,2] rfl⟩
theorem town_calls (ad : Option Addr) (c : Nat) (l : List BatV) (w : World) (F F2 F3 : Nat → Prop) (h : (Sl true BatV.cells 8 (.slice ad l.length c) l).at_ w F) (h2 : (insA true l).at_ w F2) (h3 : (outA true l).at_ w F3) (hn : SmallB (l.map (·.b))) :
 Calls Tryz.prog 31 #[.slice ad l.length c] w (TOwnPost l w):=
 (town_calls2 ad c l w F F2 F3 h h2 h3 hn).mono fun e w' ⟨a,cp,d,h1,h2,S⟩=>⟨a,cp,d,h1,h2,by have:=owi_ins 1 S rfl;simpa using this⟩
end Go.Proofs.YtcnfionnnpnplaaGreatDoor
/- The walks of a heap's inner functions: ahead, swap, up, down, and New. -/
namespace Go.Proofs.YtcnfionnnpnplaaGreatDoor
open Go.RowKit Reg Mem
open List (set_cons_succ set_cons_zero setIfInBounds_toArray cons_append nil_append)
def Row.cells (r : Row) : List Value:=(#[.int .i64 r.key.at_,.int .i64 r.key.src,.int .i64 r.key.sent,.int .i64 r.key.no,.int .i64 r.v.key.at_,.int .i64 r.v.key.src,.int .i64 r.v.key.sent,.int .i64 r.v.key.no,.int .i64 r.v.dst,.int .i64 r.v.kind,.int .i64 r.v.data]).toList
theorem hcells : ∀ r : Row,r.cells.length = 11:=fun _=>rfl
theorem hone : ∀ r : Row,∀ u ∈ r.cells,u.oneCell' = true:=fun _=>by simp [Row.cells,Value.oneCell']
theorem elem_Row : Elem Tryz.prog 181 210 11 88:=⟨_,.agg #[.int .i64 0,.int .i64 0,.int .i64 0,.int .i64 0,.int .i64 0,.int .i64 0,.int .i64 0,.int .i64 0,.int .i64 0,.int .i64 0,.int .i64 0],Tryz.underlying181,rfl,by kernel_rfl,by kernel_rfl,by kernel_rfl,by kernel_rfl,by omega⟩
def keyed : Keyed Tryz.prog 54 Key.cells:=
 ⟨[.int .i64,.int .i64,.int .i64,.int .i64],by kernel_rfl,fun _=>rfl,fun a b=>by
   obtain ⟨a1,a2,a3,a4⟩:=a;obtain ⟨b1,b2,b3,b4⟩:=b
   simp only [Key.cells,ceqs,ceq,Bool.and_true,Key.mk.injEq]
   rw [Bool.eq_iff_iff];simp⟩
theorem wholeKey (k : Key) : whole Tryz.prog 54 (Key.cells k) = .agg #[.int .i64 k.at_,.int .i64 k.src,.int .i64 k.sent,.int .i64 k.no]:=by kernel_rfl
def rawH (B M : Nat) (v : Value) (rows : List Row) : Asn:=sep false (Blk false B #[v,.map (some M)] 183) (sep false (MapA false Tryz.prog 54 Key.cells M (posMap rows)) (Own 210 Row.cells 11 v rows))
theorem rawH_open {G : Nat → Prop} {w0 w : World} {L : List Asn} {B M : Nat} {v : Value} {rows : List Row} (S : St G w0 w (rawH B M v rows :: L)) :
 St G w0 w (MapA false Tryz.prog 54 Key.cells M (posMap rows) :: Own 210 Row.cells 11 v rows :: Blk false B #[v,.map (some M)] 183 :: L):=((S.open_sep rfl rfl).swap2).open_sep rfl rfl
theorem rawH_st {B M : Nat} {v : Value} {rows : List Row} {w : World} {F : Nat → Prop} (h : (rawH B M v rows).at_ w F) :
 St F w w [MapA false Tryz.prog 54 Key.cells M (posMap rows),Own 210 Row.cells 11 v rows,Blk false B #[v,.map (some M)] 183]:=rawH_open (St.one w h)
theorem rawH_close {G : Nat → Prop} {w0 w : World} {L : List Asn} {B M : Nat} {v : Value} {rows : List Row} (S : St G w0 w (MapA false Tryz.prog 54 Key.cells M (posMap rows) :: Own 210 Row.cells 11 v rows :: Blk false B #[v,.map (some M)] 183 :: L)) :
 St G w0 w (rawH B M v rows :: L):=(S.close_sep rfl rfl).swap2.close_sep rfl rfl
theorem rawR_st {B M : Nat} {v : Value} {rows : List Row} {w : World} {F : Nat → Prop} (h : (rawH B M v rows).at_ w F) :
 St (fun _=>False) w w [MapA true Tryz.prog 54 Key.cells M (posMap rows),Sl true Row.cells 11 v rows,Blk true B #[v,.map (some M)] 183]:=by
 obtain ⟨F1,F2,h1,⟨F3,F4,h3,h4,_,_⟩,_,_⟩:=h
 have S0 : St (fun _=>False) w w [Blk true B #[v,.map (some M)] 183]:=(St.init _ w).share rfl rfl h1
 have S1:=S0.share (A:=Sl true Row.cells 11 v rows) rfl rfl (own_sl (sh:=true) hcells h4)
 exact S1.share (A:=MapA true Tryz.prog 54 Key.cells M (posMap rows)) rfl rfl h3
theorem own_head {G : Nat → Prop} {w0 w : World} {L : List Asn} {v : Value} {rows : List Row} (i : Nat) (S : St G w0 w L) (hi : L[i]? = some (Own 210 Row.cells 11 v rows)) (h0 : 0 < rows.length) : ∃ R c,v = .slice (some ⟨R,0,none⟩) rows.length c ∧ rows.length ≤ c:=by
 obtain ⟨F1,h1,_⟩:=S.get hi
 obtain ⟨R,c,cur,e,hO⟩:=h1.some (by omega)
 exact ⟨R,c,e,hO.le⟩
theorem ahead_calls (B M i j : Nat) (v : Value) (rows : List Row) (r r' : Row) (w : World) (F : Nat → Prop) (h : (rawH B M v rows).at_ w F) (hi : rows[i]? = some r) (hj : rows[j]? = some r') :
 Calls Tryz.prog 129 #[.pointer (some ⟨B,0,none⟩),.int .i64 i,.int .i64 j] w fun e w'=>e = .returned (.bool (r.key.lt r'.key)) ∧ Below w.heap.size w w':=by
 have S:=rawR_st h
 have hi1 : (i : Int) < rows.length:=by have:=(List.getElem?_eq_some_iff.1 hi).1;omega
 have hj1 : (j : Int) < rows.length:=by have:=(List.getElem?_eq_some_iff.1 hj).1;omega
 obtain ⟨ad,cp,rfl,_⟩:=(S.sl 1 rfl).elim fun _ h=>h.form
 obtain ⟨R,o,rfl⟩ : ∃ R o,ad = some ⟨R,o,none⟩:=(S.sl 1 rfl).elim fun F h=>h.head (by omega)
 have Hi:=Lib.hid hi
 have Hj:=Lib.hid hj
 clear hi hj
 clear h
 go_enter Tryz.func129,Tryz.ntmps129
 go_wp2_with first | ((with_reducible apply wps_loada_el S 1 (hj:=Hi.out) (q:=0) (vs:=[.int .i64 r.key.at_,.int .i64 r.key.src,.int .i64 r.key.sent,.int .i64 r.key.no]) (m:=4));(case hx|hi=>rfl);(case hn=>omega);(case hm|hv=>rfl);(case hT=>decide +kernel)) | ((with_reducible apply wps_loada_el S 1 (hj:=Hj.out) (q:=0) (vs:=[.int .i64 r'.key.at_,.int .i64 r'.key.src,.int .i64 r'.key.sent,.int .i64 r'.key.no]) (m:=4));(case hx|hi=>rfl);(case hn=>omega);(case hm|hv=>rfl);(case hT=>decide +kernel)) | (go_at_call 64;refine Calls.mono (compare_calls _ _ _ _ _ _ _ _ _) ?_;rintro e wz ⟨rfl,hE⟩;replace S:=S.ext (Keep.of_below hE);clear hE) | ((with_reducible refine tot_done ?ht ?_);(case ht=>kernel_rfl)) | ((with_reducible apply wps_text S);(case hm=>kernel_rfl);(case hB=>decide +kernel);clear S;intro wz S) | ((with_reducible apply wps_load S 2);(case hx|hi|hu=>rfl);(case hT=>decide +kernel))
 go_ret
 exact ⟨ret_bool (Key.cmp_neg _ _),S.below⟩
def HPost (F : Nat → Prop) (B M : Nat) (v : Value) (rows : List Row) (w : World) (e : Ending) (w' : World) : Prop:=e = .returned (.tuple #[]) ∧ St F w w' [rawH B M v rows]
theorem ahead_int (B M : Nat) (i j : Int) (v : Value) (rows : List Row) (r r' : Row) (w : World) (F : Nat → Prop) (h : (rawH B M v rows).at_ w F) (hi0 : 0 ≤ i) (hj0 : 0 ≤ j) (hi : rows[i.toNat]? = some r) (hj : rows[j.toNat]? = some r') :
 Calls Tryz.prog 129 #[.pointer (some ⟨B,0,none⟩),.int .i64 i,.int .i64 j] w fun e w'=>e = .returned (.bool (r.key.lt r'.key)) ∧ Below w.heap.size w w':=by
 obtain ⟨n,rfl⟩:=Int.eq_ofNat_of_zero_le hi0
 obtain ⟨m,rfl⟩:=Int.eq_ofNat_of_zero_le hj0
 exact ahead_calls B M n m v rows r r' w F h hi hj
theorem swap_calls (B M i j : Nat) (v : Value) (rows : List Row) (r r' : Row) (w : World) (F : Nat → Prop) (h : (rawH B M v rows).at_ w F) (hd : (rows.map (·.key)).Nodup) (hi : rows[i]? = some r) (hj : rows[j]? = some r') (hne : i ≠ j) :
 Calls Tryz.prog 130 #[.pointer (some ⟨B,0,none⟩),.int .i64 i,.int .i64 j] w (HPost F B M v (xch rows i j r r') w):=by
 have S:=rawH_st h
 have hi1 : (i : Int) < rows.length:=by have:=(List.getElem?_eq_some_iff.1 hi).1;omega
 have hj1 : (j : Int) < rows.length:=by have:=(List.getElem?_eq_some_iff.1 hj).1;omega
 obtain ⟨R,cp,rfl,_⟩:=own_head 1 S rfl (by omega)
 have HJ2:=Lib.hid (show (rows.set i r')[j]? = some r' by rw [List.getElem?_set_ne hne];exact hj)
 have HI3:=Lib.hid (show ((rows.set i r').set j r)[i]? = some r' by show (xch rows i j r r')[i]? = _;rw [xch_get hi hj,if_neg hne,if_pos rfl])
 have HJ3:=Lib.hid (show ((rows.set i r').set j r)[j]? = some r by show (xch rows i j r r')[j]? = _;rw [xch_get hi hj,if_pos rfl])
 have HE:=Lib.hid (posMap_xch hd hi hj (xch_perm hi hj))
 have Hi:=Lib.hid hi
 have Hj:=Lib.hid hj
 clear hi hj
 clear h hd
 go_enter Tryz.func130,Tryz.ntmps130
 go_wp2_with first | ((with_reducible apply wps_loada_own hcells S 1 (hj:=Hi.out) (q:=0) (vs:=[.int .i64 r.key.at_,.int .i64 r.key.src,.int .i64 r.key.sent,.int .i64 r.key.no,.int .i64 r.v.key.at_,.int .i64 r.v.key.src,.int .i64 r.v.key.sent,.int .i64 r.v.key.no,.int .i64 r.v.dst,.int .i64 r.v.kind,.int .i64 r.v.data]) (m:=11));(case hx|hi=>rfl);(case hn=>omega);(case hm|hv=>rfl);(case hT=>decide +kernel)) | ((with_reducible apply wps_loada_own hcells S 1 (hj:=Hj.out) (q:=0) (vs:=[.int .i64 r'.key.at_,.int .i64 r'.key.src,.int .i64 r'.key.sent,.int .i64 r'.key.no,.int .i64 r'.v.key.at_,.int .i64 r'.v.key.src,.int .i64 r'.v.key.sent,.int .i64 r'.v.key.no,.int .i64 r'.v.dst,.int .i64 r'.v.kind,.int .i64 r'.v.data]) (m:=11));(case hx|hi=>rfl);(case hn=>omega);(case hm|hv=>rfl);(case hT=>decide +kernel)) | ((with_reducible apply wps_store_owna hcells S 1 (hj:=Hi.out) (e':=r') (q:=0) (vs:=[.int .i64 r'.key.at_,.int .i64 r'.key.src,.int .i64 r'.key.sent,.int .i64 r'.key.no,.int .i64 r'.v.key.at_,.int .i64 r'.v.key.src,.int .i64 r'.v.key.sent,.int .i64 r'.v.key.no,.int .i64 r'.v.dst,.int .i64 r'.v.kind,.int .i64 r'.v.data]) (m:=11));(case hx=>rfl);(case hn=>omega);(case hi|hy|hm|h1|he=>rfl);(case hq=>exact nle rfl);(case hT=>decide +kernel);clear S;intro wz S;simp only [set_cons_succ,set_cons_zero] at S) | ((with_reducible apply wps_store_owna hcells S 1 (hj:=HJ2.out) (e':=r) (q:=0) (vs:=[.int .i64 r.key.at_,.int .i64 r.key.src,.int .i64 r.key.sent,.int .i64 r.key.no,.int .i64 r.v.key.at_,.int .i64 r.v.key.src,.int .i64 r.v.key.sent,.int .i64 r.v.key.no,.int .i64 r.v.dst,.int .i64 r.v.kind,.int .i64 r.v.data]) (m:=11));(case hx=>rfl);(case hn=>omega);(case hi|hy|hm|h1|he=>rfl);(case hq=>exact nle rfl);(case hT=>decide +kernel);clear S;intro wz S;simp only [set_cons_succ,set_cons_zero] at S) | ((with_reducible apply wps_loada_own hcells S 1 (hj:=HI3.out) (q:=0) (vs:=[.int .i64 r'.key.at_,.int .i64 r'.key.src,.int .i64 r'.key.sent,.int .i64 r'.key.no]) (m:=4));(case hx|hi=>rfl);(case hn=>omega);(case hm|hv=>rfl);(case hT=>decide +kernel)) | ((with_reducible apply wps_loada_own hcells S 1 (hj:=HJ3.out) (q:=0) (vs:=[.int .i64 r.key.at_,.int .i64 r.key.src,.int .i64 r.key.sent,.int .i64 r.key.no]) (m:=4));(case hx|hi=>rfl);(case hn=>omega);(case hm|hv=>rfl);(case hT=>decide +kernel)) | ((with_reducible apply wps_mapUpdate keyed Tryz.underlying180 S 0 (k:=r'.key) (v:=.int .i64 i));(case hx|hi=>rfl);(case hy=>exact (wholeKey _).symm);(case hz=>rfl);clear S;intro wz S;simp only [set_cons_zero] at S) | ((with_reducible apply wps_mapUpdate keyed Tryz.underlying180 S 0 (k:=r.key) (v:=.int .i64 j));(case hx|hi=>rfl);(case hy=>exact (wholeKey _).symm);(case hz=>rfl);clear S;intro wz S;simp only [set_cons_zero] at S) | ((with_reducible refine tot_done ?ht ?_);(case ht=>kernel_rfl)) | ((with_reducible apply wps_text S);(case hm=>kernel_rfl);(case hB=>decide +kernel);clear S;intro wz S) | ((with_reducible apply wps_load S 2);(case hx|hi|hu=>rfl);(case hT=>decide +kernel))
 go_end0
 refine ⟨rfl,?_⟩
 rw [HE.out] at S
 exact rawH_close S
end Go.Proofs.YtcnfionnnpnplaaGreatDoor
/- The walks of a heap's up and down. -/
namespace Go.Proofs.YtcnfionnnpnplaaGreatDoor
open Go.RowKit Reg Mem
open List (set_cons_succ set_cons_zero setIfInBounds_toArray cons_append nil_append)
theorem swap_int (B M : Nat) (i j : Int) (v : Value) (rows : List Row) (r r' : Row) (w : World) (F : Nat → Prop) (h : (rawH B M v rows).at_ w F) (hd : (rows.map (·.key)).Nodup) (hi0 : 0 ≤ i) (hj0 : 0 ≤ j) (hi : rows[i.toNat]? = some r) (hj : rows[j.toNat]? = some r') (hne : i ≠ j) (n m : Nat) (hn : i.toNat = n) (hm : j.toNat = m) :
 Calls Tryz.prog 130 #[.pointer (some ⟨B,0,none⟩),.int .i64 i,.int .i64 j] w (HPost F B M v (xch rows n m r r') w):=by
 obtain ⟨n,rfl⟩:=Int.eq_ofNat_of_zero_le hi0
 obtain ⟨m,rfl⟩:=Int.eq_ofNat_of_zero_le hj0
 subst hn hm
 exact swap_calls B M n m v rows r r' w F h hd hi hj (by omega)
theorem nodup_perm {a b : List Row} (h : a.Perm b) (hd : (b.map (·.key)).Nodup) : (a.map (·.key)).Nodup:=((h.map (·.key)).nodup_iff).2 hd
def UpRel (F : Nat → Prop) (B M : Nat) (v : Value) (rows : List Row) (i0 : Nat) (w : World) (i : Value) (wr : World) : Prop:=
 ∃ (k f : Nat) (rs : List Row),i = .int .i64 k ∧ k ≤ f ∧ rs.Perm rows ∧ k < rs.length ∧ hup i0 rows i0 = hup f rs k ∧ St F w wr [rawH B M v rs]
theorem up_calls (B M i : Nat) (v : Value) (rows : List Row) (w : World) (F : Nat → Prop) (h : (rawH B M v rows).at_ w F) (hd : (rows.map (·.key)).Nodup) (hi : i < rows.length) (hmax : rows.length ≤ 4294967296) :
 Calls Tryz.prog 122 #[.pointer (some ⟨B,0,none⟩),.int .i64 i] w (HPost F B M v (hup i rows i) w):=by
 have S:=St.one w h
 have Hd:=Lib.hid hd
 clear h hd
 go_enter Tryz.func122,Tryz.ntmps122
 go_wp2_with first | ((with_reducible refine tot_done ?ht ?_);(case ht=>kernel_rfl))
 go_loopw [1] (fun i' wr=>UpRel F B M v rows i w i' wr) (fun i' _=>(intOf i').toNat)
 case atStart=>exact ⟨i,i,rows,rfl,Nat.le_refl _,.refl _,hi,rfl,S⟩
 case round=>
  clear S
  obtain ⟨k,f,rs,rfl,hf,hperm,hk,heq,S⟩:=hrel
  have hlen:=hperm.length_eq
  have hp : (k - 1) / 2 < rs.length:=by omega
  obtain ⟨r,hr⟩ : ∃ r,rs[k]? = some r:=⟨_,List.getElem?_eq_getElem hk⟩
  obtain ⟨p,hpr⟩ : ∃ r,rs[(k - 1) / 2]? = some r:=⟨_,List.getElem?_eq_getElem hp⟩
  have hk1 : (k : Int) ≤ 4294967296:=by omega
  have HD:=Lib.hid (nodup_perm hperm Hd.out)
  have HEQ:=Lib.hid heq
  have HR:=Lib.hid hr
  have HP:=Lib.hid hpr
  have HL:=Lib.hid hlen
  have HPM:=Lib.hid hperm
  clear heq hr hpr hlen hperm
  by_cases h0 : 0 < k
  · have h0' : (0 : Int) < k:=by omega
    have en : (((k : Int) - 1) / 2).toNat = (k - 1) / 2:=by omega
    have EN:=Lib.hid en
    clear en
    have HP2:=Lib.hid (show rs[(((k : Int) - 1) / 2).toNat]? = some p by rw [EN.out];exact HP.out)
    have HR2:=Lib.hid (show rs[((k : Int)).toNat]? = some r by rw [Int.toNat_natCast];exact HR.out)
    cases hc : r.key.lt p.key with
    | true=>
      have Hc:=Lib.hid hc
      clear hc
      go_wp2_with first | (go_at_call 129;refine Calls.mono (ahead_int _ _ _ _ _ _ _ _ _ _ (S.get (i:=0) rfl).choose_spec (by omega) (by omega) HR2.out HP2.out) ?_;rintro e wz ⟨rfl,hE⟩;rw [Hc.out];replace S:=S.ext (Keep.of_below hE);clear hE) | (go_at_call 130;obtain ⟨Fz,hF,hBk⟩:=S.lend1 0 rfl rfl;refine Calls.mono (swap_int _ _ _ _ _ _ _ _ _ _ hF HD.out (by omega) (by omega) HR2.out HP2.out (by omega) k ((k - 1) / 2) (by omega) EN.out) ?_;rintro e wz ⟨rfl,T⟩;replace S:=hBk _ _ rfl T;clear hBk hF T;simp only [set_cons_zero] at S)
      go_roundw
      case rel=>
       refine ⟨(k - 1) / 2,f - 1,_,by go_num,by omega,(xch_perm HR.out HP.out).trans HPM.out,by rw [xch_length];omega,?_,S⟩
       rw [HEQ.out,hup_go HR.out HP.out h0 (hcmp_neg.2 Hc.out) (by omega)]
      case measure=>simp [intOf];omega
    | false=>
      have Hc:=Lib.hid hc
      clear hc
      go_wp2_with first | (go_at_call 129;refine Calls.mono (ahead_int _ _ _ _ _ _ _ _ _ _ (S.get (i:=0) rfl).choose_spec (by omega) (by omega) HR2.out HP2.out) ?_;rintro e wz ⟨rfl,hE⟩;rw [Hc.out];replace S:=S.ext (Keep.of_below hE);clear hE)
      go_end0
      refine ⟨rfl,?_⟩
      rw [HEQ.out,hup_stop HR.out HP.out (.inr (fun e=>by have:=hcmp_neg.1 e;rw [Hc.out] at this;cases this))]
      exact S
  · have h0' : decide ((0 : Int) < k) = false:=by simp;omega
    go_wp2_with first | ((with_reducible refine tot_done ?ht ?_);(case ht=>kernel_rfl))
    go_end0
    refine ⟨rfl,?_⟩
    rw [HEQ.out,hup_stop HR.out HP.out (.inl (by omega))]
    exact S
def DownRel (F : Nat → Prop) (B M : Nat) (v : Value) (rows : List Row) (i0 : Nat) (w : World) (i : Value) (wr : World) : Prop:=
 ∃ (k f : Nat) (rs : List Row),i = .int .i64 k ∧ rs.length ≤ k + f ∧ rs.Perm rows ∧ k < rs.length ∧ hdown rows.length rows i0 = hdown f rs k ∧ St F w wr [rawH B M v rs]
def DownIn (F : Nat → Prop) (B M : Nat) (v : Value) (rs : List Row) (k : Nat) (w : World) (c j : Value) (wr : World) : Prop:=
 ∃ t : Nat,t ≤ 2 ∧ c = .int .i64 (stage rs k t : Nat) ∧ j = .int .i64 (2 * k + 1 + t : Nat) ∧ St F w wr [MapA false Tryz.prog 54 Key.cells M (posMap rs),Own 210 Row.cells 11 v rs,Blk false B #[v,.map (some M)] 183]
theorem down_calls (B M i : Nat) (v : Value) (rows : List Row) (w : World) (F : Nat → Prop) (h : (rawH B M v rows).at_ w F) (hd : (rows.map (·.key)).Nodup) (hi : i < rows.length) (hmax : rows.length ≤ 4294967296) :
 Calls Tryz.prog 137 #[.pointer (some ⟨B,0,none⟩),.int .i64 i] w (HPost F B M v (hdown rows.length rows i) w):=by
 have S:=St.one w h
 have Hd:=Lib.hid hd
 clear h hd
 go_enter Tryz.func137,Tryz.ntmps137
 go_wp2_with first | ((with_reducible apply wps_load S 3);(case hx|hi|hu=>rfl);(case hT=>decide +kernel))
 go_loopw [1] (fun i' wr=>DownRel F B M v rows i w i' wr) (fun i' _=>rows.length - (intOf i').toNat)
 case atStart=>exact ⟨i,rows.length,rows,rfl,by omega,.refl _,hi,rfl,S⟩
 case round=>
  clear S
  obtain ⟨k,f,rs,rfl,hf,hperm,hk,heq,S⟩:=hrel
  have hlen:=hperm.length_eq
  have hk1 : (k : Int) ≤ 4294967296:=by omega
  have HD:=Lib.hid (nodup_perm hperm Hd.out)
  have HEQ:=Lib.hid heq
  have HL:=Lib.hid hlen
  have HPM:=Lib.hid hperm
  clear heq hlen hperm
  replace S:=rawH_open S
  obtain ⟨R,cp,rfl,_⟩:=own_head 1 S rfl (by omega)
  go_wp2_with first | ((with_reducible apply wps_load S 3);(case hx|hi|hu=>rfl);(case hT=>decide +kernel))
  go_loopw [4,5] (fun c j wr=>DownIn F B M _ rs k w c j wr) (fun _ j _=>2 * k + 4 - (intOf j).toNat)
  case atStart=>exact ⟨0,by omega,rfl,by go_num,S⟩
  case round=>
   clear S
   obtain ⟨t,ht,rfl,rfl,S⟩:=hrel
   have hst:=stage_lt hk t
   generalize hs : stage rs k t = s at hst ⊢
   have HS:=Lib.hid hs
   clear hs
   have hlen2 : (rs.length : Int) ≤ 4294967296:=by rw [HL.out];omega
   by_cases hgo : t < 2 ∧ 2 * k + 1 + t < rs.length
   · obtain ⟨hg1,hg2⟩:=hgo
     obtain ⟨x,hx⟩ : ∃ x,rs[2 * k + 1 + t]? = some x:=⟨_,List.getElem?_eq_getElem hg2⟩
     obtain ⟨y,hy⟩ : ∃ x,rs[s]? = some x:=⟨_,List.getElem?_eq_getElem hst⟩
     have hg2' : ((2 * k + 1 + t : Nat) : Int) < rs.length:=by omega
     have hg1' : ((2 * k + 1 + t : Nat) : Int) ≤ 2 * (k : Int) + 2:=by omega
     generalize hj : 2 * k + 1 + t = j at hg2 hg2' hg1' hx ⊢
     have HJ:=Lib.hid hj
     have hjl : (j : Int) ≤ 4294967296:=by omega
     have Hx:=Lib.hid hx
     have Hy:=Lib.hid hy
     clear hx hy
     clear hj
     cases hc : x.key.lt y.key with
     | true=>
       have Hc:=Lib.hid hc
       clear hc
       go_wp2_with first | (go_at_call 129;refine Calls.mono (ahead_int _ _ _ _ _ _ _ _ _ _ ((rawH_close S).get (i:=0) rfl).choose_spec (by omega) (by omega) (by rw [Int.toNat_natCast];exact Hx.out) (by rw [Int.toNat_natCast];exact Hy.out)) ?_;rintro e wz ⟨rfl,hE⟩;rw [Hc.out];replace S:=S.ext (Keep.of_below hE);clear hE) | ((with_reducible apply wps_load S 2);(case hx|hi|hu=>rfl);(case hT=>decide +kernel))
       go_roundw
       case rel=>
        refine ⟨t + 1,by omega,?_,by have:=HJ.out;go_num,S⟩
        have e : stage rs k (t + 1) = j:=by simp only [stage,hcand];rw [HJ.out,Hx.out,HS.out,Hy.out];simp only;rw [if_pos (hcmp_neg.2 Hc.out)]
        rw [e]
       case measure=>have:=HJ.out;simp [intOf];omega
     | false=>
       have Hc:=Lib.hid hc
       clear hc
       go_wp2_with first | (go_at_call 129;refine Calls.mono (ahead_int _ _ _ _ _ _ _ _ _ _ ((rawH_close S).get (i:=0) rfl).choose_spec (by omega) (by omega) (by rw [Int.toNat_natCast];exact Hx.out) (by rw [Int.toNat_natCast];exact Hy.out)) ?_;rintro e wz ⟨rfl,hE⟩;rw [Hc.out];replace S:=S.ext (Keep.of_below hE);clear hE) | ((with_reducible apply wps_load S 2);(case hx|hi|hu=>rfl);(case hT=>decide +kernel))
       go_roundw
       case rel=>
        refine ⟨t + 1,by omega,?_,by have:=HJ.out;go_num,S⟩
        have e : stage rs k (t + 1) = s:=by simp only [stage,hcand];rw [HJ.out,Hx.out,HS.out,Hy.out];exact if_neg (fun e=>by have:=hcmp_neg.1 e;rw [Hc.out] at this;cases this)
        rw [e]
       case measure=>have:=HJ.out;simp [intOf];omega
   · have hdone : t = 2 ∨ rs.length ≤ 2 * k + 1 + t:=by omega
     have hsd : s = stage rs k 2:=by rw [← HS.out];exact stage_done ht hdone
     have HSD:=Lib.hid hsd
     have hso : s = k ∨ k < s:=by rw [hsd];exact stage_or 2
     have hexit : decide (((2 * k + 1 + t : Nat) : Int) ≤ 2 * (k : Int) + 2) = false ∨ (((2 * k + 1 + t : Nat) : Int) ≤ 2 * (k : Int) + 2 ∧ decide (2 * k + 1 + t < rs.length) = false):=by
      rcases hdone with h | h
      · left;simp;omega
      · by_cases h2 : ((2 * k + 1 + t : Nat) : Int) ≤ 2 * (k : Int) + 2
        · right;exact ⟨h2,by simp;omega⟩
        · left;simp;omega
     generalize hj : 2 * k + 1 + t = j at hexit ⊢
     have HJ1 : (j : Int) ≤ 17179869186:=by omega
     clear hj hsd hdone hgo
     by_cases hsk : s = k
     · subst hsk
       have hss : ((s : Int) == (s : Int)) = true:=by simp
       rcases hexit with hx1 | ⟨hx1,hx2⟩
       all_goals
        go_wp2_with first | ((with_reducible apply wps_load S 2);(case hx|hi|hu=>rfl);(case hT=>decide +kernel))
        go_end0
        refine ⟨rfl,?_⟩
        rw [HEQ.out,hdown_stop HSD.out.symm]
        exact rawH_close S
     · have hsne : ((s : Int) == (k : Int)) = false:=by simp;omega
       obtain ⟨x,hx⟩ : ∃ x,rs[k]? = some x:=⟨_,List.getElem?_eq_getElem hk⟩
       obtain ⟨y,hy⟩ : ∃ x,rs[s]? = some x:=⟨_,List.getElem?_eq_getElem hst⟩
       have hks : k < s:=by rcases hso with h | h;exact absurd h hsk;exact h
       clear hso
       have Hx:=Lib.hid hx
       have Hy:=Lib.hid hy
       have Hsk:=Lib.hid hsk
       clear hx hy hsk
       rcases hexit with hx1 | ⟨hx1,hx2⟩
       all_goals
        go_wp2_with first | ((with_reducible apply wps_load S 2);(case hx|hi|hu=>rfl);(case hT=>decide +kernel))
        replace S:=rawH_close S
        go_wp2_with first | (go_at_call 130;obtain ⟨Fz,hF,hBk⟩:=S.lend1 0 rfl rfl;refine Calls.mono (swap_int _ _ _ _ _ _ _ _ _ _ hF HD.out (by omega) (by omega) (by rw [Int.toNat_natCast];exact Hx.out) (by rw [Int.toNat_natCast];exact Hy.out) (by omega) k s (by omega) (by omega)) ?_;rintro e wz ⟨rfl,T⟩;replace S:=hBk _ _ rfl T;clear hBk hF T;simp only [set_cons_zero] at S)
        go_roundw
        case rel=>
         refine ⟨s,f - 1,_,rfl,by rw [xch_length];omega,(xch_perm Hx.out Hy.out).trans HPM.out,by rw [xch_length];exact hst,?_,S⟩
         rw [HEQ.out,hdown_go (r:=x) (p:=y) (by rw [← HSD.out];exact Hsk.out) Hx.out (by rw [← HSD.out];exact Hy.out) (by omega),← HSD.out]
        case measure=>have:=HL.out;simp [intOf];omega
end Go.Proofs.YtcnfionnnpnplaaGreatDoor
/- A heap as a thing of the state; New, Len, Push, Get, First. -/
namespace Go.Proofs.YtcnfionnnpnplaaGreatDoor
open Go.RowKit Reg Mem
open List (set_cons_succ set_cons_zero setIfInBounds_toArray cons_append nil_append)
def heapA (B : Nat) (s : List Row) : Asn:=exs false fun p : Nat × Value × List Row=>sep false (pur (Ordered p.2.2 ∧ p.2.2.Perm s ∧ HSorted s)) (rawH B p.1 p.2.1 p.2.2)
theorem heap_open {G : Nat → Prop} {w0 w : World} {L : List Asn} {B : Nat} {s : List Row} (S : St G w0 w (heapA B s :: L)) :
 ∃ M v rows,Ordered rows ∧ rows.Perm s ∧ HSorted s ∧ St G w0 w (MapA false Tryz.prog 54 Key.cells M (posMap rows) :: Own 210 Row.cells 11 v rows :: Blk false B #[v,.map (some M)] 183 :: L):=by
 obtain ⟨⟨M,v,rows⟩,S⟩:=S.open_exs (fun _=>rfl)
 obtain ⟨⟨h1,h2,h3⟩,S⟩:=(S.open_sep rfl rfl).open_pur
 exact ⟨M,v,rows,h1,h2,h3,rawH_open S⟩
theorem heap_raw {G : Nat → Prop} {w0 w : World} {L : List Asn} {B M : Nat} {v : Value} {rows s : List Row} (S : St G w0 w (rawH B M v rows :: L)) (h1 : Ordered rows) (h2 : rows.Perm s) (h3 : HSorted s) : St G w0 w (heapA B s :: L):=
 ((S.close_pur ⟨h1,h2,h3⟩).close_sep rfl rfl).close_exs (A:=fun p : Nat × Value × List Row=>sep false (pur (Ordered p.2.2 ∧ p.2.2.Perm s ∧ HSorted s)) (rawH B p.1 p.2.1 p.2.2)) (M,v,rows) rfl
theorem heap_close {G : Nat → Prop} {w0 w : World} {L : List Asn} {B M : Nat} {v : Value} {rows s : List Row}
 (S : St G w0 w (MapA false Tryz.prog 54 Key.cells M (posMap rows) :: Own 210 Row.cells 11 v rows :: Blk false B #[v,.map (some M)] 183 :: L)) (h1 : Ordered rows) (h2 : rows.Perm s) (h3 : HSorted s) : St G w0 w (heapA B s :: L):=heap_raw (rawH_close S) h1 h2 h3
theorem posMap_nil : posMap [] = fun _=>none:=by funext k;rfl
theorem hnew_calls (w : World) : Calls Tryz.prog 70 #[] w fun e w'=>∃ B,e = .returned (.pointer (some ⟨B,0,none⟩)) ∧ St (fun _=>False) w w' [heapA B []]:=by
 have S:=St.init (fun _=>False) w
 go_enter Tryz.func70,Tryz.ntmps70
 go_wp2_with first | ((with_reducible apply wps_makeMap (P:=Tryz.prog) (K:=54) S Key.cells);clear S;intro M wz S) | ((with_reducible apply wps_boxa S);(case hx=>rfl);clear S;intro bz wz S)
 go_ret
 refine ⟨_,rfl,?_⟩
 have S2:=(S.nil 210 Row.cells 11).pick [2,0,1] rfl
 simp only [pick,nth] at S2
 rw [← posMap_nil] at S2
 exact heap_close S2 (fun i r p _ hr=>by simp at hr) (.refl _) List.Pairwise.nil
def errnoT : Int → Value:=fun e=>.int .i64 e
theorem hpush_calls (B : Nat) (s : List Row) (k : Key) (x : Thing) (w : World) (F : Nat → Prop) (h : (heapA B s).at_ w F) (hmax : s.length < 4294967296) :
 Calls Tryz.prog 102 #[.pointer (some ⟨B,0,none⟩),.agg #[.int .i64 k.at_,.int .i64 k.src,.int .i64 k.sent,.int .i64 k.no],.agg #[.int .i64 x.key.at_,.int .i64 x.key.src,.int .i64 x.key.sent,.int .i64 x.key.no,.int .i64 x.dst,.int .i64 x.kind,.int .i64 x.data]] w fun e w'=>e = .returned (.int .i64 (PushAns s ⟨k,x⟩)) ∧ St F w w' [heapA B (pushed s ⟨k,x⟩)]:=by
 obtain ⟨M,v,rows,ho,hp,hs,S⟩:=heap_open (St.one w h)
 obtain ⟨ad,cp,rfl,_⟩:=(S.ownsl hcells 1 rfl).elim fun _ h=>h.form
 have hl:=hp.length_eq
 have hl2 : rows.length < 4294967296:=by omega
 have hl3 : (rows.length : Int) < 4294967296:=by omega
 have Ho:=Lib.hid ho
 have Hp:=Lib.hid hp
 have Hs:=Lib.hid hs
 have Hl:=Lib.hid hl
 clear ho hp hs hl
 clear h
 by_cases hk : k ∈ s.map (·.key)
 · obtain ⟨r0,hr0,hk0⟩:=List.mem_map.1 ((key_perm Hp.out k).2 hk)
   obtain ⟨n,hn,he⟩:=List.mem_iff_getElem.1 hr0
   have hpm:=posMap_some (Hs.out.nodup_of Hp.out) (i:=n) (r:=r0) (by rw [List.getElem?_eq_getElem hn,he])
   rw [hk0] at hpm
   have Hpm:=Lib.hid hpm
   have Hk:=Lib.hid hk
   clear hpm hk
   clear hr0 hk0 he hn
   go_enter Tryz.func102,Tryz.ntmps102
   go_upto_region 1 with first | ((with_reducible apply wps_boxa S);(case hx=>rfl);clear S;intro bz wz S)
   replace S:=S.pick [1,2,3,4,0] rfl
   simp only [pick,nth] at S
   go_wp2_with first | ((with_reducible apply wps_lookup_ok keyed Tryz.underlying180 (S:=S) (i:=1) (zv:=.int .i64 0) (v:=.int .i64 n) (b:=true) (k:=k));(case hx|hi=>rfl);(case hy=>exact (wholeKey _).symm);(case hz=>exact Tryz.zeroValue3);(case hv|hb=>rw [Hpm.out];rfl)) | ((with_reducible refine tot_done ?ht ?_);(case ht=>kernel_rfl)) | ((with_reducible apply wps_text S);(case hm=>kernel_rfl);(case hB=>decide +kernel);clear S;intro wz S) | ((with_reducible apply wps_loada (T:=54) (k:=4) S 0);(case hx|hi=>rfl);(case hk=>exact nle rfl);(case hT=>decide +kernel)) | ((with_reducible apply wps_load S 3);(case hx|hi|hu=>rfl);(case hT=>decide +kernel))
   go_ret
   refine ⟨by rw [PushAns,if_pos Hk.out];rfl,?_⟩
   rw [pushed,if_pos Hk.out]
   exact heap_close (S.pick [1,2,3] rfl) Ho.out Hp.out Hs.out
 · have hk2 : k ∉ rows.map (·.key):=fun h=>hk ((key_perm Hp.out k).1 h)
   have hpm:=posMap_none hk2
   have HPU:=Lib.hid (posMap_push (rows:=rows) (r:=⟨k,x⟩) hk2 (Hs.out.nodup_of Hp.out))
   have HND:=Lib.hid (nodup_push (r:=⟨k,x⟩) hk2 (Hs.out.nodup_of Hp.out))
   have Hpm:=Lib.hid hpm
   have Hk:=Lib.hid hk
   have Hk2:=Lib.hid hk2
   clear hpm hk hk2
   go_enter Tryz.func102,Tryz.ntmps102
   go_upto_region 1 with first | ((with_reducible apply wps_boxa S);(case hx=>rfl);clear S;intro bz wz S)
   replace S:=S.pick [1,2,3,4,0] rfl
   simp only [pick,nth] at S
   go_upto_region 7 with first | ((with_reducible apply wps_lookup_ok keyed Tryz.underlying180 (S:=S) (i:=1) (zv:=.int .i64 0) (v:=.int .i64 0) (b:=false) (k:=k));(case hx|hi=>rfl);(case hy=>exact (wholeKey _).symm);(case hz=>exact Tryz.zeroValue3);(case hv|hb=>rw [Hpm.out];rfl)) | ((with_reducible apply wps_build1a (T:=181) (E:=210) S);(case hx=>rfl);(case hr=>intro w;kernel_rfl);clear S;intro bz wz S) | ((with_reducible apply wps_append1 elem_Row hcells hone (by decide) S 3 (j:=0) (e:=⟨k,x⟩));(case hx|hy|hi|hj|he=>rfl);(case hl=>first | omega | (simp;omega));clear S;intro az nz cz wz hnz S;simp only [set_cons_succ,set_cons_zero] at S) | ((with_reducible apply wps_store (u:=(.slice az nz cz)) S 4);(case hx|hy|hi|h1=>rfl);(case hn=>exact nle rfl);(case hT=>decide +kernel);clear S;intro wz S;simp only [set_cons_succ,set_cons_zero,setIfInBounds_toArray] at S) | ((with_reducible refine tot_done ?ht ?_);(case ht=>kernel_rfl)) | ((with_reducible apply wps_text S);(case hm=>kernel_rfl);(case hB=>decide +kernel);clear S;intro wz S) | ((with_reducible apply wps_loada (T:=54) (k:=4) S 0);(case hx|hi=>rfl);(case hk=>exact nle rfl);(case hT=>decide +kernel)) | ((with_reducible apply wps_load S 3);(case hx|hi|hu=>rfl);(case hT=>decide +kernel)) | ((with_reducible apply wps_loada (T:=56) (k:=7) S 4);(case hx|hi=>rfl);(case hk=>exact nle rfl);(case hT=>decide +kernel))
   obtain rfl : nz = rows.length + 1:=hnz.out
   replace S:=S.pick [2,3,4,1] rfl
   simp only [pick,nth] at S
   go_wp2_with first | ((with_reducible apply wps_mapUpdate keyed Tryz.underlying180 S 0 (k:=k) (v:=.int .i64 rows.length));(case hx|hi=>rfl);(case hy=>exact (wholeKey _).symm);(case hz=>rfl);clear S;intro wz S;simp only [set_cons_zero] at S) | ((with_reducible refine tot_done ?ht ?_);(case ht=>kernel_rfl)) | ((with_reducible apply wps_text S);(case hm=>kernel_rfl);(case hB=>decide +kernel);clear S;intro wz S) | ((with_reducible apply wps_load S 2);(case hx|hi|hu=>rfl);(case hT=>decide +kernel)) | ((with_reducible apply wps_loada (T:=54) (k:=4) S 3);(case hx|hi=>rfl);(case hk=>exact nle rfl);(case hT=>decide +kernel))
   rw [HPU.out] at S
   replace S:=rawH_close S
   go_wp2_with first | (go_at_call 122;obtain ⟨Fz,hF,hBk⟩:=S.lend1 0 rfl rfl;refine Calls.mono (up_calls _ _ _ _ _ _ _ hF HND.out (by simp) (by simp;omega)) ?_;rintro e wz ⟨rfl,T⟩;replace S:=hBk _ _ rfl T;clear hBk hF T;simp only [set_cons_zero] at S)
   go_ret
   refine ⟨by rw [PushAns,if_neg Hk.out];rfl,?_⟩
   rw [pushed,if_neg Hk.out]
   refine (heap_raw S (push_ordered Ho.out _) ?_ (ins_sorted _ _ Hs.out Hk.out)).pick [0] rfl
   refine (hup_perm _ _ _).trans (List.Perm.trans ?_ (ins_perm _ _).symm)
   exact (List.perm_append_singleton _ _).trans (Hp.out.cons _)
end Go.Proofs.YtcnfionnnpnplaaGreatDoor
