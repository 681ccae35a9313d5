import Derived.Test.YtcnfionnnpnplaaGreatDoorZ17
import Derived.Test.YtcnfionnnpnplaaGreatDoorZ14
/- A trace as a thing of the state; the walk of New. -/
set_option maxHeartbeats 16000000
set_option maxRecDepth 100000
namespace Go.Proofs.YtcnfionnnpnplaaGreatDoor
open Go Go.RowKit Reg Mem
open List (set_cons_succ set_cons_zero setIfInBounds_toArray cons_append nil_append)
structure ProcV where
 ad : Option Addr
 c : Nat
 l : List BatV
 st : State
def ProcV.v (x : ProcV) : Value:=.slice x.ad x.l.length x.c
def ProcV.cells (x : ProcV) : List Value:=[.slice x.ad x.l.length x.c,.int .i64 x.st.n0,.int .i64 x.st.n1,.int .i64 x.st.n2,.int .i64 x.st.n3]
theorem pvcells : ∀ x : ProcV,x.cells.length = 5:=fun _=>rfl
theorem pvone : ∀ x : ProcV,∀ u ∈ x.cells,u.oneCell' = true:=fun _=>by simp [ProcV.cells,Value.oneCell']
def ProcV.e (x : ProcV) : List BatE × State:=(x.l.map (·.b),x.st)
def ProcV.own (x : ProcV) : Asn:=Mem.Own 52 BatV.cells 8 x.v x.l
theorem elem_Proc : Elem Tryz.prog 87 94 5 56:=⟨_,.agg #[.slice none 0 0,.int .i64 0,.int .i64 0,.int .i64 0,.int .i64 0],Tryz.underlying87,rfl,by kernel_rfl,by kernel_rfl,by kernel_rfl,by kernel_rfl,by omega⟩
theorem clone_Proc {ad : Option Addr} {n c : Nat} {xs : List _} (w : World) (F : Nat → Prop) (h : (Sl true ProcV.cells 5 (.slice ad n c) xs).at_ w F) (hn : xs.length ≤ 4294967296) :
 Calls Tryz.prog 29 #[.slice ad n c] w fun e w'=>∃ ad' c',e = .returned (.slice ad' xs.length c') ∧ (0 < xs.length → ∃ R,ad' = some ⟨R,0,none⟩) ∧ St (fun _=>False) w w' [Mem.Own 94 ProcV.cells 5 (.slice ad' xs.length c') xs]:=by
 have S : St (fun _=>False) w w [Sl true ProcV.cells 5 (.slice ad n c) xs]:=(St.init _ w).share rfl rfl h
 have hq : ∀ (w : World) (a : Option Addr) (n c n' c' : Nat),(binOp .eql 87 (.slice a n c) (.slice none n' c')).run Tryz.prog w = .ok (.bool a.isNone) w:=fun w a n c n' c'=>Lib.run_eql_slice_nil w _ _ a n c n' c' Tryz.underlying87
 cases ad with
 | none=>
   have hx : xs = []:=by
    obtain ⟨a,c',e,h1,h2,_⟩:=h.1
    simp only [Value.slice.injEq] at e
    obtain ⟨rfl,rfl,rfl⟩:=e
    exact List.eq_nil_of_length_eq_zero (by have:=h2 rfl;omega)
   subst hx
   go_enter Tryz.func29,Tryz.ntmps29
   go_wp2_with first | ((with_reducible refine tot_done ?ht ?_);(case ht=>kernel_rfl))
   go_ret
   exact ⟨_,_,rfl,fun h=>absurd h (by simp),((S.nil 94 ProcV.cells 5).pick [0] rfl)⟩
 | some a0=>
   go_enter Tryz.func29,Tryz.ntmps29
   go_wp2_with first | ((with_reducible apply wps_build0 (T:=87) (E:=94) ProcV.cells 5 S);(case hr=>intro w;kernel_rfl);clear S;intro bz wz S) | ((with_reducible apply wps_appends elem_Proc pvcells pvone (by decide) S 0 (j:=1));(case hx|hy|hi|hj=>rfl);(case hl=>first | omega | (simp;omega));clear S;intro az nz cz wz hnz S;simp only [set_cons_zero] at S)
   go_ret
   obtain rfl : nz = xs.length:=by have:=hnz.out;simp at this;omega
   simp only [nil_append] at S
   refine ⟨_,_,rfl,fun h0=>?_,S.pick [0] rfl⟩
   obtain ⟨F,hF⟩:=S.get (i:=0) rfl
   rcases hF.1.2 with ⟨_,e⟩ | ⟨g,cap,cur,e,_⟩
   · omega
   · simp only [Value.slice.injEq] at e;exact ⟨g,e.1⟩
theorem clone_Bat {ad : Option Addr} {n c : Nat} {xs : List _} (w : World) (F : Nat → Prop) (h : (Sl true BatV.cells 8 (.slice ad n c) xs).at_ w F) (hn : xs.length ≤ 4294967296) :
 Calls Tryz.prog 30 #[.slice ad n c] w fun e w'=>∃ ad' c',e = .returned (.slice ad' xs.length c') ∧ (0 < xs.length → ∃ R,ad' = some ⟨R,0,none⟩) ∧ St (fun _=>False) w w' [Mem.Own 52 BatV.cells 8 (.slice ad' xs.length c') xs]:=by
 have S : St (fun _=>False) w w [Sl true BatV.cells 8 (.slice ad n c) xs]:=(St.init _ w).share rfl rfl h
 have hq : ∀ (w : World) (a : Option Addr) (n c n' c' : Nat),(binOp .eql 27 (.slice a n c) (.slice none n' c')).run Tryz.prog w = .ok (.bool a.isNone) w:=fun w a n c n' c'=>Lib.run_eql_slice_nil w _ _ a n c n' c' Tryz.underlying27
 cases ad with
 | none=>
   have hx : xs = []:=by
    obtain ⟨a,c',e,h1,h2,_⟩:=h.1
    simp only [Value.slice.injEq] at e
    obtain ⟨rfl,rfl,rfl⟩:=e
    exact List.eq_nil_of_length_eq_zero (by have:=h2 rfl;omega)
   subst hx
   go_enter Tryz.func30,Tryz.ntmps30
   go_wp2_with first | ((with_reducible refine tot_done ?ht ?_);(case ht=>kernel_rfl))
   go_ret
   exact ⟨_,_,rfl,fun h=>absurd h (by simp),((S.nil 52 BatV.cells 8).pick [0] rfl)⟩
 | some a0=>
   go_enter Tryz.func30,Tryz.ntmps30
   go_wp2_with first | ((with_reducible apply wps_build0 (T:=27) (E:=52) BatV.cells 8 S);(case hr=>intro w;kernel_rfl);clear S;intro bz wz S) | ((with_reducible apply wps_appends elem_Bat bvcells bvone (by decide) S 0 (j:=1));(case hx|hy|hi|hj=>rfl);(case hl=>first | omega | (simp;omega));clear S;intro az nz cz wz hnz S;simp only [set_cons_zero] at S)
   go_ret
   obtain rfl : nz = xs.length:=by have:=hnz.out;simp at this;omega
   simp only [nil_append] at S
   refine ⟨_,_,rfl,fun h0=>?_,S.pick [0] rfl⟩
   obtain ⟨F,hF⟩:=S.get (i:=0) rfl
   rcases hF.1.2 with ⟨_,e⟩ | ⟨g,cap,cur,e,_⟩
   · omega
   · simp only [Value.slice.injEq] at e;exact ⟨g,e.1⟩
def insA (sh : Bool) (l : List BatV) : Asn:=Sls sh Event.cells 7 (l.map (·.vi)) (l.map (·.b.ins))
def outA (sh : Bool) (l : List BatV) : Asn:=Sls sh Event.cells 7 (l.map (·.vo)) (l.map (·.b.sent))
theorem sls_sub {α β : Type} {sh : Bool} (sh' : Bool) {enc : α → List Value} {k : Nat} {f : β → Value} {g : β → List α} {pool l : List β} {w : World} {F : Nat → Prop} (h : (Sls sh enc k (pool.map f) (pool.map g)).at_ w F) (hl : ∀ x ∈ l,x ∈ pool) : (Sls sh' enc k (l.map f) (l.map g)).at_ w F:=by
 refine ⟨⟨by simp,fun i v xs hv hx=>?_⟩,h.2⟩
 rw [List.getElem?_map,Option.map_eq_some_iff] at hv hx
 obtain ⟨x,hx1,rfl⟩:=hv
 obtain ⟨y,hy1,rfl⟩:=hx
 rw [hx1] at hy1
 cases hy1
 obtain ⟨j,hj,e⟩:=List.mem_iff_getElem.1 (hl x (List.mem_of_getElem? hx1))
 exact h.1.2 j (f x) (g x) (by rw [List.getElem?_map,List.getElem?_eq_getElem hj,e];rfl) (by rw [List.getElem?_map,List.getElem?_eq_getElem hj,e];rfl)
theorem sls_elT {α : Type} {sh : Bool} {enc : α → List Value} {k : Nat} {vs : List Value} {xss : List (List α)} {w : World} {F : Nat → Prop} (h : (Sls sh enc k vs xss).at_ w F) {j : Nat} {v : Value} {xs : List α} (hv : vs[j]? = some v) (hx : xss[j]? = some xs) : (Sl true enc k v xs).at_ w F:=
 ⟨h.1.2 j v xs hv hx,h.2⟩
theorem ins_el {sh : Bool} {l : List BatV} {w : World} {F : Nat → Prop} (h : (insA sh l).at_ w F) {x : BatV} (hx : x ∈ l) : (Sl true Event.cells 7 x.vi x.b.ins).at_ w F:=by
 have h2:=sls_sub true (l:=[x]) h (fun y hy=>by rw [List.mem_singleton] at hy;exact hy ▸ hx)
 exact ⟨h2.1.2 0 _ _ rfl rfl,h2.2⟩
theorem out_el {sh : Bool} {l : List BatV} {w : World} {F : Nat → Prop} (h : (outA sh l).at_ w F) {x : BatV} (hx : x ∈ l) : (Sl true Event.cells 7 x.vo x.b.sent).at_ w F:=by
 have h2:=sls_sub true (l:=[x]) h (fun y hy=>by rw [List.mem_singleton] at hy;exact hy ▸ hx)
 exact ⟨h2.1.2 0 _ _ rfl rfl,h2.2⟩
theorem out_snoc {G : Nat → Prop} {w0 w : World} {L : List Asn} {d : List BatV} (x : BatV) (S : St G w0 w (Mem.Own 56 Event.cells 7 x.vo x.b.sent :: outA false d :: L)) : St G w0 w (outA false (d ++ [x]) :: L):=by
 have S3:=S.freeze false 0 ecells rfl
 simp only [set_cons_zero] at S3
 have S4:=S3.slsSnoc
 unfold outA;rw [List.map_append,List.map_append];exact S4
theorem ins_append {G : Nat → Prop} {w0 w : World} {L : List Asn} {d e : List BatV} (S : St G w0 w (insA false d :: insA false e :: L)) : St G w0 w (insA false (d ++ e) :: L):=by
 unfold insA;rw [List.map_append,List.map_append];exact S.slsAppend
theorem out_append {G : Nat → Prop} {w0 w : World} {L : List Asn} {d e : List BatV} (S : St G w0 w (outA false d :: outA false e :: L)) : St G w0 w (outA false (d ++ e) :: L):=by
 unfold outA;rw [List.map_append,List.map_append];exact S.slsAppend
def traceA (X R : Nat) (t : TrE) : Asn:=exs false fun q : Value × List ProcV × List BatV=>
 sep false (pur (q.2.1.map ProcV.e = t ∧ ∀ p ∈ q.2.1,∀ x ∈ p.l,x ∈ q.2.2)) (sep false (Blk false X #[.pointer (some ⟨R,0,none⟩),q.1] 89)
  (sep false (Mem.Own 94 ProcV.cells 5 q.1 q.2.1) (sep false (stars (q.2.1.map ProcV.own))
    (sep false (insA false q.2.2) (outA false q.2.2)))))
theorem trace_open {G : Nat → Prop} {w0 w : World} {L : List Asn} {X R : Nat} {t : TrE} (S : St G w0 w (traceA X R t :: L)) :
 ∃ v ps pool,ps.map ProcV.e = t ∧ (∀ p ∈ ps,∀ x ∈ p.l,x ∈ pool) ∧ St G w0 w (insA false pool :: outA false pool :: stars (ps.map ProcV.own) :: Mem.Own 94 ProcV.cells 5 v ps :: Blk false X #[.pointer (some ⟨R,0,none⟩),v] 89 :: L):=by
 obtain ⟨⟨v,ps,pool⟩,S⟩:=S.open_exs (fun _=>rfl)
 obtain ⟨h1,S⟩:=(S.open_sep rfl rfl).open_pur
 exact ⟨v,ps,pool,h1.1,h1.2,(((S.open_sep rfl rfl).swap2.open_sep rfl rfl).swap2.open_sep (stars_sh _) rfl).swap2.open_sep rfl rfl⟩
theorem trace_close {G : Nat → Prop} {w0 w : World} {L : List Asn} {X R : Nat} {t : TrE} {v : Value} {ps : List ProcV} {pool : List BatV} (h1 : ps.map ProcV.e = t) (h2 : ∀ p ∈ ps,∀ x ∈ p.l,x ∈ pool)
 (S : St G w0 w (insA false pool :: outA false pool :: stars (ps.map ProcV.own) :: Mem.Own 94 ProcV.cells 5 v ps :: Blk false X #[.pointer (some ⟨R,0,none⟩),v] 89 :: L)) : St G w0 w (traceA X R t :: L):=
 ((((((S.close_sep rfl rfl).swap2.close_sep (stars_sh _) rfl).swap2.close_sep rfl rfl).swap2.close_sep rfl rfl).close_pur ⟨h1,h2⟩).close_sep rfl rfl).close_exs (A:=fun q : Value × List ProcV × List BatV=>
 sep false (pur (q.2.1.map ProcV.e = t ∧ ∀ p ∈ q.2.1,∀ x ∈ p.l,x ∈ q.2.2)) (sep false (Blk false X #[.pointer (some ⟨R,0,none⟩),q.1] 89)
  (sep false (Mem.Own 94 ProcV.cells 5 q.1 q.2.1) (sep false (stars (q.2.1.map ProcV.own))
    (sep false (insA false q.2.2) (outA false q.2.2)))))) (v,ps,pool) rfl
theorem stars_read : ∀ (ps : List ProcV) (w : World) (F : Nat → Prop),(stars (ps.map ProcV.own)).at_ w F → (Sls true BatV.cells 8 (ps.map ProcV.v) (ps.map (·.l))).at_ w F:=fun ps w F h=>by
 refine ⟨⟨by simp,fun i v xs hv hx=>?_⟩,fun b hb=>(stars _).lt h b hb⟩
 rw [List.getElem?_map,Option.map_eq_some_iff] at hv hx
 obtain ⟨x,hx1,rfl⟩:=hv
 obtain ⟨y,hy1,rfl⟩:=hx
 rw [hx1] at hy1
 cases hy1
 obtain ⟨Fk,g1,g2,_⟩:=stars_part (ps.map ProcV.own) i x.own w F h (by rw [List.getElem?_map,hx1];rfl)
 exact (own_sl (sh:=true) bvcells g1).1.mono g2
theorem traceR_st {X R : Nat} {t : TrE} {w : World} {F : Nat → Prop} (h : (traceA X R t).at_ w F) :
 ∃ v ps pool,ps.map ProcV.e = t ∧ (∀ p ∈ ps,∀ x ∈ p.l,x ∈ pool) ∧ St (fun _=>False) w w [insA true pool,outA true pool,Sls true BatV.cells 8 (ps.map ProcV.v) (ps.map (·.l)),Sl true ProcV.cells 5 v ps,Blk true X #[.pointer (some ⟨R,0,none⟩),v] 89]:=by
 obtain ⟨⟨v,ps,pool⟩,F1,F2,⟨h1,_⟩,⟨F3,F4,h3,⟨F5,F6,h5,⟨F7,F8,h7,⟨F9,F10,h9,h10,_,_⟩,_,_⟩,_,_⟩,_,_⟩,_,_⟩:=h
 refine ⟨v,ps,pool,h1.1,h1.2,?_⟩
 have S1 : St (fun _=>False) w w [Blk true X #[.pointer (some ⟨R,0,none⟩),v] 89]:=(St.init _ w).share rfl rfl h3
 have S2:=S1.share (A:=Sl true ProcV.cells 5 v ps) rfl rfl (own_sl (sh:=true) pvcells h5)
 have S3:=S2.share (A:=Sls true BatV.cells 8 (ps.map ProcV.v) (ps.map (·.l))) rfl rfl (stars_read ps w _ h7)
 have S4:=S3.share (A:=outA true pool) rfl rfl (by exact h10)
 exact S4.share (A:=insA true pool) rfl rfl (by exact h9)
def SmallB (l : List BatE) : Prop:=l.length ≤ 65536 ∧ ∀ b ∈ l,b.ins.length ≤ 65536 ∧ b.sent.length ≤ 65536
def SmallT (t : TrE) : Prop:=t.length ≤ 65536 ∧ ∀ p ∈ t,SmallB p.1
def procN (s : State) : ProcV:=⟨none,0,[],s⟩
theorem stars_nil {G : Nat → Prop} {w0 w : World} {L : List Asn} (S : St G w0 w L) : ∀ (ss : List State),St G w0 w (stars ((ss.map procN).map ProcV.own) :: L)
 | []=>S.starNil
 | _ :: ss=>(((stars_nil S ss).nil 52 BatV.cells 8).close_sep rfl (stars_sh _))
def TNewRel (X R : Nat) (vs hs : List Value) (c : Cfg) (w : World) (i : Value) (wr : World) : Prop:=
 ∃ (j : Nat) (v1 : Value),j ≤ c.lps.length ∧ i = .int .i64 j ∧
  St (fun _=>False) w wr [ModA true 128 R vs hs c,Blk false X #[.pointer (some ⟨R,0,none⟩),v1] 89,Mem.Own 94 ProcV.cells 5 v1 (((c.lps.take j).map (·.first)).map procN)]
def TNewPost (R : Nat) (c : Cfg) (w : World) (e : Ending) (w' : World) : Prop:=
 ∃ X,e = .returned (.tuple #[.pointer (some ⟨X,0,none⟩),.int .i64 0]) ∧ St (fun _=>False) w w' [traceA X R (newT c)]
theorem tnew_calls (R : Nat) (vs hs : List Value) (c : Cfg) (w : World) (F : Nat → Prop) (h : (ModA true 128 R vs hs c).at_ w F) (hn : c.lps.length ≤ 32) :
 Calls Tryz.prog 15 #[.pointer (some ⟨R,0,none⟩)] w (TNewPost R c w):=by
 have S : St (fun _=>False) w w [ModA true 128 R vs hs c]:=(St.init _ w).share rfl rfl h
 clear h
 go_enter Tryz.func15,Tryz.ntmps15
 go_wp2_with first | ((with_reducible apply wps_boxa (E:=89) S);(case hx=>rfl);clear S;intro bx wz S) | (go_at_call 45;refine Calls.mono (lps_calls _ _ _ _ _ _ (S.get (i:=1) rfl).choose_spec) ?_;rintro e wz ⟨rfl,hE⟩;replace S:=S.ext (Keep.of_below hE);clear hE)
 go_loopw [13] (fun i wr=>TNewRel bx R vs hs c w i wr) (fun i _=>c.lps.length - (intOf i).toNat)
 case atStart=>
  exact ⟨0,.slice none 0 0,Nat.zero_le _,rfl,((S.nil 94 ProcV.cells 5).pick [2,1,0] rfl)⟩
 case round=>
  clear S
  obtain ⟨j,v1,hj,rfl,S⟩:=hrel
  by_cases hlt : j < c.lps.length
  · obtain ⟨p,hp⟩ : ∃ p,c.lps[j]? = some p:=⟨_,List.getElem?_eq_getElem hlt⟩
    have hlt2 : (j : Int) < c.lps.length:=by omega
    obtain ⟨ssj,HSJ⟩ : ∃ l,Hid (((c.lps.take j).map (·.first)).map procN = l):=⟨_,rfl⟩
    rw [HSJ.out] at S
    have htl : Hid (ssj.length = j):=Lib.hid (by rw [← HSJ.out,List.length_map,List.length_map,List.length_take];omega)
    have hcl1 : ssj.length < 4294967296:=by rw [htl.out];omega
    have HTS : Hid (((c.lps.take (j + 1)).map (·.first)).map procN = ssj ++ [procN p.first]):=Lib.hid (by rw [take_snoc hp,List.map_append,List.map_append,HSJ.out];rfl)
    obtain ⟨a1,c1,rfl,_⟩:=(S.ownsl pvcells 2 rfl).elim fun _ h=>h.form
    have Hp:=Lib.hid hp
    clear hp
    go_upto_region 7 with first | ((with_reducible apply wps_load S 3);(case hx|hi|hu=>rfl);(case hT=>decide +kernel))
    (refine wp_region_wt (soft:=[0,1,2,3,5,6]) (L:=[_]) (T:=[_,_]) S ?hm ?hB ?_);(case hm=>kernel_rfl);(case hB=>decide +kernel);clear S
    iterate 6
     (with_reducible apply softs_cons)
     (case hw=>
       (with_reducible apply soft_of);(case hi=>rfl)
       intro T wz S
       simp only [cons_append,nil_append] at S
       go_wp2_with first | ((with_reducible refine tot_done ?ht ?_);(case ht=>kernel_rfl))
       exact ⟨rfl,S⟩)
     (case hs=>exact ⟨_,rfl,by kernel_rfl⟩)
    refine softs_nil ?_
    (with_reducible apply W_hard2 (i:=4) (i':=7));(case hn=>rfl);(case hr=>decide +kernel)
    focus
     intro wz S
     (with_reducible apply hard_of);(case hi=>rfl)
     simp only [cons_append,nil_append] at S
     go_wp2_with first | ((with_reducible refine tot_done ?ht ?_);(case ht=>kernel_rfl)) | ((with_reducible apply wps_load S 1);(case hx|hi|hu=>rfl);(case hT=>decide +kernel))
     refine ⟨_,S,?_⟩
     clear S
     (with_reducible apply W_hard1 (i:=7));(case hn=>rfl);(case hr=>decide +kernel)
     intro wz S
     (with_reducible apply hard_of);(case hi=>rfl)
     simp only [cons_append,nil_append] at S
     go_wp2_with first | (go_at_call 46;refine Calls.mono (first_at _ _ _ _ _ _ j p (S.get (i:=0) rfl).choose_spec Hp.out) ?_;rintro e wz ⟨rfl,hE⟩;replace S:=S.ext (Keep.of_below hE);clear hE) | ((with_reducible refine tot_done ?ht ?_);(case ht=>kernel_rfl))
     refine ⟨_,S,?_⟩
     clear S
     (refine W_mid (f:=5) (soft:=[8]) rfl ?hB ?_);(case hB=>decide +kernel)
     iterate 1
      (with_reducible apply softs_cons)
      (case hw=>
        (with_reducible apply soft_of);(case hi=>rfl)
        intro T wz S
        simp only [cons_append,nil_append] at S
        go_wp2_with first | ((with_reducible refine tot_done ?ht ?_);(case ht=>kernel_rfl))
        exact ⟨rfl,S⟩)
      (case hs=>exact ⟨_,rfl,by kernel_rfl⟩)
     refine softs_nil ?_
     (with_reducible apply W_hard1 (i:=9));(case hn=>rfl);(case hr=>decide +kernel)
     intro wz S
     (with_reducible apply hard_of);(case hi=>rfl)
     simp only [cons_append,nil_append] at S
     go_wp2_with first | ((with_reducible apply wps_build1a (T:=87) (E:=94) S);(case hx=>rfl);(case hr=>intro w;kernel_rfl);clear S;intro bz wz S) | ((with_reducible refine tot_done ?ht ?_);(case ht=>kernel_rfl))
     refine ⟨_,S.pick [1,2,3,0] rfl,?_⟩
     clear S
     (with_reducible apply W_hard1 (i:=10));(case hn=>rfl);(case hr=>decide +kernel)
     intro wz S
     (with_reducible apply hard_of);(case hi=>rfl)
     simp only [cons_append,nil_append] at S
     go_wp2_with first | ((with_reducible apply wps_append1 elem_Proc pvcells pvone (by decide) S 2 (j:=3) (e:=procN p.first));(case hx|hy|hi|hj|he=>rfl);(case hl=>omega);clear S;intro az nz cz wz hnz S;simp only [set_cons_succ] at S) | ((with_reducible refine tot_done ?ht ?_);(case ht=>kernel_rfl))
     refine ⟨_,S,?_⟩
     clear S
     (refine W_mid (f:=1) (soft:=[11,12]) rfl ?hB ?_);(case hB=>decide +kernel)
     iterate 2
      (with_reducible apply softs_cons)
      (case hw=>
        (with_reducible apply soft_of);(case hi=>rfl)
        intro T wz S
        simp only [cons_append,nil_append] at S
        go_wp2_with first | ((with_reducible refine tot_done ?ht ?_);(case ht=>kernel_rfl))
        exact ⟨rfl,S⟩)
      (case hs=>exact ⟨_,rfl,by kernel_rfl⟩)
     refine softs_nil ?_
     (with_reducible apply W_hard1 (i:=13));(case hn=>rfl);(case hr=>decide +kernel)
     intro wz S
     (with_reducible apply hard_of);(case hi=>rfl)
     simp only [cons_append,nil_append] at S
     go_wp2_with first | ((with_reducible apply wps_store (u:=(.slice az nz cz)) S 1);(case hx|hy|hi|h1=>rfl);(case hn=>exact nle rfl);(case hT=>decide +kernel);clear S;intro wz S;simp only [set_cons_succ,set_cons_zero,setIfInBounds_toArray] at S) | ((with_reducible refine tot_done ?ht ?_);(case ht=>kernel_rfl))
     refine ⟨_,S,?_⟩
     clear S
     (with_reducible apply W_done);(case hn=>rfl);(case hr=>decide +kernel)
     intro wz S
     repeat (first | simp only at S | simp only [pick] at S | simp only [nth] at S | simp only [set_cons_succ] at S | simp only [set_cons_zero] at S | simp only [setIfInBounds_toArray] at S | simp only [setAll] at S | simp only [cons_append] at S | simp only [nil_append] at S | simp only [List.append_nil] at S)
    rotate_left 1
    focus
     intro wz S
     (with_reducible apply hard_of);(case hi=>rfl)
     simp only [cons_append,nil_append] at S
     go_wp2_with first | (go_at_call 46;refine Calls.mono (first_at _ _ _ _ _ _ j p (S.get (i:=0) rfl).choose_spec Hp.out) ?_;rintro e wz ⟨rfl,hE⟩;replace S:=S.ext (Keep.of_below hE);clear hE) | ((with_reducible refine tot_done ?ht ?_);(case ht=>kernel_rfl))
     refine ⟨_,S,?_⟩
     clear S
     (refine W_mid (f:=6) (soft:=[8]) rfl ?hB ?_);(case hB=>decide +kernel)
     iterate 1
      (with_reducible apply softs_cons)
      (case hw=>
        (with_reducible apply soft_of);(case hi=>rfl)
        intro T wz S
        simp only [cons_append,nil_append] at S
        go_wp2_with first | ((with_reducible refine tot_done ?ht ?_);(case ht=>kernel_rfl))
        exact ⟨rfl,S⟩)
      (case hs=>exact ⟨_,rfl,by kernel_rfl⟩)
     refine softs_nil ?_
     (with_reducible apply W_hard2 (i:=4) (i':=9));(case hn=>rfl);(case hr=>decide +kernel)
     focus
      intro wz S
      (with_reducible apply hard_of);(case hi=>rfl)
      simp only [cons_append,nil_append] at S
      go_wp2_with first | ((with_reducible refine tot_done ?ht ?_);(case ht=>kernel_rfl)) | ((with_reducible apply wps_load S 1);(case hx|hi|hu=>rfl);(case hT=>decide +kernel))
      refine ⟨_,S,?_⟩
      clear S
      (with_reducible apply W_hard1 (i:=9));(case hn=>rfl);(case hr=>decide +kernel)
      intro wz S
      (with_reducible apply hard_of);(case hi=>rfl)
      simp only [cons_append,nil_append] at S
      go_wp2_with first | ((with_reducible apply wps_build1a (T:=87) (E:=94) S);(case hx=>rfl);(case hr=>intro w;kernel_rfl);clear S;intro bz wz S) | ((with_reducible refine tot_done ?ht ?_);(case ht=>kernel_rfl))
      refine ⟨_,S.pick [1,2,3,0] rfl,?_⟩
      clear S
      (with_reducible apply W_hard1 (i:=10));(case hn=>rfl);(case hr=>decide +kernel)
      intro wz S
      (with_reducible apply hard_of);(case hi=>rfl)
      simp only [cons_append,nil_append] at S
      go_wp2_with first | ((with_reducible apply wps_append1 elem_Proc pvcells pvone (by decide) S 2 (j:=3) (e:=procN p.first));(case hx|hy|hi|hj|he=>rfl);(case hl=>omega);clear S;intro az nz cz wz hnz S;simp only [set_cons_succ] at S) | ((with_reducible refine tot_done ?ht ?_);(case ht=>kernel_rfl))
      refine ⟨_,S,?_⟩
      clear S
      (refine W_mid (f:=1) (soft:=[11,12]) rfl ?hB ?_);(case hB=>decide +kernel)
      iterate 2
       (with_reducible apply softs_cons)
       (case hw=>
         (with_reducible apply soft_of);(case hi=>rfl)
         intro T wz S
         simp only [cons_append,nil_append] at S
         go_wp2_with first | ((with_reducible refine tot_done ?ht ?_);(case ht=>kernel_rfl))
         exact ⟨rfl,S⟩)
       (case hs=>exact ⟨_,rfl,by kernel_rfl⟩)
      refine softs_nil ?_
      (with_reducible apply W_hard1 (i:=13));(case hn=>rfl);(case hr=>decide +kernel)
      intro wz S
      (with_reducible apply hard_of);(case hi=>rfl)
      simp only [cons_append,nil_append] at S
      go_wp2_with first | ((with_reducible apply wps_store (u:=(.slice az nz cz)) S 1);(case hx|hy|hi|h1=>rfl);(case hn=>exact nle rfl);(case hT=>decide +kernel);clear S;intro wz S;simp only [set_cons_succ,set_cons_zero,setIfInBounds_toArray] at S) | ((with_reducible refine tot_done ?ht ?_);(case ht=>kernel_rfl))
      refine ⟨_,S,?_⟩
      clear S
      (with_reducible apply W_done);(case hn=>rfl);(case hr=>decide +kernel)
      intro wz S
      repeat (first | simp only at S | simp only [pick] at S | simp only [nth] at S | simp only [set_cons_succ] at S | simp only [set_cons_zero] at S | simp only [setIfInBounds_toArray] at S | simp only [setAll] at S | simp only [cons_append] at S | simp only [nil_append] at S | simp only [List.append_nil] at S)
     rotate_left 1
     focus
      intro wz S
      (with_reducible apply hard_of);(case hi=>rfl)
      simp only [cons_append,nil_append] at S
      go_wp2_with first | ((with_reducible apply wps_build1a (T:=87) (E:=94) S);(case hx=>rfl);(case hr=>intro w;kernel_rfl);clear S;intro bz wz S) | ((with_reducible refine tot_done ?ht ?_);(case ht=>kernel_rfl))
      refine ⟨_,S.pick [1,2,3,0] rfl,?_⟩
      clear S
      (with_reducible apply W_hard1 (i:=4));(case hn=>rfl);(case hr=>decide +kernel)
      intro wz S
      (with_reducible apply hard_of);(case hi=>rfl)
      simp only [cons_append,nil_append] at S
      go_wp2_with first | ((with_reducible refine tot_done ?ht ?_);(case ht=>kernel_rfl)) | ((with_reducible apply wps_load S 1);(case hx|hi|hu=>rfl);(case hT=>decide +kernel))
      refine ⟨_,S,?_⟩
      clear S
      (with_reducible apply W_hard1 (i:=10));(case hn=>rfl);(case hr=>decide +kernel)
      intro wz S
      (with_reducible apply hard_of);(case hi=>rfl)
      simp only [cons_append,nil_append] at S
      go_wp2_with first | ((with_reducible apply wps_append1 elem_Proc pvcells pvone (by decide) S 2 (j:=3) (e:=procN p.first));(case hx|hy|hi|hj|he=>rfl);(case hl=>omega);clear S;intro az nz cz wz hnz S;simp only [set_cons_succ] at S) | ((with_reducible refine tot_done ?ht ?_);(case ht=>kernel_rfl))
      refine ⟨_,S,?_⟩
      clear S
      (refine W_mid (f:=1) (soft:=[11,12]) rfl ?hB ?_);(case hB=>decide +kernel)
      iterate 2
       (with_reducible apply softs_cons)
       (case hw=>
         (with_reducible apply soft_of);(case hi=>rfl)
         intro T wz S
         simp only [cons_append,nil_append] at S
         go_wp2_with first | ((with_reducible refine tot_done ?ht ?_);(case ht=>kernel_rfl))
         exact ⟨rfl,S⟩)
       (case hs=>exact ⟨_,rfl,by kernel_rfl⟩)
      refine softs_nil ?_
      (with_reducible apply W_hard1 (i:=13));(case hn=>rfl);(case hr=>decide +kernel)
      intro wz S
      (with_reducible apply hard_of);(case hi=>rfl)
      simp only [cons_append,nil_append] at S
      go_wp2_with first | ((with_reducible apply wps_store (u:=(.slice az nz cz)) S 1);(case hx|hy|hi|h1=>rfl);(case hn=>exact nle rfl);(case hT=>decide +kernel);clear S;intro wz S;simp only [set_cons_succ,set_cons_zero,setIfInBounds_toArray] at S) | ((with_reducible refine tot_done ?ht ?_);(case ht=>kernel_rfl))
      refine ⟨_,S,?_⟩
      clear S
      (with_reducible apply W_done);(case hn=>rfl);(case hr=>decide +kernel)
      intro wz S
      repeat (first | simp only at S | simp only [pick] at S | simp only [nth] at S | simp only [set_cons_succ] at S | simp only [set_cons_zero] at S | simp only [setIfInBounds_toArray] at S | simp only [setAll] at S | simp only [cons_append] at S | simp only [nil_append] at S | simp only [List.append_nil] at S)
    all_goals
     go_wp2_with first | ((with_reducible apply wps_load S 3);(case hx|hi|hu=>rfl);(case hT=>decide +kernel))
     go_roundw
     case rel=>
      refine ⟨j + 1,.slice az nz cz,by omega,by go_num,?_⟩
      rw [HTS.out]
      exact S.pick [0,1,2] rfl
     case measure=>simp [intOf];omega
  · obtain rfl : j = c.lps.length:=by omega
    rw [List.take_length] at S
    have S2:=(((stars_nil S (c.lps.map (·.first))).slsNil Event.cells 7).slsNil Event.cells 7).pick [0,1,2,5,4] rfl
    simp only [pick,nth] at S2
    have S3:=trace_close (t:=newT c) (ps:=(c.lps.map (·.first)).map procN) (pool:=[]) (by simp [newT,procN,ProcV.e]) (fun p hp x hx=>by obtain ⟨s,_,rfl⟩:=List.mem_map.1 hp;simp [procN] at hx) S2
    clear S2
    go_wp2_with first | ((with_reducible apply wps_load S 3);(case hx|hi|hu=>rfl);(case hT=>decide +kernel))
    (try simp only [Exit.inBlock,Exit.then]);refine bodyPost_ret (results2 rfl (res_tmp rfl) (res_tmp rfl)) rfl ?_
    exact ⟨bx,rfl,S3⟩
end Go.Proofs.YtcnfionnnpnplaaGreatDoor
