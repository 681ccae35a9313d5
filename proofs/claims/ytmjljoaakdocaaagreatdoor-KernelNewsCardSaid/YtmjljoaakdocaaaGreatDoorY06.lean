import Derived.Test.YtmjljoaakdocaaaGreatDoorY05
/- The walks of model.within, first, sizes, starts, programs, ends, times. -/
set_option maxHeartbeats 16000000
set_option maxRecDepth 100000
namespace Go.Proofs.YtmjljoaakdocaaaGreatDoor
open Go Go.RowKit Reg Mem
open List (set_cons_succ set_cons_zero setIfInBounds_toArray cons_append nil_append)
def intE (x : Int) : List Value:=[.int .i64 x]
theorem intE_len : ∀ x,(intE x).length = 1:=fun _=>rfl
theorem intE_one : ∀ x,∀ u ∈ intE x,u.oneCell' = true:=fun x u hu=>by simp [intE] at hu;subst hu;rfl
def withinE (n a b : Int) : Int:=if n < a ∨ b < n then 10 else 0
theorem within_calls (n a b : Int) (w : World) : Calls Tryz.prog 148 #[.int .i64 n,.int .i64 a,.int .i64 b] w fun r w'=>r = .returned (.int .i64 (withinE n a b)) ∧ Below w.heap.size w w':=by
 have S:=St.init (fun _=>False) w
 by_cases h1 : n < a
 · go_enter Tryz.func148,Tryz.ntmps148
   go_wp2_with first | ((with_reducible refine tot_done ?ht ?_);(case ht=>kernel_rfl))
   go_ret
   exact ⟨ret_int (by simp [withinE,h1]),S.below⟩
 · by_cases h2 : b < n
   · go_enter Tryz.func148,Tryz.ntmps148
     go_wp2_with first | ((with_reducible refine tot_done ?ht ?_);(case ht=>kernel_rfl))
     go_ret
     exact ⟨ret_int (by simp [withinE,h2]),S.below⟩
   · go_enter Tryz.func148,Tryz.ntmps148
     go_wp2_with first | ((with_reducible refine tot_done ?ht ?_);(case ht=>kernel_rfl))
     go_ret
     exact ⟨ret_int (by unfold withinE;rw [if_neg (by omega)]),S.below⟩
def FirstRel (v : Value) (l : List Int) (w : World) (i : Value) (wr : World) : Prop:=
 ∃ j : Nat,j ≤ l.length ∧ i = .int .i64 j ∧ Hid (∀ (q : Nat) y,q < j → l[q]? = some y → y = 0) ∧ St (fun _=>False) w wr [Sl true intE 1 v l]
theorem first_calls (v : Value) (l : List Int) (w : World) (F : Nat → Prop) (h : (Sl true intE 1 v l).at_ w F) (hn : l.length ≤ 65536) : Calls Tryz.prog 106 #[v] w fun r w'=>r = .returned (.int .i64 (firstE l)) ∧ Below w.heap.size w w':=by
 have S : St (fun _=>False) w w [Sl true intE 1 v l]:=(St.init _ w).share rfl rfl h
 obtain ⟨ad,cp,rfl,_⟩:=(S.sl 0 rfl).elim fun _ h=>h.form
 clear h
 go_enter Tryz.func106,Tryz.ntmps106
 go_wp2_with first | ((with_reducible apply wps_load S 0);(case hx|hi|hu=>rfl);(case hT=>decide +kernel))
 go_loopw [7] (fun i wr=>FirstRel (.slice ad l.length cp) l w i wr) (fun i _=>l.length - (intOf i).toNat)
 case atStart=>exact ⟨0,Nat.zero_le _,rfl,fun q y h=>by omega,S⟩
 case round=>
  clear S
  obtain ⟨j,hj,rfl,Hz,S⟩:=hrel
  by_cases hlt : j < l.length
  · obtain ⟨x,hx⟩ : ∃ x,l[j]? = some x:=⟨_,List.getElem?_eq_getElem hlt⟩
    obtain ⟨R,o,rfl⟩ : ∃ R o,ad = some ⟨R,o,none⟩:=(S.sl 0 rfl).elim fun F h=>h.head (by omega)
    have hlt2 : (j : Int) < l.length:=by omega
    have Hx:=Lib.hid hx
    clear hx
    by_cases h0 : x = 0
    · subst h0
      go_wp2_with first | ((with_reducible apply wps_load_el S 0 (hj:=Hx.out) (q:=0) (u:=(.int .i64 0)));(case hx|hi=>rfl);(case hn=>omega);(case hu=>rfl);(case hT=>decide +kernel))
      go_roundw
      case rel=>
       refine ⟨j + 1,by omega,by go_num,fun q y hq hy=>?_,S⟩
       by_cases e : q = j
       · subst e;rw [Hx.out] at hy;cases hy;rfl
       · exact Hz.out q y (by omega) hy
      case measure=>first | (simp [intOf];done) | (simp [intOf];omega)
    · have h1 : (x != 0) = true:=by simpa using h0
      have H0:=Lib.hid h0
      clear h0
      go_wp2_with first | ((with_reducible apply wps_load_el S 0 (hj:=Hx.out) (q:=0) (u:=(.int .i64 x)));(case hx|hi=>rfl);(case hn=>omega);(case hu=>rfl);(case hT=>decide +kernel))
      go_ret
      exact ⟨ret_int (firstE_at Hz.out Hx.out H0.out).symm,S.below⟩
  · obtain rfl : j = l.length:=by omega
    go_wp2_with first | ((with_reducible apply wps_load S 0);(case hx|hi|hu=>rfl);(case hT=>decide +kernel))
    go_ret
    exact ⟨ret_int (firstE_none (fun q y hy=>Hz.out q y (List.getElem?_eq_some_iff.1 hy).1 hy)).symm,S.below⟩
theorem sizes_calls (aP aL aS : Option Addr) (nP cP nL cL nS cS : Nat) (fin fuel fan : Int) (w : World) :
 Calls Tryz.prog 107 #[.agg #[.slice aP nP cP,.slice aL nL cL,.slice aS nS cS,.int .i64 fin,.int .i64 fuel,.int .i64 fan]] w fun r w'=>
  r = .returned (.int .i64 (firstE [withinE nL 1 32,withinE nP 1 32,withinE fin 1 1073741824,withinE fuel 1 1024,withinE fan 0 8])) ∧ Below w.heap.size w w':=by
 have S:=St.init (fun _=>False) w
 go_enter Tryz.func107,Tryz.ntmps107
 go_wp2_with first | ((with_reducible apply wps_boxa S);(case hx=>rfl);clear S;intro bz wz S)
 (refine wp_region_w (soft:=[0,1,2,3,4,5,6,7,8,9,10,11,12,13,14,15,16]) S ?hm ?hB ?_);(case hm=>kernel_rfl);(case hB=>decide +kernel);clear S
 iterate 17
  (with_reducible apply softs_cons)
  (case hw=>
    (with_reducible apply soft_of);(case hi=>rfl)
    intro T wz S
    simp only [cons_append,nil_append] at S
    go_wp2_with first | (go_at_call 148;refine Calls.mono (within_calls _ _ _ _) ?_;rintro e wz ⟨rfl,hE⟩;replace S:=S.ext (Keep.of_below hE);clear hE) | ((with_reducible refine tot_done ?ht ?_);(case ht=>kernel_rfl)) | ((with_reducible apply wps_load S 0);(case hx|hi|hu=>rfl);(case hT=>decide +kernel))
    exact ⟨rfl,S⟩)
  (case hs=>exact ⟨_,rfl,by kernel_rfl⟩)
 refine softs_nil ?_
 repeat'
  (first
    | ((with_reducible apply W_hard1 (i:=17));(case hn=>rfl);(case hr=>decide +kernel)) | ((with_reducible apply W_hard1 (i:=18));(case hn=>rfl);(case hr=>decide +kernel)) | ((with_reducible apply W_hard1 (i:=19));(case hn=>rfl);(case hr=>decide +kernel)) | ((with_reducible apply W_hard2 (i:=18) (i':=19));(case hn=>rfl);(case hr=>decide +kernel)))
  all_goals
   intro wz S
   (with_reducible apply hard_of);(case hi=>rfl)
   simp only [cons_append,nil_append] at S
   try simp only [pick,nth] at S
   go_wp2_with first | ((with_reducible apply wps_buildSlice (T:=277) (E:=25) (cs:=#[.int .i64 (withinE nL 1 32),.int .i64 (withinE nP 1 32),.int .i64 (withinE fin 1 1073741824),.int .i64 (withinE fuel 1 1024),.int .i64 (withinE fan 0 8)]) S);(case hr=>intro w;kernel_rfl);clear S;intro bz wz S) | (go_at_call 106;refine Calls.mono (first_calls _ [withinE nL 1 32,withinE nP 1 32,withinE fin 1 1073741824,withinE fuel 1 1024,withinE fan 0 8] _ _ (blk_sl _ intE_len (S.get (i:=1) rfl).choose_spec rfl rfl) (Nat.le_of_ble_eq_true rfl)) ?_;rintro e wz ⟨rfl,hE⟩;replace S:=S.ext (Keep.of_below hE);clear hE) | ((with_reducible refine tot_done ?ht ?_);(case ht=>kernel_rfl))
   first
    | refine ⟨_,S.pick [1,2,3,4,5,0] rfl,?_⟩
    | refine ⟨_,S.pick [1,2,3,4,0] rfl,?_⟩
    | refine ⟨_,S.pick [1,2,3,0] rfl,?_⟩
    | refine ⟨_,S.pick [1,2,0] rfl,?_⟩
    | refine ⟨_,S.pick [1,0] rfl,?_⟩
    | refine ⟨_,S,?_⟩
 (with_reducible apply W_done);(case hn=>rfl);(case hr=>decide +kernel)
 clear S
 intro wz S
 simp only [cons_append,nil_append] at S
 try simp only [pick,nth] at S
 go_wp2_with first | ((with_reducible apply wps_load S 0);(case hx|hi|hu=>rfl);(case hT=>decide +kernel))
 go_ret
 exact ⟨ret_int rfl,S.below⟩
theorem starts_calls (aP aL aS : Option Addr) (nP cP nL cL nS cS : Nat) (fin fuel fan : Int) (w : World) :
 Calls Tryz.prog 108 #[.agg #[.slice aP nP cP,.slice aL nL cL,.slice aS nS cS,.int .i64 fin,.int .i64 fuel,.int .i64 fan]] w fun r w'=>
  r = .returned (.int .i64 (if 256 < nS then 11 else 0)) ∧ Below w.heap.size w w':=by
 have S:=St.init (fun _=>False) w
 by_cases h : (256 : Int) < nS
 · go_enter Tryz.func108,Tryz.ntmps108
   go_wp2_with first | ((with_reducible apply wps_boxa S);(case hx=>rfl);clear S;intro bz wz S) | ((with_reducible apply wps_load S 0);(case hx|hi|hu=>rfl);(case hT=>decide +kernel))
   go_ret
   exact ⟨ret_int (by first | rfl | rw [if_pos (by omega)]),S.below⟩
 · go_enter Tryz.func108,Tryz.ntmps108
   go_wp2_with first | ((with_reducible apply wps_boxa S);(case hx=>rfl);clear S;intro bz wz S) | ((with_reducible apply wps_load S 0);(case hx|hi|hu=>rfl);(case hT=>decide +kernel))
   go_ret
   exact ⟨ret_int (by first | rfl | rw [if_neg (by omega)]),S.below⟩
def ProgRel (bz : Nat) (cs : Array Value) (vP : Value) (hs : List Value) (ps : List (List Instr)) (w : World) (i : Value) (wr : World) : Prop:=
 ∃ j : Nat,j ≤ ps.length ∧ i = .int .i64 j ∧ Hid (∀ (q : Nat) y,q < j → ps[q]? = some y → codeE y = 0) ∧ St (fun _=>False) w wr [Blk false bz cs 43,Sl true vcell 1 vP hs,Sls true Instr.cells 5 hs ps,Tab]
theorem programs_calls (aP aL aS : Option Addr) (cP nL cL nS cS : Nat) (fin fuel fan : Int) (hs : List Value) (ps : List (List Instr)) (w : World) (F1 F2 F3 : Nat → Prop)
 (h1 : (Sl true vcell 1 (.slice aP ps.length cP) hs).at_ w F1) (h2 : (Sls true Instr.cells 5 hs ps).at_ w F2) (h3 : Tab.at_ w F3) (hn : ps.length ≤ 65536) :
 Calls Tryz.prog 109 #[.agg #[.slice aP ps.length cP,.slice aL nL cL,.slice aS nS cS,.int .i64 fin,.int .i64 fuel,.int .i64 fan]] w fun r w'=>
  r = .returned (.int .i64 (firstE (ps.map codeE))) ∧ Below w.heap.size w w':=by
 have S : St (fun _=>False) w w [Sl true vcell 1 (.slice aP ps.length cP) hs,Sls true Instr.cells 5 hs ps,Tab]:=(((St.init _ w).share rfl rfl h3).share rfl rfl h2).share rfl rfl h1
 have hlen : hs.length = ps.length:=h2.1.1
 clear h1 h2 h3
 go_enter Tryz.func109,Tryz.ntmps109
 go_wp2_with first | ((with_reducible apply wps_boxa S);(case hx=>rfl);clear S;intro bx wz S) | ((with_reducible apply wps_load S 0);(case hx|hi|hu=>rfl);(case hT=>decide +kernel))
 go_loopw [10] (fun i wr=>ProgRel bx #[.slice aP ps.length cP,.slice aL nL cL,.slice aS nS cS,.int .i64 fin,.int .i64 fuel,.int .i64 fan] (.slice aP ps.length cP) hs ps w i wr) (fun i _=>ps.length - (intOf i).toNat)
 case atStart=>exact ⟨0,Nat.zero_le _,rfl,fun q y h=>by omega,S⟩
 case round=>
  clear S
  obtain ⟨j,hj,rfl,Hz,S⟩:=hrel
  by_cases hlt : j < ps.length
  · obtain ⟨p,hp⟩ : ∃ p,ps[j]? = some p:=⟨_,List.getElem?_eq_getElem hlt⟩
    obtain ⟨v,hv⟩ : ∃ v,hs[j]? = some v:=⟨_,List.getElem?_eq_getElem (by omega)⟩
    obtain ⟨R,o,rfl⟩ : ∃ R o,aP = some ⟨R,o,none⟩:=(S.sl 1 rfl).elim fun F h=>h.head (by omega)
    have hlt2 : (j : Int) < ps.length:=by omega
    obtain ⟨m,hm⟩ : ∃ m,codeE p = m:=⟨_,rfl⟩
    have hc:=fun w F F2 h h2=>code_calls v p w F F2 h h2
    rw [hm] at hc
    have Hp:=Lib.hid hp
    have Hv:=Lib.hid hv
    have Hc:=Lib.hid hc
    have Hm:=Lib.hid hm
    clear hp hv hc hm
    by_cases h0 : m = 0
    · subst h0
      go_wp2_with first | ((with_reducible apply wps_load_el S 1 (hj:=Hv.out) (q:=0) (u:=v));(case hx|hi=>rfl);(case hn=>omega);(case hu=>rfl);(case hT=>decide +kernel)) | (go_at_call 149;refine Calls.mono (Hc.out _ _ _ ((S.slsEl 2 rfl Hv.out Hp.out).get (i:=0) rfl).choose_spec (S.get (i:=3) rfl).choose_spec) ?_;rintro e wz ⟨rfl,hE⟩;replace S:=S.ext (Keep.of_below hE);clear hE)
      go_roundw
      case rel=>
       refine ⟨j + 1,by omega,by go_num,fun q y hq hy=>?_,S⟩
       by_cases e : q = j
       · subst e;rw [Hp.out] at hy;cases hy;exact Hm.out
       · exact Hz.out q y (by omega) hy
      case measure=>first | (simp [intOf];done) | (simp [intOf];omega)
    · have h1 : (m != 0) = true:=by simpa using h0
      have H0:=Lib.hid h0
      clear h0
      go_wp2_with first | ((with_reducible apply wps_load_el S 1 (hj:=Hv.out) (q:=0) (u:=v));(case hx|hi=>rfl);(case hn=>omega);(case hu=>rfl);(case hT=>decide +kernel)) | (go_at_call 149;refine Calls.mono (Hc.out _ _ _ ((S.slsEl 2 rfl Hv.out Hp.out).get (i:=0) rfl).choose_spec (S.get (i:=3) rfl).choose_spec) ?_;rintro e wz ⟨rfl,hE⟩;replace S:=S.ext (Keep.of_below hE);clear hE)
      go_ret
      refine ⟨ret_int ?_,S.below⟩
      refine (firstE_at (j:=j) (fun q y hq hy=>?_) (by rw [List.getElem?_map,Hp.out];simp [Hm.out]) H0.out).symm
      rw [List.getElem?_map] at hy
      cases hp : ps[q]? with
      | none=>rw [hp] at hy;cases hy
      | some z=>rw [hp] at hy;simp at hy;subst hy;exact Hz.out q z hq hp
  · obtain rfl : j = ps.length:=by omega
    go_wp2_with first | ((with_reducible apply wps_load S 0);(case hx|hi|hu=>rfl);(case hT=>decide +kernel))
    go_ret
    refine ⟨ret_int (firstE_none fun q y hy=>?_).symm,S.below⟩
    rw [List.getElem?_map] at hy
    cases hp : ps[q]? with
    | none=>rw [hp] at hy;cases hy
    | some z=>rw [hp] at hy;simp at hy;subst hy;exact Hz.out q z (List.getElem?_eq_some_iff.1 hp).1 hp
def plOk (n : Nat) (p : Place) : Prop:=0 ≤ p.program ∧ p.program < n
def stOk (n : Nat) (s : Start) : Prop:=0 ≤ s.dst ∧ s.dst < n
instance (n : Nat) (p : Place) : Decidable (plOk n p):=by unfold plOk;infer_instance
instance (n : Nat) (p : Start) : Decidable (stOk n p):=by unfold stOk;infer_instance
def EndRel1 (bz : Nat) (cs : Array Value) (vL vS : Value) (nP : Nat) (ls : List Place) (ss : List Start) (w : World) (i : Value) (wr : World) : Prop:=
 ∃ j : Nat,j ≤ ls.length ∧ i = .int .i64 j ∧ Hid (∀ (q : Nat) y,q < j → ls[q]? = some y → plOk nP y) ∧ St (fun _=>False) w wr [Blk false bz cs 43,Sl true Place.cells 5 vL ls,Sl true Start.cells 4 vS ss]
def EndRel2 (bz : Nat) (cs : Array Value) (vS : Value) (nL : Nat) (ss : List Start) (w : World) (i : Value) (wr : World) : Prop:=
 ∃ j : Nat,j ≤ ss.length ∧ i = .int .i64 j ∧ Hid (∀ (q : Nat) y,q < j → ss[q]? = some y → stOk nL y) ∧ St (fun _=>False) w wr [Blk false bz cs 43,Sl true Start.cells 4 vS ss]
theorem all_of {α : Type} {l : List α} {P : α → Prop} (h : ∀ (q : Nat) y,q < l.length → l[q]? = some y → P y) : ∀ y ∈ l,P y:=fun y hy=>by
 obtain ⟨q,hq,rfl⟩:=List.mem_iff_getElem.1 hy
 exact h q _ hq (List.getElem?_eq_getElem hq)
theorem snoc_all {α : Type} {l : List α} {P : α → Prop} {j : Nat} {x : α} (h : ∀ (q : Nat) y,q < j → l[q]? = some y → P y) (hx : l[j]? = some x) (hp : P x) : ∀ (q : Nat) y,q < j + 1 → l[q]? = some y → P y:=fun q y hq hy=>by
 by_cases e : q = j
 · subst e;rw [hx] at hy;cases hy;exact hp
 · exact h q y (by omega) hy
theorem ends_calls (aP aL aS : Option Addr) (nP cP cL cS : Nat) (fin fuel fan : Int) (ls : List Place) (ss : List Start) (w : World) (F1 F2 : Nat → Prop)
 (h1 : (Sl true Place.cells 5 (.slice aL ls.length cL) ls).at_ w F1) (h2 : (Sl true Start.cells 4 (.slice aS ss.length cS) ss).at_ w F2) (hn : ls.length ≤ 65536) (hn2 : ss.length ≤ 65536) :
 Calls Tryz.prog 110 #[.agg #[.slice aP nP cP,.slice aL ls.length cL,.slice aS ss.length cS,.int .i64 fin,.int .i64 fuel,.int .i64 fan]] w fun r w'=>
  r = .returned (.int .i64 (if (∀ p ∈ ls,plOk nP p) ∧ (∀ s ∈ ss,stOk ls.length s) then 0 else 14)) ∧ Below w.heap.size w w':=by
 have S : St (fun _=>False) w w [Sl true Place.cells 5 (.slice aL ls.length cL) ls,Sl true Start.cells 4 (.slice aS ss.length cS) ss]:=((St.init _ w).share rfl rfl h2).share rfl rfl h1
 clear h1 h2
 obtain ⟨r,hr⟩ : ∃ r : Int,r = if (∀ p ∈ ls,plOk nP p) ∧ (∀ s ∈ ss,stOk ls.length s) then 0 else 14:=⟨_,rfl⟩
 rw [← hr]
 have Hr:=Lib.hid hr
 clear hr
 go_enter Tryz.func110,Tryz.ntmps110
 go_wp2_with first | ((with_reducible apply wps_boxa S);(case hx=>rfl);clear S;intro bx wz S) | ((with_reducible apply wps_load S 0);(case hx|hi|hu=>rfl);(case hT=>decide +kernel))
 go_loopw [10] (fun i wr=>EndRel1 bx #[.slice aP nP cP,.slice aL ls.length cL,.slice aS ss.length cS,.int .i64 fin,.int .i64 fuel,.int .i64 fan] (.slice aL ls.length cL) (.slice aS ss.length cS) nP ls ss w i wr) (fun i _=>ls.length - (intOf i).toNat)
 case atStart=>exact ⟨0,Nat.zero_le _,rfl,fun q y h=>by omega,S⟩
 case round=>
  clear S
  obtain ⟨j,hj,rfl,Hz,S⟩:=hrel
  by_cases hlt : j < ls.length
  · obtain ⟨p,hp⟩ : ∃ p,ls[j]? = some p:=⟨_,List.getElem?_eq_getElem hlt⟩
    obtain ⟨R,o,rfl⟩ : ∃ R o,aL = some ⟨R,o,none⟩:=(S.sl 1 rfl).elim fun F h=>h.head (by omega)
    have hlt2 : (j : Int) < ls.length:=by omega
    have Hp:=Lib.hid hp
    clear hp
    by_cases g1 : p.program < 0
    · go_wp2_with first | ((with_reducible refine wpList_skip ?hw ?_);(case hw=>with_unfolding_all rfl);simp only [Act.put,setIfInBounds_toArray,set_cons_succ,set_cons_zero]) | ((with_reducible apply wps_loada_el S 1 (hj:=Hp.out) (q:=0) (vs:=[.int .i64 p.program,.int .i64 p.first.n0,.int .i64 p.first.n1,.int .i64 p.first.n2,.int .i64 p.first.n3]) (m:=5));(case hx|hi=>rfl);(case hn=>omega);(case hm|hv=>rfl);(case hT=>decide +kernel)) | ((with_reducible apply wps_storea (T:=163) S 0 (vs:=[.int .i64 p.program,.int .i64 p.first.n0,.int .i64 p.first.n1,.int .i64 p.first.n2,.int .i64 p.first.n3]) (m:=5));(case hx|hy|hi|hm|h1=>rfl);(case hn=>exact nle rfl);(case hT=>decide +kernel);clear S;intro wz S;simp only [set_cons_zero,set_cons_succ,setAll,setIfInBounds_toArray] at S) | ((with_reducible apply wps_alloca (E:=163) S);(case hz=>exact Tryz.zeroValue163);clear S;intro bz wz S) | ((with_reducible apply wps_load S 0);(case hx|hi|hu=>rfl);(case hT=>decide +kernel))
      go_ret
      exact ⟨ret_int (by rw [Hr.out,if_neg];rintro ⟨h,_⟩;have:=(h p (List.mem_of_getElem? Hp.out)).1;omega),S.below⟩
    by_cases g2 : (nP : Int) ≤ p.program
    · go_wp2_with first | ((with_reducible apply wps_loada_el S 1 (hj:=Hp.out) (q:=0) (vs:=[.int .i64 p.program,.int .i64 p.first.n0,.int .i64 p.first.n1,.int .i64 p.first.n2,.int .i64 p.first.n3]) (m:=5));(case hx|hi=>rfl);(case hn=>omega);(case hm|hv=>rfl);(case hT=>decide +kernel)) | ((with_reducible apply wps_storea (T:=163) S 0 (vs:=[.int .i64 p.program,.int .i64 p.first.n0,.int .i64 p.first.n1,.int .i64 p.first.n2,.int .i64 p.first.n3]) (m:=5));(case hx|hy|hi|hm|h1=>rfl);(case hn=>exact nle rfl);(case hT=>decide +kernel);clear S;intro wz S;simp only [set_cons_zero,set_cons_succ,setAll,setIfInBounds_toArray] at S) | ((with_reducible apply wps_alloca (E:=163) S);(case hz=>exact Tryz.zeroValue163);clear S;intro bz wz S) | ((with_reducible apply wps_load S 0);(case hx|hi|hu=>rfl);(case hT=>decide +kernel)) | ((with_reducible apply wps_load S 1);(case hx|hi|hu=>rfl);(case hT=>decide +kernel))
      go_ret
      exact ⟨ret_int (by rw [Hr.out,if_neg];rintro ⟨h,_⟩;have:=(h p (List.mem_of_getElem? Hp.out)).2;omega),S.below⟩
    go_wp2_with first | ((with_reducible apply wps_loada_el S 1 (hj:=Hp.out) (q:=0) (vs:=[.int .i64 p.program,.int .i64 p.first.n0,.int .i64 p.first.n1,.int .i64 p.first.n2,.int .i64 p.first.n3]) (m:=5));(case hx|hi=>rfl);(case hn=>omega);(case hm|hv=>rfl);(case hT=>decide +kernel)) | ((with_reducible apply wps_storea (T:=163) S 0 (vs:=[.int .i64 p.program,.int .i64 p.first.n0,.int .i64 p.first.n1,.int .i64 p.first.n2,.int .i64 p.first.n3]) (m:=5));(case hx|hy|hi|hm|h1=>rfl);(case hn=>exact nle rfl);(case hT=>decide +kernel);clear S;intro wz S;simp only [set_cons_zero,set_cons_succ,setAll,setIfInBounds_toArray] at S) | ((with_reducible apply wps_alloca (E:=163) S);(case hz=>exact Tryz.zeroValue163);clear S;intro bz wz S) | ((with_reducible apply wps_load S 0);(case hx|hi|hu=>rfl);(case hT=>decide +kernel)) | ((with_reducible apply wps_load S 1);(case hx|hi|hu=>rfl);(case hT=>decide +kernel))
    go_roundw
    case rel=>exact ⟨j + 1,by omega,by go_num,snoc_all Hz.out Hp.out ⟨by omega,by omega⟩,S.pick [1,2,3] rfl⟩
    case measure=>first | (simp [intOf];done) | (simp [intOf];omega)
  · obtain rfl : j = ls.length:=by omega
    have H1 : Hid (∀ p ∈ ls,plOk nP p):=all_of Hz.out
    replace S:=S.pick [0,2] rfl
    simp only [pick,nth] at S
    clear Hz
    go_wp2_with first | ((with_reducible apply wps_load S 0);(case hx|hi|hu=>rfl);(case hT=>decide +kernel))
    go_loopw [29] (fun i wr=>EndRel2 bx #[.slice aP nP cP,.slice aL ls.length cL,.slice aS ss.length cS,.int .i64 fin,.int .i64 fuel,.int .i64 fan] (.slice aS ss.length cS) ls.length ss w i wr) (fun i _=>ss.length - (intOf i).toNat)
    case atStart=>exact ⟨0,Nat.zero_le _,rfl,fun q y h=>by omega,S⟩
    case round=>
     clear S
     obtain ⟨j,hj,rfl,Hz,S⟩:=hrel
     by_cases hlt : j < ss.length
     · obtain ⟨p,hp⟩ : ∃ p,ss[j]? = some p:=⟨_,List.getElem?_eq_getElem hlt⟩
       obtain ⟨R,o,rfl⟩ : ∃ R o,aS = some ⟨R,o,none⟩:=(S.sl 1 rfl).elim fun F h=>h.head (by omega)
       have hlt2 : (j : Int) < ss.length:=by omega
       have Hp:=Lib.hid hp
       clear hp
       by_cases g1 : p.dst < 0
       · go_wp2_with first | ((with_reducible refine wpList_skip ?hw ?_);(case hw=>with_unfolding_all rfl);simp only [Act.put,setIfInBounds_toArray,set_cons_succ,set_cons_zero]) | ((with_reducible apply wps_loada_el S 1 (hj:=Hp.out) (q:=0) (vs:=[.int .i64 p.dst,.int .i64 p.at_,.int .i64 p.kind,.int .i64 p.data]) (m:=4));(case hx|hi=>rfl);(case hn=>omega);(case hm|hv=>rfl);(case hT=>decide +kernel)) | ((with_reducible apply wps_storea (T:=112) S 0 (vs:=[.int .i64 p.dst,.int .i64 p.at_,.int .i64 p.kind,.int .i64 p.data]) (m:=4));(case hx|hy|hi|hm|h1=>rfl);(case hn=>exact nle rfl);(case hT=>decide +kernel);clear S;intro wz S;simp only [set_cons_zero,set_cons_succ,setAll,setIfInBounds_toArray] at S) | ((with_reducible apply wps_alloca (E:=112) S);(case hz=>exact Tryz.zeroValue112);clear S;intro bz wz S) | ((with_reducible apply wps_load S 0);(case hx|hi|hu=>rfl);(case hT=>decide +kernel))
         go_ret
         exact ⟨ret_int (by rw [Hr.out,if_neg];rintro ⟨_,h⟩;have:=(h p (List.mem_of_getElem? Hp.out)).1;omega),S.below⟩
       by_cases g2 : (ls.length : Int) ≤ p.dst
       · go_wp2_with first | ((with_reducible apply wps_loada_el S 1 (hj:=Hp.out) (q:=0) (vs:=[.int .i64 p.dst,.int .i64 p.at_,.int .i64 p.kind,.int .i64 p.data]) (m:=4));(case hx|hi=>rfl);(case hn=>omega);(case hm|hv=>rfl);(case hT=>decide +kernel)) | ((with_reducible apply wps_storea (T:=112) S 0 (vs:=[.int .i64 p.dst,.int .i64 p.at_,.int .i64 p.kind,.int .i64 p.data]) (m:=4));(case hx|hy|hi|hm|h1=>rfl);(case hn=>exact nle rfl);(case hT=>decide +kernel);clear S;intro wz S;simp only [set_cons_zero,set_cons_succ,setAll,setIfInBounds_toArray] at S) | ((with_reducible apply wps_alloca (E:=112) S);(case hz=>exact Tryz.zeroValue112);clear S;intro bz wz S) | ((with_reducible apply wps_load S 0);(case hx|hi|hu=>rfl);(case hT=>decide +kernel)) | ((with_reducible apply wps_load S 1);(case hx|hi|hu=>rfl);(case hT=>decide +kernel))
         go_ret
         exact ⟨ret_int (by rw [Hr.out,if_neg];rintro ⟨_,h⟩;have:=(h p (List.mem_of_getElem? Hp.out)).2;omega),S.below⟩
       go_wp2_with first | ((with_reducible apply wps_loada_el S 1 (hj:=Hp.out) (q:=0) (vs:=[.int .i64 p.dst,.int .i64 p.at_,.int .i64 p.kind,.int .i64 p.data]) (m:=4));(case hx|hi=>rfl);(case hn=>omega);(case hm|hv=>rfl);(case hT=>decide +kernel)) | ((with_reducible apply wps_storea (T:=112) S 0 (vs:=[.int .i64 p.dst,.int .i64 p.at_,.int .i64 p.kind,.int .i64 p.data]) (m:=4));(case hx|hy|hi|hm|h1=>rfl);(case hn=>exact nle rfl);(case hT=>decide +kernel);clear S;intro wz S;simp only [set_cons_zero,set_cons_succ,setAll,setIfInBounds_toArray] at S) | ((with_reducible apply wps_alloca (E:=112) S);(case hz=>exact Tryz.zeroValue112);clear S;intro bz wz S) | ((with_reducible apply wps_load S 0);(case hx|hi|hu=>rfl);(case hT=>decide +kernel)) | ((with_reducible apply wps_load S 1);(case hx|hi|hu=>rfl);(case hT=>decide +kernel))
       go_roundw
       case rel=>exact ⟨j + 1,by omega,by go_num,snoc_all Hz.out Hp.out ⟨by omega,by omega⟩,S.pick [1,2] rfl⟩
       case measure=>first | (simp [intOf];done) | (simp [intOf];omega)
     · obtain rfl : j = ss.length:=by omega
       go_wp2_with first | ((with_reducible apply wps_loada (T:=163) (k:=5) S 0);(case hx|hi=>rfl);(case hk=>exact nle rfl);(case hT=>decide +kernel))
       go_ret
       exact ⟨ret_int (by rw [Hr.out,if_pos ⟨H1.out,all_of Hz.out⟩]),S.below⟩
def TimeRel (bz : Nat) (cs : Array Value) (vS : Value) (fin : Int) (ss : List Start) (w : World) (i : Value) (wr : World) : Prop:=
 ∃ j : Nat,j ≤ ss.length ∧ i = .int .i64 j ∧ Hid (∀ (q : Nat) (y : Start),q < j → ss[q]? = some y → 0 ≤ y.at_ ∧ y.at_ ≤ fin) ∧ St (fun _=>False) w wr [Blk false bz cs 43,Sl true Start.cells 4 vS ss]
theorem times_calls (aP aL aS : Option Addr) (nP cP nL cL cS : Nat) (fin fuel fan : Int) (ss : List Start) (w : World) (F2 : Nat → Prop)
 (h2 : (Sl true Start.cells 4 (.slice aS ss.length cS) ss).at_ w F2) (hn2 : ss.length ≤ 65536) :
 Calls Tryz.prog 111 #[.agg #[.slice aP nP cP,.slice aL nL cL,.slice aS ss.length cS,.int .i64 fin,.int .i64 fuel,.int .i64 fan]] w fun r w'=>
  r = .returned (.int .i64 (if ∀ s ∈ ss,0 ≤ s.at_ ∧ s.at_ ≤ fin then 0 else 18)) ∧ Below w.heap.size w w':=by
 have S : St (fun _=>False) w w [Sl true Start.cells 4 (.slice aS ss.length cS) ss]:=(St.init _ w).share rfl rfl h2
 clear h2
 obtain ⟨r,hr⟩ : ∃ r : Int,r = if ∀ s ∈ ss,0 ≤ s.at_ ∧ s.at_ ≤ fin then 0 else 18:=⟨_,rfl⟩
 rw [← hr]
 have Hr:=Lib.hid hr
 clear hr
 go_enter Tryz.func111,Tryz.ntmps111
 go_wp2_with first | ((with_reducible apply wps_boxa S);(case hx=>rfl);clear S;intro bx wz S) | ((with_reducible apply wps_load S 0);(case hx|hi|hu=>rfl);(case hT=>decide +kernel))
 go_loopw [8] (fun i wr=>TimeRel bx #[.slice aP nP cP,.slice aL nL cL,.slice aS ss.length cS,.int .i64 fin,.int .i64 fuel,.int .i64 fan] (.slice aS ss.length cS) fin ss w i wr) (fun i _=>ss.length - (intOf i).toNat)
 case atStart=>exact ⟨0,Nat.zero_le _,rfl,fun q y h=>by omega,S⟩
 case round=>
  clear S
  obtain ⟨j,hj,rfl,Hz,S⟩:=hrel
  by_cases hlt : j < ss.length
  · obtain ⟨p,hp⟩ : ∃ p,ss[j]? = some p:=⟨_,List.getElem?_eq_getElem hlt⟩
    obtain ⟨R,o,rfl⟩ : ∃ R o,aS = some ⟨R,o,none⟩:=(S.sl 1 rfl).elim fun F h=>h.head (by omega)
    have hlt2 : (j : Int) < ss.length:=by omega
    have Hp:=Lib.hid hp
    clear hp
    by_cases g1 : p.at_ < 0
    · go_wp2_with first | ((with_reducible refine wpList_skip ?hw ?_);(case hw=>with_unfolding_all rfl);simp only [Act.put,setIfInBounds_toArray,set_cons_succ,set_cons_zero]) | ((with_reducible apply wps_loada_el S 1 (hj:=Hp.out) (q:=0) (vs:=[.int .i64 p.dst,.int .i64 p.at_,.int .i64 p.kind,.int .i64 p.data]) (m:=4));(case hx|hi=>rfl);(case hn=>omega);(case hm|hv=>rfl);(case hT=>decide +kernel)) | ((with_reducible apply wps_storea (T:=112) S 0 (vs:=[.int .i64 p.dst,.int .i64 p.at_,.int .i64 p.kind,.int .i64 p.data]) (m:=4));(case hx|hy|hi|hm|h1=>rfl);(case hn=>exact nle rfl);(case hT=>decide +kernel);clear S;intro wz S;simp only [set_cons_zero,set_cons_succ,setAll,setIfInBounds_toArray] at S) | ((with_reducible apply wps_alloca (E:=112) S);(case hz=>exact Tryz.zeroValue112);clear S;intro bz wz S) | ((with_reducible apply wps_load S 0);(case hx|hi|hu=>rfl);(case hT=>decide +kernel))
      go_ret
      exact ⟨ret_int (by rw [Hr.out,if_neg];intro h;have:=(h p (List.mem_of_getElem? Hp.out)).1;omega),S.below⟩
    by_cases g2 : fin < p.at_
    · go_wp2_with first | ((with_reducible apply wps_loada_el S 1 (hj:=Hp.out) (q:=0) (vs:=[.int .i64 p.dst,.int .i64 p.at_,.int .i64 p.kind,.int .i64 p.data]) (m:=4));(case hx|hi=>rfl);(case hn=>omega);(case hm|hv=>rfl);(case hT=>decide +kernel)) | ((with_reducible apply wps_storea (T:=112) S 0 (vs:=[.int .i64 p.dst,.int .i64 p.at_,.int .i64 p.kind,.int .i64 p.data]) (m:=4));(case hx|hy|hi|hm|h1=>rfl);(case hn=>exact nle rfl);(case hT=>decide +kernel);clear S;intro wz S;simp only [set_cons_zero,set_cons_succ,setAll,setIfInBounds_toArray] at S) | ((with_reducible apply wps_alloca (E:=112) S);(case hz=>exact Tryz.zeroValue112);clear S;intro bz wz S) | ((with_reducible apply wps_load S 0);(case hx|hi|hu=>rfl);(case hT=>decide +kernel)) | ((with_reducible apply wps_load S 1);(case hx|hi|hu=>rfl);(case hT=>decide +kernel))
      go_ret
      exact ⟨ret_int (by rw [Hr.out,if_neg];intro h;have:=(h p (List.mem_of_getElem? Hp.out)).2;omega),S.below⟩
    go_wp2_with first | ((with_reducible apply wps_loada_el S 1 (hj:=Hp.out) (q:=0) (vs:=[.int .i64 p.dst,.int .i64 p.at_,.int .i64 p.kind,.int .i64 p.data]) (m:=4));(case hx|hi=>rfl);(case hn=>omega);(case hm|hv=>rfl);(case hT=>decide +kernel)) | ((with_reducible apply wps_storea (T:=112) S 0 (vs:=[.int .i64 p.dst,.int .i64 p.at_,.int .i64 p.kind,.int .i64 p.data]) (m:=4));(case hx|hy|hi|hm|h1=>rfl);(case hn=>exact nle rfl);(case hT=>decide +kernel);clear S;intro wz S;simp only [set_cons_zero,set_cons_succ,setAll,setIfInBounds_toArray] at S) | ((with_reducible apply wps_alloca (E:=112) S);(case hz=>exact Tryz.zeroValue112);clear S;intro bz wz S) | ((with_reducible apply wps_load S 0);(case hx|hi|hu=>rfl);(case hT=>decide +kernel)) | ((with_reducible apply wps_load S 1);(case hx|hi|hu=>rfl);(case hT=>decide +kernel))
    go_roundw
    case rel=>exact ⟨j + 1,by omega,by go_num,snoc_all Hz.out Hp.out ⟨by omega,by omega⟩,S.pick [1,2] rfl⟩
    case measure=>first | (simp [intOf];done) | (simp [intOf];omega)
  · obtain rfl : j = ss.length:=by omega
    go_wp2_with first | ((with_reducible apply wps_loada (T:=112) (k:=4) S 0);(case hx|hi=>rfl);(case hk=>exact nle rfl);(case hT=>decide +kernel))
    go_ret
    exact ⟨ret_int (by rw [Hr.out,if_pos (all_of Hz.out)]),S.below⟩
end Go.Proofs.YtmjljoaakdocaaaGreatDoor
