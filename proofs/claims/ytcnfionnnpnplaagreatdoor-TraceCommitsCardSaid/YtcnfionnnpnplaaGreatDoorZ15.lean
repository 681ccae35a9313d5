import Derived.Test.YtcnfionnnpnplaaGreatDoorZ14
/- The walks of batch.process, all, twice, Wrong and message. -/
set_option maxHeartbeats 16000000
set_option maxRecDepth 100000
namespace Go.Proofs.YtcnfionnnpnplaaGreatDoor
open Go Go.RowKit Reg Mem
open List (set_cons_succ set_cons_zero setIfInBounds_toArray cons_append nil_append)
theorem bprocess_calls (R : Nat) (vs hs : List Value) (c : Cfg) (lp : Int) (w : World) (F : Nat → Prop) (h : (ModA true 128 R vs hs c).at_ w F) : Calls Tryz.prog 92 #[.pointer (some ⟨R,0,none⟩),.int .i64 lp] w fun r w'=>r = .returned (.int .i64 (procE c.lps.length lp)) ∧ Below w.heap.size w w':=by
 have S : St (fun _=>False) w w [ModA true 128 R vs hs c]:=(St.init _ w).share rfl rfl h
 clear h
 by_cases h1 : lp < 0
 · go_enter Tryz.func92,Tryz.ntmps92
   go_wp2_with first | ((with_reducible refine tot_done ?ht ?_);(case ht=>kernel_rfl))
   go_ret
   exact ⟨ret_int (by simp [procE,h1]),S.below⟩
 · by_cases h2 : lp < c.lps.length
   · go_enter Tryz.func92,Tryz.ntmps92
     go_wp2_with first | (go_at_call 45;refine Calls.mono (lps_calls _ _ _ _ _ _ (S.get (i:=0) rfl).choose_spec) ?_;rintro e wz ⟨rfl,hE⟩;replace S:=S.ext (Keep.of_below hE);clear hE)
     go_ret
     exact ⟨ret_int (by unfold procE;rw [if_neg (by omega)]),S.below⟩
   · go_enter Tryz.func92,Tryz.ntmps92
     go_wp2_with first | (go_at_call 45;refine Calls.mono (lps_calls _ _ _ _ _ _ (S.get (i:=0) rfl).choose_spec) ?_;rintro e wz ⟨rfl,hE⟩;replace S:=S.ext (Keep.of_below hE);clear hE)
     go_ret
     exact ⟨ret_int (by unfold procE;rw [if_pos (by omega)]),S.below⟩
theorem snoc_all' {α : Type} {l : List α} {p : α → Prop} {j : Nat} {x : α} (h : ∀ (q : Nat) y,q < j → l[q]? = some y → p y) (hx : l[j]? = some x) (hp : p x) : ∀ (q : Nat) y,q < j + 1 → l[q]? = some y → p y:=fun q y hq hy=>by
 by_cases e : q = j
 · subst e;rw [hx] at hy;cases hy;exact hp
 · exact h q y (by omega) hy
theorem all_of' {α : Type} {l : List α} {p : α → Prop} (h : ∀ (q : Nat) y,q < l.length → l[q]? = some y → p y) : ∀ x ∈ l,p x:=fun x hx=>by
 obtain ⟨q,hq⟩:=List.getElem?_of_mem hx
 exact h q x (List.getElem?_eq_some_iff.1 hq).1 hq
def AllRel (v : Value) (l : List Event) (lp : Int) (w : World) (i : Value) (wr : World) : Prop:=
 ∃ j : Nat,j ≤ l.length ∧ i = .int .i64 j ∧ Hid (∀ (q : Nat) y,q < j → l[q]? = some y → y.dst = lp) ∧ St (fun _=>False) w wr [Sl true Event.cells 7 v l]
theorem ball_calls (v : Value) (l : List Event) (lp : Int) (w : World) (F : Nat → Prop) (h : (Sl true Event.cells 7 v l).at_ w F) (hn : l.length ≤ 65536) : Calls Tryz.prog 93 #[.int .i64 lp,v] w fun r w'=>r = .returned (.bool (decide (∀ x ∈ l,x.dst = lp))) ∧ Below w.heap.size w w':=by
 have S : St (fun _=>False) w w [Sl true Event.cells 7 v l]:=(St.init _ w).share rfl rfl h
 obtain ⟨ad,cp,rfl,_⟩:=(S.sl 0 rfl).elim fun _ h=>h.form
 clear h
 go_enter Tryz.func93,Tryz.ntmps93
 go_wp2_with first | ((with_reducible apply wps_loada (T:=56) (k:=7) S 0);(case hx|hi=>rfl);(case hk=>exact nle rfl);(case hT=>decide +kernel))
 go_loopw [9] (fun i wr=>AllRel (.slice ad l.length cp) l lp w i wr) (fun i _=>l.length - (intOf i).toNat)
 case atStart=>exact ⟨0,Nat.zero_le _,rfl,fun q y h=>by omega,S⟩
 case round=>
  clear S
  obtain ⟨j,hj,rfl,Hz,S⟩:=hrel
  by_cases hlt : j < l.length
  · obtain ⟨x,hx⟩ : ∃ x,l[j]? = some x:=⟨_,List.getElem?_eq_getElem hlt⟩
    obtain ⟨R,o,rfl⟩ : ∃ R o,ad = some ⟨R,o,none⟩:=(S.sl 0 rfl).elim fun F h=>h.head (by omega)
    have hlt2 : (j : Int) < l.length:=by omega
    have Hx:=Lib.hid hx
    clear hx
    by_cases hd : x.dst = lp
    · go_wp2_with first | ((with_reducible apply wps_alloca (E:=56) S);(case hz=>exact Tryz.zeroValue56);clear S;intro bx wz S) | ((with_reducible apply wps_loada_el S 0 (hj:=Hx.out) (q:=0) (vs:=[.int .i64 x.key.at_,.int .i64 x.key.src,.int .i64 x.key.sent,.int .i64 x.key.no,.int .i64 x.dst,.int .i64 x.kind,.int .i64 x.data]) (m:=7));(case hx|hi=>rfl);(case hn=>omega);(case hm|hv=>rfl);(case hT=>decide +kernel)) | ((with_reducible apply wps_storea (T:=56) S 0 (vs:=[.int .i64 x.key.at_,.int .i64 x.key.src,.int .i64 x.key.sent,.int .i64 x.key.no,.int .i64 x.dst,.int .i64 x.kind,.int .i64 x.data]) (m:=7));(case hx|hy|hi|hm|h1=>rfl);(case hn=>exact nle rfl);(case hT=>decide +kernel);clear S;intro wz S;simp only [set_cons_zero,set_cons_succ,setAll,setIfInBounds_toArray] at S) | ((with_reducible apply wps_load S 0);(case hx|hi|hu=>rfl);(case hT=>decide +kernel))
      go_roundw
      case rel=>exact ⟨j + 1,by omega,by go_num,snoc_all' Hz.out Hx.out hd,S.pick [1] rfl⟩
      case measure=>first | (simp [intOf];done) | (simp [intOf];omega)
    · go_wp2_with first | ((with_reducible apply wps_alloca (E:=56) S);(case hz=>exact Tryz.zeroValue56);clear S;intro bx wz S) | ((with_reducible apply wps_loada_el S 0 (hj:=Hx.out) (q:=0) (vs:=[.int .i64 x.key.at_,.int .i64 x.key.src,.int .i64 x.key.sent,.int .i64 x.key.no,.int .i64 x.dst,.int .i64 x.kind,.int .i64 x.data]) (m:=7));(case hx|hi=>rfl);(case hn=>omega);(case hm|hv=>rfl);(case hT=>decide +kernel)) | ((with_reducible apply wps_storea (T:=56) S 0 (vs:=[.int .i64 x.key.at_,.int .i64 x.key.src,.int .i64 x.key.sent,.int .i64 x.key.no,.int .i64 x.dst,.int .i64 x.kind,.int .i64 x.data]) (m:=7));(case hx|hy|hi|hm|h1=>rfl);(case hn=>exact nle rfl);(case hT=>decide +kernel);clear S;intro wz S;simp only [set_cons_zero,set_cons_succ,setAll,setIfInBounds_toArray] at S) | ((with_reducible apply wps_load S 0);(case hx|hi|hu=>rfl);(case hT=>decide +kernel))
      go_ret
      exact ⟨ret_bool (by symm;rw [decide_eq_false_iff_not];exact fun h=>hd (h x (List.mem_of_getElem? Hx.out))),S.below⟩
  · obtain rfl : j = l.length:=by omega
    go_wp2_with first | ((with_reducible apply wps_loada (T:=56) (k:=7) S 0);(case hx|hi=>rfl);(case hk=>exact nle rfl);(case hT=>decide +kernel))
    go_ret
    exact ⟨ret_bool (by symm;rw [decide_eq_true_eq];exact all_of' Hz.out),S.below⟩
theorem key_ceqs (k l : Key) : ceqs k.cells l.cells = decide (k = l):=by
 obtain ⟨a,b,c,d⟩:=k;obtain ⟨a',b',c',d'⟩:=l
 simp only [Key.cells,ceqs,ceq,Bool.and_true,Key.mk.injEq]
 rw [Bool.eq_iff_iff];simp
def TwRel (v : Value) (s : List Event) (w : World) (i : Value) (wr : World) : Prop:=
 ∃ j : Nat,j ≤ s.length ∧ i = .int .i64 ((j : Int) + 1) ∧ Hid (∀ (q : Nat) x y,q < j → s[q]? = some x → s[q + 1]? = some y → x.key ≠ y.key) ∧ St (fun _=>False) w wr [Sl true Event.cells 7 v s]
theorem btwice_calls (v : Value) (l : List Event) (w : World) (F : Nat → Prop) (h : (Sl true Event.cells 7 v l).at_ w F) (hn : l.length ≤ 65536) : Calls Tryz.prog 94 #[v] w fun r w'=>r = .returned (.bool (twiceB l)) ∧ Below w.heap.size w w':=by
 have S : St (fun _=>False) w w [Sl true Event.cells 7 v l]:=(St.init _ w).share rfl rfl h
 clear h
 have HN : Hid (∀ (h : ∀ (q : Nat) x y,(sortE l)[q]? = some x → (sortE l)[q + 1]? = some y → x.key ≠ y.key),twiceB l = false):=twice_no
 have HY : Hid (∀ (i j : Nat) x y,(sortE l)[i]? = some x → (sortE l)[j]? = some y → i ≠ j → x.key = y.key → twiceB l = true):=fun i j x y h1 h2 h3 h4=>by
  rw [← twice_perm (sortE_perm l)];exact twice_yes h1 h2 h3 h4
 go_enter Tryz.func94,Tryz.ntmps94
 go_wp2_with first | ((with_reducible apply wps_loada (T:=54) (k:=4) S 0);(case hx|hi=>rfl);(case hk=>exact nle rfl);(case hT=>decide +kernel))
 refine Calls.mono (sort_calls _ l _ _ (S.get (i:=0) rfl).choose_spec hn) ?_
 rintro e wz ⟨ad,cp,rfl,T⟩
 replace S:=((S.join T rfl).pick [0] rfl).freeze true 0 ecells rfl
 simp only [cons_append,nil_append,set_cons_zero,pick,nth] at S
 clear T
 have hl : l.length = (sortE l).length:=(sortE_len l).symm
 rw [hl] at hn ⊢
 rw [hl] at S
 clear hl
 generalize sortE l = s at *
 go_wp2_with first | ((with_reducible apply wps_loada (T:=54) (k:=4) S 0);(case hx|hi=>rfl);(case hk=>exact nle rfl);(case hT=>decide +kernel))
 go_loopw [4] (fun i wr=>TwRel (.slice ad s.length cp) s w i wr) (fun i _=>s.length + 1 - (intOf i).toNat)
 case atStart=>exact ⟨0,Nat.zero_le _,rfl,fun q x y h=>by omega,S⟩
 case round=>
  clear S
  obtain ⟨j,hj,rfl,Hz,S⟩:=hrel
  by_cases hlt : j + 1 < s.length
  · obtain ⟨x,hx⟩ : ∃ x,s[j]? = some x:=⟨_,List.getElem?_eq_getElem (by omega)⟩
    obtain ⟨y,hy⟩ : ∃ y,s[j + 1]? = some y:=⟨_,List.getElem?_eq_getElem (by omega)⟩
    obtain ⟨R,o,rfl⟩ : ∃ R o,ad = some ⟨R,o,none⟩:=(S.sl 0 rfl).elim fun F h=>h.head (by omega)
    have hlt2 : (j : Int) + 1 < s.length:=by omega
    have hlt3 : (j : Int) < s.length:=by omega
    have Hx:=Lib.hid hx
    have Hy:=Lib.hid hy
    clear hx hy
    by_cases hk : x.key = y.key
    · have He:=Lib.hid ((key_ceqs y.key x.key).trans (show _ = true by simp [hk]))
      have HK:=Lib.hid hk
      clear hk
      go_wp2_with first | ((with_reducible apply wps_loada_el S 0 (hj:=Hy.out) (q:=0) (vs:=[.int .i64 y.key.at_,.int .i64 y.key.src,.int .i64 y.key.sent,.int .i64 y.key.no]) (m:=4));(case hx|hi=>rfl);(case hn=>omega);(case hm|hv=>rfl);(case hT=>decide +kernel)) | ((with_reducible apply wps_loada_el S 0 (hj:=Hx.out) (q:=0) (vs:=[.int .i64 x.key.at_,.int .i64 x.key.src,.int .i64 x.key.sent,.int .i64 x.key.no]) (m:=4));(case hx|hi=>rfl);(case hn=>omega);(case hm|hv=>rfl);(case hT=>decide +kernel)) | ((with_reducible apply wpList_eql_agg (t:=54) (ks:=[.int .i64,.int .i64,.int .i64,.int .i64]) (b:=_));(case hx|hy=>rfl);(case hl|ha|hg=>kernel_rfl);(case hfx|hfy=>rfl);(case hb=>exact He.out)) | ((with_reducible refine tot_done ?ht ?_);(case ht=>kernel_rfl)) | ((with_reducible apply wps_text S);(case hm=>kernel_rfl);(case hB=>decide +kernel);clear S;intro wz S)
      go_ret
      exact ⟨ret_bool (HY.out j (j + 1) x y Hx.out Hy.out (by omega) HK.out).symm,S.below⟩
    · have He:=Lib.hid ((key_ceqs y.key x.key).trans (show _ = false by simp [Ne.symm hk]))
      have HK:=Lib.hid hk
      clear hk
      go_wp2_with first | ((with_reducible apply wps_loada_el S 0 (hj:=Hy.out) (q:=0) (vs:=[.int .i64 y.key.at_,.int .i64 y.key.src,.int .i64 y.key.sent,.int .i64 y.key.no]) (m:=4));(case hx|hi=>rfl);(case hn=>omega);(case hm|hv=>rfl);(case hT=>decide +kernel)) | ((with_reducible apply wps_loada_el S 0 (hj:=Hx.out) (q:=0) (vs:=[.int .i64 x.key.at_,.int .i64 x.key.src,.int .i64 x.key.sent,.int .i64 x.key.no]) (m:=4));(case hx|hi=>rfl);(case hn=>omega);(case hm|hv=>rfl);(case hT=>decide +kernel)) | ((with_reducible apply wpList_eql_agg (t:=54) (ks:=[.int .i64,.int .i64,.int .i64,.int .i64]) (b:=_));(case hx|hy=>rfl);(case hl|ha|hg=>kernel_rfl);(case hfx|hfy=>rfl);(case hb=>exact He.out)) | ((with_reducible refine tot_done ?ht ?_);(case ht=>kernel_rfl)) | ((with_reducible apply wps_text S);(case hm=>kernel_rfl);(case hB=>decide +kernel);clear S;intro wz S)
      go_roundw
      case rel=>
       refine ⟨j + 1,by omega,by go_num,fun q a b hq ha hb=>?_,S⟩
       by_cases e : q = j
       · subst e;rw [Hx.out] at ha;rw [Hy.out] at hb;cases ha;cases hb;exact HK.out
       · exact Hz.out q a b (by omega) ha hb
      case measure=>first | (simp [intOf];done) | (simp [intOf];omega)
  · have hlt2 : ¬ ((j : Int) + 1 < s.length):=by omega
    go_wp2_with first | ((with_reducible apply wps_loada (T:=54) (k:=4) S 0);(case hx|hi=>rfl);(case hk=>exact nle rfl);(case hT=>decide +kernel))
    go_ret
    exact ⟨ret_bool (HN.out fun q x y hx hy=>Hz.out q x y (by have:=(List.getElem?_eq_some_iff.1 hy).1;omega) hx hy).symm,S.below⟩
def WrRel (v : Value) (l : List Event) (w : World) (i : Value) (wr : World) : Prop:=
 ∃ j : Nat,j ≤ l.length ∧ i = .int .i64 j ∧ Hid (∀ (q : Nat) y,q < j → l[q]? = some y → y.key.at_ = atE l) ∧ St (fun _=>False) w wr [Sl true Event.cells 7 v l]
theorem bwrong_calls (R : Nat) (vs hs : List Value) (c : Cfg) (lp : Int) (v : Value) (l : List Event) (w : World) (F F2 : Nat → Prop) (h : (ModA true 128 R vs hs c).at_ w F) (h2 : (Sl true Event.cells 7 v l).at_ w F2) (hn : l.length ≤ 65536) :
 Calls Tryz.prog 63 #[.pointer (some ⟨R,0,none⟩),.int .i64 lp,v] w fun r w'=>r = .returned (.int .i64 (wrongE c.lps.length lp l)) ∧ Below w.heap.size w w':=by
 have S : St (fun _=>False) w w [ModA true 128 R vs hs c,Sl true Event.cells 7 v l]:=((St.init _ w).share (A:=Sl true Event.cells 7 v l) rfl rfl h2).share rfl rfl h
 obtain ⟨ad,cp,rfl,_⟩:=(S.sl 1 rfl).elim fun _ h=>h.form
 clear h h2
 have HP:=Lib.hid fun w F h=>bprocess_calls R vs hs c lp w F h
 obtain ⟨W,HW⟩ : ∃ W,Hid (wrongE c.lps.length lp l = W):=⟨_,rfl⟩
 rw [HW.out]
 by_cases k1 : lp < 0 ∨ (c.lps.length : Int) ≤ lp
 · have HX : Hid (W = 10):=by show _ = _;rw [← HW.out];unfold wrongE;rw [if_pos k1]
   rw [show procE c.lps.length lp = 10 by unfold procE;rw [if_pos k1]] at HP
   clear k1
   go_enter Tryz.func63,Tryz.ntmps63
   go_wp2_with first | (go_at_call 92;refine Calls.mono (HP.out _ _ (S.get (i:=0) rfl).choose_spec) ?_;rintro e wz ⟨rfl,hE⟩;replace S:=S.ext (Keep.of_below hE);clear hE)
   go_ret
   exact ⟨ret_int HX.out.symm,S.below⟩
 rw [show procE c.lps.length lp = 0 by unfold procE;rw [if_neg k1]] at HP
 by_cases k2 : l.length = 0
 · have HX : Hid (W = 14):=by show _ = _;rw [← HW.out];unfold wrongE;rw [if_neg k1,if_pos k2]
   clear k1
   have k2b : ((l.length : Nat) : Int) = 0:=by omega
   go_enter Tryz.func63,Tryz.ntmps63
   go_wp2_with first | (go_at_call 92;refine Calls.mono (HP.out _ _ (S.get (i:=0) rfl).choose_spec) ?_;rintro e wz ⟨rfl,hE⟩;replace S:=S.ext (Keep.of_below hE);clear hE)
   go_ret
   exact ⟨ret_int HX.out.symm,S.below⟩
 have k2b : 0 < l.length:=by omega
 have HA:=Lib.hid fun w F h=>ball_calls (.slice ad l.length cp) l lp w F h hn
 by_cases k3 : ∀ x ∈ l,x.dst = lp
 case neg=>
  have HX : Hid (W = 10):=by show _ = _;rw [← HW.out];unfold wrongE;rw [if_neg k1,if_neg k2,if_pos k3]
  rw [decide_eq_false k3] at HA
  clear k1 k2 k3
  go_enter Tryz.func63,Tryz.ntmps63
  go_wp2_with first | (go_at_call 92;refine Calls.mono (HP.out _ _ (S.get (i:=0) rfl).choose_spec) ?_;rintro e wz ⟨rfl,hE⟩;replace S:=S.ext (Keep.of_below hE);clear hE) | (go_at_call 93;refine Calls.mono (HA.out _ _ (S.get (i:=1) rfl).choose_spec) ?_;rintro e wz ⟨rfl,hE⟩;replace S:=S.ext (Keep.of_below hE);clear hE)
  go_ret
  exact ⟨ret_int HX.out.symm,S.below⟩
 rw [decide_eq_true k3] at HA
 have HT:=Lib.hid fun w F h=>btwice_calls (.slice ad l.length cp) l w F h hn
 have HW2 : Hid (∀ (h : ¬ ∀ x ∈ l,x.key.at_ = atE l),W = 18):=fun h=>by rw [← HW.out];unfold wrongE;rw [if_neg k1,if_neg k2,if_neg (fun g=>g k3),if_pos h]
 have HW3 : Hid (∀ (h : ∀ x ∈ l,x.key.at_ = atE l),W = if twiceB l = true then 13 else 0):=fun h=>by rw [← HW.out];unfold wrongE;rw [if_neg k1,if_neg k2,if_neg (fun g=>g k3),if_neg (fun g=>g h)]
 obtain ⟨x0,hx0⟩ : ∃ x,l[0]? = some x:=⟨_,List.getElem?_eq_getElem k2b⟩
 have HA0 : Hid (atE l = x0.key.at_):=by cases l with
  | nil=>simp at hx0
  | cons a l=>simp at hx0;subst hx0;rfl
 obtain ⟨R0,o0,rfl⟩ : ∃ R o,ad = some ⟨R,o,none⟩:=(S.sl 1 rfl).elim fun F h=>h.head k2b
 have k2c : (0 : Int) < l.length:=by omega
 clear k1 k2 k3
 have Hx0:=Lib.hid hx0
 clear hx0
 go_enter Tryz.func63,Tryz.ntmps63
 go_wp2_with first | (go_at_call 92;refine Calls.mono (HP.out _ _ (S.get (i:=0) rfl).choose_spec) ?_;rintro e wz ⟨rfl,hE⟩;replace S:=S.ext (Keep.of_below hE);clear hE) | (go_at_call 93;refine Calls.mono (HA.out _ _ (S.get (i:=1) rfl).choose_spec) ?_;rintro e wz ⟨rfl,hE⟩;replace S:=S.ext (Keep.of_below hE);clear hE)
 replace S:=S.pick [1] rfl
 simp only [pick,nth] at S
 go_loopw [25] (fun i wr=>WrRel (.slice (some ⟨R0,o0,none⟩) l.length cp) l w i wr) (fun i _=>l.length - (intOf i).toNat)
 case atStart=>exact ⟨0,Nat.zero_le _,rfl,fun q y h=>by omega,S⟩
 case round=>
  clear S
  obtain ⟨j,hj,rfl,Hz,S⟩:=hrel
  by_cases hlt : j < l.length
  · obtain ⟨x,hx⟩ : ∃ x,l[j]? = some x:=⟨_,List.getElem?_eq_getElem hlt⟩
    have hlt2 : (j : Int) < l.length:=by omega
    have Hx:=Lib.hid hx
    clear hx
    by_cases hd : x.key.at_ = x0.key.at_
    · go_wp2_with first | ((with_reducible apply wps_alloca (E:=56) S);(case hz=>exact Tryz.zeroValue56);clear S;intro bx wz S) | ((with_reducible apply wps_loada_el S 0 (hj:=Hx.out) (q:=0) (vs:=[.int .i64 x.key.at_,.int .i64 x.key.src,.int .i64 x.key.sent,.int .i64 x.key.no,.int .i64 x.dst,.int .i64 x.kind,.int .i64 x.data]) (m:=7));(case hx|hi=>rfl);(case hn=>omega);(case hm|hv=>rfl);(case hT=>decide +kernel)) | ((with_reducible apply wps_load_el S 1 (hj:=Hx0.out) (q:=0) (u:=.int .i64 x0.key.at_));(case hx|hi=>rfl);(case hn=>omega);(case hu=>rfl);(case hT=>decide +kernel)) | ((with_reducible apply wps_storea (T:=56) S 0 (vs:=[.int .i64 x.key.at_,.int .i64 x.key.src,.int .i64 x.key.sent,.int .i64 x.key.no,.int .i64 x.dst,.int .i64 x.kind,.int .i64 x.data]) (m:=7));(case hx|hy|hi|hm|h1=>rfl);(case hn=>exact nle rfl);(case hT=>decide +kernel);clear S;intro wz S;simp only [set_cons_zero,set_cons_succ,setAll,setIfInBounds_toArray] at S) | ((with_reducible refine tot_done ?ht ?_);(case ht=>kernel_rfl)) | ((with_reducible apply wps_text S);(case hm=>kernel_rfl);(case hB=>decide +kernel);clear S;intro wz S) | ((with_reducible apply wps_load S 0);(case hx|hi|hu=>rfl);(case hT=>decide +kernel))
      go_roundw
      case rel=>exact ⟨j + 1,by omega,by go_num,snoc_all' Hz.out Hx.out (by rw [HA0.out];exact hd),S.pick [1] rfl⟩
      case measure=>first | (simp [intOf];done) | (simp [intOf];omega)
    · go_wp2_with first | ((with_reducible apply wps_alloca (E:=56) S);(case hz=>exact Tryz.zeroValue56);clear S;intro bx wz S) | ((with_reducible apply wps_loada_el S 0 (hj:=Hx.out) (q:=0) (vs:=[.int .i64 x.key.at_,.int .i64 x.key.src,.int .i64 x.key.sent,.int .i64 x.key.no,.int .i64 x.dst,.int .i64 x.kind,.int .i64 x.data]) (m:=7));(case hx|hi=>rfl);(case hn=>omega);(case hm|hv=>rfl);(case hT=>decide +kernel)) | ((with_reducible apply wps_load_el S 1 (hj:=Hx0.out) (q:=0) (u:=.int .i64 x0.key.at_));(case hx|hi=>rfl);(case hn=>omega);(case hu=>rfl);(case hT=>decide +kernel)) | ((with_reducible apply wps_storea (T:=56) S 0 (vs:=[.int .i64 x.key.at_,.int .i64 x.key.src,.int .i64 x.key.sent,.int .i64 x.key.no,.int .i64 x.dst,.int .i64 x.kind,.int .i64 x.data]) (m:=7));(case hx|hy|hi|hm|h1=>rfl);(case hn=>exact nle rfl);(case hT=>decide +kernel);clear S;intro wz S;simp only [set_cons_zero,set_cons_succ,setAll,setIfInBounds_toArray] at S) | ((with_reducible refine tot_done ?ht ?_);(case ht=>kernel_rfl)) | ((with_reducible apply wps_text S);(case hm=>kernel_rfl);(case hB=>decide +kernel);clear S;intro wz S) | ((with_reducible apply wps_load S 0);(case hx|hi|hu=>rfl);(case hT=>decide +kernel))
      go_ret
      exact ⟨ret_int (HW2.out fun h=>hd (by rw [← HA0.out];exact h x (List.mem_of_getElem? Hx.out))).symm,S.below⟩
  · obtain rfl : j = l.length:=by omega
    have HW4:=HW3.out (all_of' Hz.out)
    cases htw : twiceB l with
    | true=>
      rw [htw] at HT HW4
      have HX : Hid (W = 13):=by show _ = _;rw [HW4];rfl
      clear HW4 htw
      go_wp2_with first | (go_at_call 94;refine Calls.mono (HT.out _ _ (S.get (i:=0) rfl).choose_spec) ?_;rintro e wz ⟨rfl,hE⟩;replace S:=S.ext (Keep.of_below hE);clear hE)
      go_ret
      exact ⟨ret_int HX.out.symm,S.below⟩
    | false=>
      rw [htw] at HT HW4
      have HX : Hid (W = 0):=by show _ = _;rw [HW4];rfl
      clear HW4 htw
      go_wp2_with first | (go_at_call 94;refine Calls.mono (HT.out _ _ (S.get (i:=0) rfl).choose_spec) ?_;rintro e wz ⟨rfl,hE⟩;replace S:=S.ext (Keep.of_below hE);clear hE)
      go_ret
      exact ⟨ret_int HX.out.symm,S.below⟩
theorem bmessage_calls (R : Nat) (vs hs : List Value) (c : Cfg) (at_ : Int) (y : Emit) (w : World) (F : Nat → Prop) (h : (ModA true 128 R vs hs c).at_ w F) (ha0 : -9223372036854775808 ≤ at_) (hfn : c.fin ≤ 1073741824) :
 Calls Tryz.prog 100 #[.pointer (some ⟨R,0,none⟩),.int .i64 at_,.agg #[.int .i64 y.dst,.int .i64 y.delay,.int .i64 y.kind,.int .i64 y.data]] w fun r w'=>r = .returned (.bool (msgE c.lps.length c.fin at_ y)) ∧ Below w.heap.size w w':=by
 have S : St (fun _=>False) w w [ModA true 128 R vs hs c]:=(St.init _ w).share rfl rfl h
 clear h
 obtain ⟨b,Hb⟩ : ∃ b,Hid (msgE c.lps.length c.fin at_ y = b):=⟨_,rfl⟩
 rw [Hb.out]
 by_cases k0 : 0 ≤ y.dst
 case neg=>
  have f0 : decide (0 ≤ y.dst) = false:=decide_eq_false k0
  obtain rfl : b = false:=by rw [← Hb.out];unfold msgE;rw [decide_eq_false_iff_not];omega
  go_enter Tryz.func100,Tryz.ntmps100
  go_wp2_with first | ((with_reducible apply wps_boxa (E:=177) S);(case hx=>rfl);clear S;intro bx wz S)
  (refine wp_region_w (soft:=[0,1,2,3,4,5,6,7,8,9,10,11,12,13,14,15,16,17,18,19,20,21,22,23,24,25,26,27,28,29,30,31,32,33,34,35]) S ?hm ?hB ?_);(case hm=>kernel_rfl);(case hB=>decide +kernel);clear S
  iterate 36
   (with_reducible apply softs_cons)
   (case hw=>
     (with_reducible apply soft_of);(case hi=>rfl)
     intro T wz S
     simp only [cons_append,nil_append] at S
     go_wp2_with first | go_skip | ((with_reducible refine tot_done ?ht ?_);(case ht=>kernel_rfl)) | ((with_reducible apply wps_load S 0);(case hx|hi|hu=>rfl);(case hT=>decide +kernel))
     exact ⟨rfl,S⟩)
   (case hs=>exact ⟨_,rfl,by kernel_rfl⟩)
  refine softs_nil ?_
  (with_reducible apply W_done);(case hn=>rfl);(case hr=>decide +kernel)
  intro wz S
  simp only [List.append_nil] at S
  go_wp2_with first | ((with_reducible apply wps_load S 0);(case hx|hi|hu=>rfl);(case hT=>decide +kernel))
  go_ret
  exact ⟨rfl,S.below⟩
 have f0 : decide (0 ≤ y.dst) = true:=decide_eq_true k0
 by_cases k1 : y.dst < (c.lps.length : Int)
 case neg=>
  have f1 : decide (y.dst < (c.lps.length : Int)) = false:=decide_eq_false k1
  obtain rfl : b = false:=by rw [← Hb.out];unfold msgE;rw [decide_eq_false_iff_not];omega
  go_enter Tryz.func100,Tryz.ntmps100
  go_wp2_with first | ((with_reducible apply wps_boxa (E:=177) S);(case hx=>rfl);clear S;intro bx wz S)
  (refine wp_region_w (soft:=[0,1,2,3,4,5,6,7,8,9,10,11,12,13,14,15,16,17,18,19,20,21,22,23,24,25,26,27,28,29,30,31,32,33,34,35]) S ?hm ?hB ?_);(case hm=>kernel_rfl);(case hB=>decide +kernel);clear S
  iterate 36
   (with_reducible apply softs_cons)
   (case hw=>
     (with_reducible apply soft_of);(case hi=>rfl)
     intro T wz S
     simp only [cons_append,nil_append] at S
     go_wp2_with first | go_skip | (go_at_call 45;refine Calls.mono (lps_calls _ _ _ _ _ _ (S.get (i:=1) rfl).choose_spec) ?_;rintro e wz ⟨rfl,hE⟩;replace S:=S.ext (Keep.of_below hE);clear hE) | ((with_reducible refine tot_done ?ht ?_);(case ht=>kernel_rfl)) | ((with_reducible apply wps_load S 0);(case hx|hi|hu=>rfl);(case hT=>decide +kernel))
     exact ⟨rfl,S⟩)
   (case hs=>exact ⟨_,rfl,by kernel_rfl⟩)
  refine softs_nil ?_
  (with_reducible apply W_done);(case hn=>rfl);(case hr=>decide +kernel)
  intro wz S
  simp only [List.append_nil] at S
  go_wp2_with first | ((with_reducible apply wps_load S 0);(case hx|hi|hu=>rfl);(case hT=>decide +kernel))
  go_ret
  exact ⟨rfl,S.below⟩
 have f1 : decide (y.dst < (c.lps.length : Int)) = true:=decide_eq_true k1
 by_cases k2 : 1 ≤ y.delay
 case neg=>
  have f2 : decide (1 ≤ y.delay) = false:=decide_eq_false k2
  obtain rfl : b = false:=by rw [← Hb.out];unfold msgE;rw [decide_eq_false_iff_not];omega
  go_enter Tryz.func100,Tryz.ntmps100
  go_wp2_with first | ((with_reducible apply wps_boxa (E:=177) S);(case hx=>rfl);clear S;intro bx wz S)
  (refine wp_region_w (soft:=[0,1,2,3,4,5,6,7,8,9,10,11,12,13,14,15,16,17,18,19,20,21,22,23,24,25,26,27,28,29,30,31,32,33,34,35]) S ?hm ?hB ?_);(case hm=>kernel_rfl);(case hB=>decide +kernel);clear S
  iterate 36
   (with_reducible apply softs_cons)
   (case hw=>
     (with_reducible apply soft_of);(case hi=>rfl)
     intro T wz S
     simp only [cons_append,nil_append] at S
     go_wp2_with first | go_skip | (go_at_call 45;refine Calls.mono (lps_calls _ _ _ _ _ _ (S.get (i:=1) rfl).choose_spec) ?_;rintro e wz ⟨rfl,hE⟩;replace S:=S.ext (Keep.of_below hE);clear hE) | ((with_reducible refine tot_done ?ht ?_);(case ht=>kernel_rfl)) | ((with_reducible apply wps_load S 0);(case hx|hi|hu=>rfl);(case hT=>decide +kernel))
     exact ⟨rfl,S⟩)
   (case hs=>exact ⟨_,rfl,by kernel_rfl⟩)
  refine softs_nil ?_
  (with_reducible apply W_done);(case hn=>rfl);(case hr=>decide +kernel)
  intro wz S
  simp only [List.append_nil] at S
  go_wp2_with first | ((with_reducible apply wps_load S 0);(case hx|hi|hu=>rfl);(case hT=>decide +kernel))
  go_ret
  exact ⟨rfl,S.below⟩
 have f2 : decide (1 ≤ y.delay) = true:=decide_eq_true k2
 by_cases k3 : y.delay ≤ 1073741824
 case neg=>
  have f3 : decide (y.delay ≤ 1073741824) = false:=decide_eq_false k3
  obtain rfl : b = false:=by rw [← Hb.out];unfold msgE;rw [decide_eq_false_iff_not];omega
  go_enter Tryz.func100,Tryz.ntmps100
  go_wp2_with first | ((with_reducible apply wps_boxa (E:=177) S);(case hx=>rfl);clear S;intro bx wz S)
  (refine wp_region_w (soft:=[0,1,2,3,4,5,6,7,8,9,10,11,12,13,14,15,16,17,18,19,20,21,22,23,24,25,26,27,28,29,30,31,32,33,34,35]) S ?hm ?hB ?_);(case hm=>kernel_rfl);(case hB=>decide +kernel);clear S
  iterate 36
   (with_reducible apply softs_cons)
   (case hw=>
     (with_reducible apply soft_of);(case hi=>rfl)
     intro T wz S
     simp only [cons_append,nil_append] at S
     go_wp2_with first | go_skip | (go_at_call 45;refine Calls.mono (lps_calls _ _ _ _ _ _ (S.get (i:=1) rfl).choose_spec) ?_;rintro e wz ⟨rfl,hE⟩;replace S:=S.ext (Keep.of_below hE);clear hE) | ((with_reducible refine tot_done ?ht ?_);(case ht=>kernel_rfl)) | ((with_reducible apply wps_load S 0);(case hx|hi|hu=>rfl);(case hT=>decide +kernel))
     exact ⟨rfl,S⟩)
   (case hs=>exact ⟨_,rfl,by kernel_rfl⟩)
  refine softs_nil ?_
  (with_reducible apply W_done);(case hn=>rfl);(case hr=>decide +kernel)
  intro wz S
  simp only [List.append_nil] at S
  go_wp2_with first | ((with_reducible apply wps_load S 0);(case hx|hi|hu=>rfl);(case hT=>decide +kernel))
  go_ret
  exact ⟨rfl,S.below⟩
 have f3 : decide (y.delay ≤ 1073741824) = true:=decide_eq_true k3
 by_cases k4 : at_ ≤ c.fin
 case neg=>
  have f4 : decide (at_ ≤ c.fin) = false:=decide_eq_false k4
  obtain rfl : b = false:=by rw [← Hb.out];unfold msgE;rw [decide_eq_false_iff_not];omega
  go_enter Tryz.func100,Tryz.ntmps100
  go_wp2_with first | ((with_reducible apply wps_boxa (E:=177) S);(case hx=>rfl);clear S;intro bx wz S)
  (refine wp_region_w (soft:=[0,1,2,3,4,5,6,7,8,9,10,11,12,13,14,15,16,17,18,19,20,21,22,23,24,25,26,27,28,29,30,31,32,33,34,35]) S ?hm ?hB ?_);(case hm=>kernel_rfl);(case hB=>decide +kernel);clear S
  iterate 36
   (with_reducible apply softs_cons)
   (case hw=>
     (with_reducible apply soft_of);(case hi=>rfl)
     intro T wz S
     simp only [cons_append,nil_append] at S
     go_wp2_with first | go_skip | (go_at_call 45;refine Calls.mono (lps_calls _ _ _ _ _ _ (S.get (i:=1) rfl).choose_spec) ?_;rintro e wz ⟨rfl,hE⟩;replace S:=S.ext (Keep.of_below hE);clear hE) | (go_at_call 56;refine Calls.mono (end_calls _ _ _ _ _ _ (S.get (i:=1) rfl).choose_spec) ?_;rintro e wz ⟨rfl,hE⟩;replace S:=S.ext (Keep.of_below hE);clear hE) | ((with_reducible refine tot_done ?ht ?_);(case ht=>kernel_rfl)) | ((with_reducible apply wps_load S 0);(case hx|hi|hu=>rfl);(case hT=>decide +kernel))
     exact ⟨rfl,S⟩)
   (case hs=>exact ⟨_,rfl,by kernel_rfl⟩)
  refine softs_nil ?_
  (with_reducible apply W_done);(case hn=>rfl);(case hr=>decide +kernel)
  intro wz S
  simp only [List.append_nil] at S
  go_wp2_with first | ((with_reducible apply wps_load S 0);(case hx|hi|hu=>rfl);(case hT=>decide +kernel))
  go_ret
  exact ⟨rfl,S.below⟩
 have f4 : decide (at_ ≤ c.fin) = true:=decide_eq_true k4
 by_cases k5 : at_ + y.delay ≤ c.fin
 case neg=>
  have f5 : decide (at_ + y.delay ≤ c.fin) = false:=decide_eq_false k5
  obtain rfl : b = false:=by rw [← Hb.out];unfold msgE;rw [decide_eq_false_iff_not];omega
  go_enter Tryz.func100,Tryz.ntmps100
  go_wp2_with first | ((with_reducible apply wps_boxa (E:=177) S);(case hx=>rfl);clear S;intro bx wz S)
  (refine wp_region_w (soft:=[0,1,2,3,4,5,6,7,8,9,10,11,12,13,14,15,16,17,18,19,20,21,22,23,24,25,26,27,28,29,30,31,32,33,34,35]) S ?hm ?hB ?_);(case hm=>kernel_rfl);(case hB=>decide +kernel);clear S
  iterate 36
   (with_reducible apply softs_cons)
   (case hw=>
     (with_reducible apply soft_of);(case hi=>rfl)
     intro T wz S
     simp only [cons_append,nil_append] at S
     go_wp2_with first | (go_at_call 45;refine Calls.mono (lps_calls _ _ _ _ _ _ (S.get (i:=1) rfl).choose_spec) ?_;rintro e wz ⟨rfl,hE⟩;replace S:=S.ext (Keep.of_below hE);clear hE) | (go_at_call 56;refine Calls.mono (end_calls _ _ _ _ _ _ (S.get (i:=1) rfl).choose_spec) ?_;rintro e wz ⟨rfl,hE⟩;replace S:=S.ext (Keep.of_below hE);clear hE) | ((with_reducible refine tot_done ?ht ?_);(case ht=>kernel_rfl)) | ((with_reducible apply wps_load S 0);(case hx|hi|hu=>rfl);(case hT=>decide +kernel))
     exact ⟨rfl,S⟩)
   (case hs=>exact ⟨_,rfl,by kernel_rfl⟩)
  refine softs_nil ?_
  (with_reducible apply W_done);(case hn=>rfl);(case hr=>decide +kernel)
  intro wz S
  simp only [List.append_nil] at S
  go_wp2_with first | ((with_reducible apply wps_load S 0);(case hx|hi|hu=>rfl);(case hT=>decide +kernel))
  go_ret
  exact ⟨rfl,S.below⟩
 have f5 : decide (at_ + y.delay ≤ c.fin) = true:=decide_eq_true k5
 obtain rfl : b = true:=by rw [← Hb.out];unfold msgE;rw [decide_eq_true_eq];exact ⟨by omega,by omega,by omega,by omega,by omega⟩
 go_enter Tryz.func100,Tryz.ntmps100
 go_wp2_with first | ((with_reducible apply wps_boxa (E:=177) S);(case hx=>rfl);clear S;intro bx wz S)
 (refine wp_region_w (soft:=[0,1,2,3,4,5,6,7,8,9,10,11,12,13,14,15,16,17,18,19,20,21,22,23,24,25,26,27,28,29,30,31,32,33,34,35]) S ?hm ?hB ?_);(case hm=>kernel_rfl);(case hB=>decide +kernel);clear S
 iterate 36
  (with_reducible apply softs_cons)
  (case hw=>
    (with_reducible apply soft_of);(case hi=>rfl)
    intro T wz S
    simp only [cons_append,nil_append] at S
    go_wp2_with first | (go_at_call 45;refine Calls.mono (lps_calls _ _ _ _ _ _ (S.get (i:=1) rfl).choose_spec) ?_;rintro e wz ⟨rfl,hE⟩;replace S:=S.ext (Keep.of_below hE);clear hE) | (go_at_call 56;refine Calls.mono (end_calls _ _ _ _ _ _ (S.get (i:=1) rfl).choose_spec) ?_;rintro e wz ⟨rfl,hE⟩;replace S:=S.ext (Keep.of_below hE);clear hE) | ((with_reducible refine tot_done ?ht ?_);(case ht=>kernel_rfl)) | ((with_reducible apply wps_load S 0);(case hx|hi|hu=>rfl);(case hT=>decide +kernel))
    exact ⟨rfl,S⟩)
  (case hs=>exact ⟨_,rfl,by kernel_rfl⟩)
 refine softs_nil ?_
 (with_reducible apply W_done);(case hn=>rfl);(case hr=>decide +kernel)
 intro wz S
 simp only [List.append_nil] at S
 go_wp2_with first | ((with_reducible apply wps_load S 0);(case hx|hi|hu=>rfl);(case hT=>decide +kernel))
 go_ret
 exact ⟨rfl,S.below⟩
end Go.Proofs.YtcnfionnnpnplaaGreatDoor
