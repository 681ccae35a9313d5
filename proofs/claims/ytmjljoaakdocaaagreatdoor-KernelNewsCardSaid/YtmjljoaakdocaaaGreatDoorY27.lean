import Derived.Test.YtmjljoaakdocaaaGreatDoorY13
import Derived.Test.YtmjljoaakdocaaaGreatDoorY18
import Derived.Test.YtmjljoaakdocaaaGreatDoorY10
import Derived.Test.YtmjljoaakdocaaaGreatDoorY22
/- The walks of a row of saves: ahead, keep, Free, All. -/
set_option maxHeartbeats 16000000
set_option maxRecDepth 100000
namespace Go.Proofs.YtmjljoaakdocaaaGreatDoor
open Go Go.RowKit Reg Mem
open List (set_cons_succ set_cons_zero setIfInBounds_toArray cons_append nil_append)
theorem elem_Sv : Elem Tryz.prog 249 248 5 40:=⟨_,.agg #[.int .i64 0,.int .i64 0,.int .i64 0,.int .i64 0,.int .i64 0],Tryz.underlying249,rfl,by kernel_rfl,by kernel_rfl,by kernel_rfl,by kernel_rfl,by omega⟩
theorem clone_Sv {ad : Option Addr} {n c : Nat} {xs : List _} (w : World) (F : Nat → Prop) (h : (Sl true svcell 5 (.slice ad n c) xs).at_ w F) (hn : xs.length ≤ 4294967296) :
 Calls Tryz.prog 257 #[.slice ad n c] w fun e w'=>∃ ad' c',e = .returned (.slice ad' xs.length c') ∧ (0 < xs.length → ∃ R,ad' = some ⟨R,0,none⟩) ∧ St (fun _=>False) w w' [Mem.Own 248 svcell 5 (.slice ad' xs.length c') xs]:=by
 have S : St (fun _=>False) w w [Sl true svcell 5 (.slice ad n c) xs]:=(St.init _ w).share rfl rfl h
 have hq : ∀ (w : World) (a : Option Addr) (n c n' c' : Nat),(binOp .eql 249 (.slice a n c) (.slice none n' c')).run Tryz.prog w = .ok (.bool a.isNone) w:=fun w a n c n' c'=>Lib.run_eql_slice_nil w _ _ a n c n' c' Tryz.underlying249
 cases ad with
 | none=>
   have hx : xs = []:=by
    obtain ⟨a,c',e,h1,h2,_⟩:=h.1
    simp only [Value.slice.injEq] at e
    obtain ⟨rfl,rfl,rfl⟩:=e
    exact List.eq_nil_of_length_eq_zero (by have:=h2 rfl;omega)
   subst hx
   go_enter Tryz.func257,Tryz.ntmps257
   go_wp2_with first | ((with_reducible refine tot_done ?ht ?_);(case ht=>kernel_rfl))
   go_ret
   exact ⟨_,_,rfl,fun h=>absurd h (by simp),((S.nil 248 svcell 5).pick [0] rfl)⟩
 | some a0=>
   go_enter Tryz.func257,Tryz.ntmps257
   go_wp2_with first | ((with_reducible apply wps_build0 (T:=249) (E:=248) svcell 5 S);(case hr=>intro w;kernel_rfl);clear S;intro bz wz S) | ((with_reducible apply wps_appends elem_Sv svcells svone (by decide) S 0 (j:=1));(case hx|hy|hi|hj=>rfl);(case hl=>first | omega | (simp;omega));clear S;intro az nz cz wz hnz S;simp only [set_cons_zero] at S)
   go_ret
   obtain rfl : nz = xs.length:=by have:=hnz.out;simp at this;omega
   simp only [nil_append] at S
   refine ⟨_,_,rfl,fun h0=>?_,S.pick [0] rfl⟩
   obtain ⟨F,hF⟩:=S.get (i:=0) rfl
   rcases hF.1.2 with ⟨_,e⟩ | ⟨g,cap,cur,e,_⟩
   · omega
   · simp only [Value.slice.injEq] at e;exact ⟨g,e.1⟩
def aheadE (below : Int) (l : List (Int × State)) : Nat:=(l.takeWhile fun x=>decide (x.1 < below)).length
theorem tw_len {α : Type} (p : α → Bool) : ∀ {l : List α} {j : Nat},(∀ (q : Nat) y,q < j → l[q]? = some y → p y = true) → j ≤ l.length → (∀ y,l[j]? = some y → p y = false) → (l.takeWhile p).length = j
 | [],j,_,hj,_=>by simp at hj;subst hj;rfl
 | a :: l,0,_,_,h=>by rw [List.takeWhile_cons,h a rfl];rfl
 | a :: l,j + 1,h1,hj,h2=>by
   rw [List.takeWhile_cons,h1 0 a (by omega) rfl]
   have:=tw_len p (l:=l) (j:=j) (fun q y hq hy=>h1 (q + 1) y (by omega) (by simpa using hy)) (by simpa using hj) (fun y hy=>h2 y (by simpa using hy))
   simp [this]
def AhRel (Y : Nat) (v : Value) (l : List (Int × State)) (below : Int) (w : World) (i : Value) (wr : World) : Prop:=
 ∃ j : Nat,j ≤ l.length ∧ i = .int .i64 j ∧ Hid (∀ (q : Nat) y,q < j → l[q]? = some y → decide (y.1 < below) = true) ∧ St (fun _=>False) w wr [Blk true Y #[v] 253,Sl true svcell 5 v l]
theorem ahead_calls (Y : Nat) (v : Value) (l : List (Int × State)) (below : Int) (hn : l.length ≤ 65536) (w : World) (F F2 : Nat → Prop) (h1 : (Blk true Y #[v] 253).at_ w F) (h2 : (Sl true svcell 5 v l).at_ w F2) :
 Calls Tryz.prog 255 #[.pointer (some ⟨Y,0,none⟩),.int .i64 below] w fun e w'=>e = .returned (.int .i64 (aheadE below l)) ∧ Below w.heap.size w w':=by
 have S : St (fun _=>False) w w [Blk true Y #[v] 253,Sl true svcell 5 v l]:=((St.init _ w).share (A:=Sl true svcell 5 v l) rfl rfl h2).share (A:=Blk true Y #[v] 253) rfl rfl h1
 clear h1 h2
 obtain ⟨ad,c,rfl,_⟩:=(S.sl 1 rfl).elim fun _ h=>h.form
 go_enter Tryz.func255,Tryz.ntmps255
 go_wp2_with first | ((with_reducible apply wps_load S 0);(case hx|hi|hu=>rfl);(case hT=>decide +kernel))
 go_loopw [5] (fun i wr=>AhRel Y (.slice ad l.length c) l below w i wr) (fun i _=>l.length - (intOf i).toNat)
 case atStart=>exact ⟨0,Nat.zero_le _,rfl,Lib.hid fun q y h=>by omega,S⟩
 case round=>
  clear S
  obtain ⟨j,hj,rfl,HJ,S⟩:=hrel
  by_cases hlt : j < l.length
  · obtain ⟨x,hx⟩ : ∃ x,l[j]? = some x:=⟨_,List.getElem?_eq_getElem hlt⟩
    obtain ⟨R,o,rfl⟩ : ∃ R o,ad = some ⟨R,o,none⟩:=(S.sl 1 rfl).elim fun F h=>h.head (by omega)
    have hlt2 : (j : Int) < l.length:=by omega
    have HX:=Lib.hid hx
    by_cases hs : x.1 < below
    · have HJ2 : Hid (∀ (q : Nat) y,q < j + 1 → l[q]? = some y → decide (y.1 < below) = true):=Lib.hid fun q y hq hy=>by
       rcases Nat.lt_or_eq_of_le (Nat.le_of_lt_succ hq) with h | rfl
       · exact HJ.out q y h hy
       · rw [hx] at hy;cases hy;exact decide_eq_true hs
      have f1 : decide (x.1 < below) = true:=decide_eq_true hs
      clear hx hs
      go_wp2_with first | ((with_reducible apply wps_load S 0);(case hx|hi|hu=>rfl);(case hT=>decide +kernel)) | ((with_reducible apply wps_load_el S 1 (hj:=HX.out) (q:=0) (u:=(.int .i64 x.1)));(case hx|hi=>rfl);(case hn=>omega);(case hu=>rfl);(case hT=>decide +kernel))
      go_roundw
      case rel=>exact ⟨j + 1,by omega,by go_num,HJ2,S⟩
      case measure=>first | (simp [intOf];done) | (simp [intOf];omega)
    · have HE : Hid (aheadE below l = j):=Lib.hid (tw_len _ HJ.out hj fun y hy=>by rw [hx] at hy;cases hy;exact decide_eq_false hs)
      have f1 : decide (x.1 < below) = false:=decide_eq_false hs
      clear hx hs
      go_wp2_with first | ((with_reducible apply wps_load S 0);(case hx|hi|hu=>rfl);(case hT=>decide +kernel)) | ((with_reducible apply wps_load_el S 1 (hj:=HX.out) (q:=0) (u:=(.int .i64 x.1)));(case hx|hi=>rfl);(case hn=>omega);(case hu=>rfl);(case hT=>decide +kernel))
      go_ret
      exact ⟨ret_int (by rw [HE.out]),S.below⟩
  · obtain rfl : j = l.length:=by omega
    have HE : Hid (aheadE below l = l.length):=Lib.hid (tw_len _ HJ.out (Nat.le_refl _) fun y hy=>by rw [List.getElem?_eq_none (Nat.le_refl _)] at hy;cases hy)
    go_wp2_with first | ((with_reducible apply wps_load S 0);(case hx|hi|hu=>rfl);(case hT=>decide +kernel))
    go_ret
    exact ⟨ret_int (by rw [HE.out]),S.below⟩
def KeepPost (Y : Nat) (l : List (Int × State)) (F : Nat → Prop) (w : World) (e : Ending) (w' : World) : Prop:=
 ∃ v,e = .returned (.tuple #[]) ∧ St F w w' [Mem.Own 248 svcell 5 v l,Blk false Y #[v] 253]
theorem keep_calls (Y : Nat) (v : Value) (l : List (Int × State)) (a b : Nat) (hn : l.length ≤ 65536) (hab : a ≤ b) (hb : b ≤ l.length) (w : World) (F : Nat → Prop) (S0 : St F w w [Mem.Own 248 svcell 5 v l,Blk false Y #[v] 253]) :
 Calls Tryz.prog 256 #[.pointer (some ⟨Y,0,none⟩),.int .i64 a,.int .i64 b] w (KeepPost Y ((l.take b).drop a) F w):=by
 have S:=S0.freeze true 0 svcells rfl
 simp only [set_cons_zero] at S
 clear S0
 obtain ⟨ad,c,rfl,hlc⟩:=(S.sl 0 rfl).elim fun _ h=>h.form
 have ha2 : (a : Int) ≤ b:=by omega
 have hb2 : (b : Int) ≤ l.length:=by omega
 have hll : ((l.take b).drop a).length ≤ 65536:=by rw [List.length_drop,List.length_take];omega
 obtain ⟨m,hm⟩ : ∃ m,(l.take b).drop a = m:=⟨_,rfl⟩
 rw [hm] at hll ⊢
 have HM:=Lib.hid hm
 clear hm
 go_enter Tryz.func256,Tryz.ntmps256
 go_wp2_with first | ((with_reducible apply wps_load S 1);(case hx|hi|hu=>rfl);(case hT=>decide +kernel)) | ((with_reducible apply wps_slice (E:=248) S 0 (l:=a) (u:=b));(case hx|hi=>rfl);(case hT=>exact Tryz.underlying249);(case hE=>intro w;kernel_rfl);(case hlo|hhi=>first | exact .inr rfl | exact .inl ⟨rfl,rfl⟩);(case h1|h2=>first | omega | (simp;omega));clear S;intro az nz cz hnz S) | (go_at_call 257;rw [HM.out] at S;(refine Calls.mono (clone_Sv _ _ (S.get (i:=0) rfl).choose_spec (by omega)) ?_);rintro rr wz ⟨ad2,c2,rfl,-,T⟩;replace S:=S.join T rfl;clear T;simp only [cons_append,nil_append] at S) | ((with_reducible apply wps_store (u:=(.slice ad2 m.length c2)) S 3);(case hx|hy|hi|h1=>rfl);(case hn=>exact nle rfl);(case hT=>decide +kernel);clear S;intro wz S;simp only [set_cons_succ,set_cons_zero,setIfInBounds_toArray] at S)
 go_end0
 exact ⟨_,rfl,S.pick [0,3] rfl⟩
def rowFree (below : Int) (l : List (Int × State)) : List (Int × State):=if aheadE below l < 2 then l else l.drop (aheadE below l - 1)
def RFreePost (Y : Nat) (l : List (Int × State)) (F : Nat → Prop) (w : World) (e : Ending) (w' : World) : Prop:=
 ∃ n : Int,e = .returned (.int .i64 n) ∧ St F w w' [rowA Y l]
theorem rfree_calls (Y : Nat) (l : List (Int × State)) (below : Int) (hn : l.length ≤ 65536) (w : World) (F : Nat → Prop) (S0 : St F w w [rowA Y l]) :
 Calls Tryz.prog 212 #[.pointer (some ⟨Y,0,none⟩),.int .i64 below] w (RFreePost Y (rowFree below l) F w):=by
 obtain ⟨v,S⟩:=row_open S0
 clear S0
 have HA:=Lib.hid fun w F F2 h1 h2=>ahead_calls Y v l below hn w F F2 h1 h2
 have hal : aheadE below l ≤ l.length:=(List.takeWhile_sublist _).length_le
 unfold rowFree
 obtain ⟨ad,c,rfl,_⟩:=(S.ownsl svcells 0 rfl).elim fun _ h=>h.form
 by_cases h2 : aheadE below l < 2
 · rw [if_pos h2]
   generalize aheadE below l = m at *
   have h3 : (m : Int) < 2:=by omega
   go_enter Tryz.func212,Tryz.ntmps212
   go_wp2_with first | (go_at_call 255;refine Calls.mono (HA.out _ _ _ (S.get (i:=1) rfl).choose_spec (own_sl (sh:=true) svcells (S.get (i:=0) rfl).choose_spec)) ?_;rintro e wz ⟨rfl,hE⟩;replace S:=S.ext (Keep.of_below hE);clear hE)
   go_ret
   exact ⟨_,rfl,row_close S⟩
 · rw [if_neg h2]
   have HK:=Lib.hid fun w F S0=>keep_calls Y (.slice ad l.length c) l (aheadE below l - 1) l.length hn (by omega) (Nat.le_refl _) w F S0
   rw [List.take_length,show ((aheadE below l - 1 : Nat) : Int) = (aheadE below l : Int) - 1 by omega] at HK
   generalize aheadE below l = m at *
   have h3 : ¬ (m : Int) < 2:=by omega
   have h4 : (m : Int) ≤ 65536:=by omega
   have h5 : decide (m < 2) = false:=decide_eq_false h2
   go_enter Tryz.func212,Tryz.ntmps212
   go_wp2_with first | (go_at_call 255;refine Calls.mono (HA.out _ _ _ (S.get (i:=1) rfl).choose_spec (own_sl (sh:=true) svcells (S.get (i:=0) rfl).choose_spec)) ?_;rintro e wz ⟨rfl,hE⟩;replace S:=S.ext (Keep.of_below hE);clear hE) | ((with_reducible apply wps_load S 1);(case hx|hi|hu=>rfl);(case hT=>decide +kernel)) | (go_at_call 256;obtain ⟨Fz,hF,hBk⟩:=S.lend [0,1] [] [] rfl rfl rfl;simp only [cons_append,nil_append,pick,nth] at hF hBk;refine Calls.mono (HK.out _ _ hF) ?_;rintro rr wz ⟨v3,rfl,T⟩;replace S:=hBk _ _ T rfl;clear hBk hF T;simp only [cons_append,nil_append] at S) | ((with_reducible refine tot_done ?ht ?_);(case ht=>kernel_rfl)) | ((with_reducible apply wps_text S);(case hm=>kernel_rfl);(case hB=>decide +kernel);clear S;intro wz S)
   go_ret
   exact ⟨_,rfl,row_close S⟩
def RAllPost (l : List (Int × State)) (w : World) (e : Ending) (w' : World) : Prop:=
 ∃ b v,e = .returned (.func (.func 258) #[] #[.pointer (some ⟨b,0,none⟩)]) ∧ St (fun _=>False) w w' [Blk false b #[v] 249,Mem.Own 248 svcell 5 v l]
theorem rall_calls (X : Nat) (v : Value) (l : List (Int × State)) (hn : l.length ≤ 65536) (w : World) (F F2 : Nat → Prop) (h1 : (Blk true X #[v] 253).at_ w F) (h2 : (Sl true svcell 5 v l).at_ w F2) :
 Calls Tryz.prog 213 #[.pointer (some ⟨X,0,none⟩)] w (RAllPost l w):=by
 have S : St (fun _=>False) w w [Blk true X #[v] 253,Sl true svcell 5 v l]:=((St.init _ w).share (A:=Sl true svcell 5 v l) rfl rfl h2).share (A:=Blk true X #[v] 253) rfl rfl h1
 obtain ⟨ad,c,rfl,_⟩:=(S.sl 1 rfl).elim fun _ h=>h.form
 clear h1 h2
 go_enter Tryz.func213,Tryz.ntmps213
 go_wp2_with first | ((with_reducible apply wps_alloc1 (E:=249) S);(case hz=>exact Tryz.zeroValue249);(case h1=>rfl);clear S;intro b3 wz S) | ((with_reducible apply wps_load S 1);(case hx|hi|hu=>rfl);(case hT=>decide +kernel)) | (go_at_call 257;(refine Calls.mono (clone_Sv _ _ (S.get (i:=2) rfl).choose_spec (by omega)) ?_);rintro rr wz ⟨ad2,c2,rfl,-,T⟩;replace S:=S.join T rfl;clear T;simp only [cons_append,nil_append] at S) | ((with_reducible apply wps_store (u:=(.slice ad2 l.length c2)) S 1);(case hx|hy|hi|h1=>rfl);(case hn=>exact nle rfl);(case hT=>decide +kernel);clear S;intro wz S;simp only [set_cons_succ,set_cons_zero,setIfInBounds_toArray] at S)
 go_ret
 exact ⟨b3,_,rfl,S.pick [1,0] rfl⟩
def MadeS (x : Int × State) (args : Array Value) (N : List Asn) : Prop:=args = #[.int .i64 x.1,.agg #[.int .i64 x.2.n0,.int .i64 x.2.n1,.int .i64 x.2.n2,.int .i64 x.2.n3]] ∧ N = []
def SiRel (b : Nat) (v : Value) (l : List (Int × State)) (G : Nat → Prop) (w0 : World) (Φ : Nat → List Asn → Prop) (i : Value) (wr : World) : Prop:=
 ∃ (k : Nat) (L : List Asn),k ≤ l.length ∧ i = .int .i64 k ∧ Φ k L ∧ St G w0 wr (Blk true b #[v] 249 :: Sl true svcell 5 v l :: L)
theorem rall1_iter (b : Nat) (v : Value) (l : List (Int × State)) (hn : l.length ≤ 65536) : IterC Tryz.prog 258 #[.pointer (some ⟨b,0,none⟩)] [Blk true b #[v] 249,Sl true svcell 5 v l] l MadeS:=by
 intro y G w0 W Φ Ψ L hY h0 S
 simp only [cons_append,nil_append] at S
 show Calls Tryz.prog 258 #[.func (.yield y) #[] #[],.pointer (some ⟨b,0,none⟩)] W _
 obtain ⟨ad,c,rfl,_⟩:=(S.sl 1 rfl).elim fun _ h=>h.form
 have HY:=Lib.hid hY
 clear hY
 go_enter Tryz.func258,Tryz.ntmps258
 go_wp2_with first | ((with_reducible apply wps_load S 0);(case hx|hi|hu=>rfl);(case hT=>decide +kernel))
 go_loopw [7] (fun i wr=>SiRel b (.slice ad l.length c) l G w0 Φ i wr) (fun i _=>l.length - (intOf i).toNat)
 case atStart=>exact ⟨0,L,Nat.zero_le _,rfl,h0,S⟩
 case round=>
  clear S h0
  obtain ⟨k,L,hk,rfl,hΦ,S⟩:=hrel
  by_cases hlt : k < l.length
  · obtain ⟨x,hx⟩ : ∃ x,l[k]? = some x:=⟨_,List.getElem?_eq_getElem hlt⟩
    obtain ⟨R,o,rfl⟩ : ∃ R o,ad = some ⟨R,o,none⟩:=(S.sl 1 rfl).elim fun F h=>h.head (by omega)
    have hlt2 : (k : Int) < l.length:=by omega
    have Hx:=Lib.hid hx
    have HΦ:=Lib.hid hΦ
    clear hx hΦ
    go_upto_region 3 with first | ((with_reducible apply wps_loada_el S 1 (hj:=Hx.out) (q:=0) (vs:=[.int .i64 x.1,.int .i64 x.2.n0,.int .i64 x.2.n1,.int .i64 x.2.n2,.int .i64 x.2.n3]) (m:=5));(case hx|hi=>rfl);(case hn=>omega);(case hm|hv=>rfl);(case hT=>decide +kernel)) | ((with_reducible apply wps_alloca (E:=248) S);(case hz=>exact Tryz.zeroValue248);clear S;intro b4 wz S) | ((with_reducible apply wps_storea (T:=248) S 0 (vs:=[.int .i64 x.1,.int .i64 x.2.n0,.int .i64 x.2.n1,.int .i64 x.2.n2,.int .i64 x.2.n3]) (m:=5));(case hx|hy|hi|hm|h1=>rfl);(case hn=>exact nle rfl);(case hT=>decide +kernel);clear S;intro wz S;simp only [set_cons_zero,set_cons_succ,setAll,setIfInBounds_toArray] at S)
    refine wp_region_yl 5 rfl rfl rfl fun K hK=>?_
    simp only [List.take_succ_cons,List.take_zero]
    simp only [List.drop_succ_cons,List.drop_zero] at hK
    go_wp2_with first | ((with_reducible apply wps_load S 0);(case hx|hi|hu=>rfl);(case hT=>decide +kernel)) | ((with_reducible apply wps_loada (T:=141) (k:=4) S 0);(case hx|hi=>rfl);(case hk=>exact nle rfl);(case hT=>decide +kernel))
    refine hK _ _ ?_
    clear hK K
    (try simp only [Act.put]);(try simp only [setIfInBounds_toArray]);(try simp only [set_cons_succ]);(try simp only [set_cons_zero])
    refine yield_in (l:=y) rfl rfl rfl rfl rfl (HY.out k x _ [] L _ Hx.out ⟨rfl,rfl⟩ HΦ.out (St.tail S)) ?_
    rintro e w' ⟨L',S,(⟨rfl,hΦ'⟩ | ⟨rfl,hΨ⟩)⟩
    · refine ⟨_,rfl,?_⟩
      refine list_only rfl fun K hK=>?_
      go_wp2_with first | ((with_reducible apply wps_loada (T:=248) (k:=5) S 0);(case hx|hi=>rfl);(case hk=>exact nle rfl);(case hT=>decide +kernel))
      refine hK _ _ ?_
      clear hK K
      have HΦ':=Lib.hid hΦ'
      clear hΦ'
      go_wp2_with first | ((with_reducible apply wps_loada (T:=248) (k:=5) S 0);(case hx|hi=>rfl);(case hk=>exact nle rfl);(case hT=>decide +kernel))
      go_roundw
      case rel=>exact ⟨k + 1,L',by omega,by go_num,HΦ'.out,S⟩
      case measure=>first | (simp [intOf];done) | (simp [intOf];omega)
    · refine ⟨_,rfl,?_⟩
      refine list_only rfl fun K hK=>?_
      go_wp2_with first | ((with_reducible apply wps_loada (T:=248) (k:=5) S 0);(case hx|hi=>rfl);(case hk=>exact nle rfl);(case hT=>decide +kernel))
      refine hK _ _ ?_
      clear hK K
      have HΨ:=Lib.hid hΨ
      clear hΨ
      go_wp2_with first | ((with_reducible apply wps_loada (T:=248) (k:=5) S 0);(case hx|hi=>rfl);(case hk=>exact nle rfl);(case hT=>decide +kernel))
      (try simp only [Exit.inBlock,Exit.then]);refine bodyPost_ret (results_none rfl _ _ _) rfl ?_
      exact ⟨⟨_,rfl⟩,L',S,.inr ⟨k + 1,by omega,HΨ.out⟩⟩
  · obtain rfl : k = l.length:=by omega
    have HΦ:=Lib.hid hΦ
    clear hΦ
    go_wp2_with first | ((with_reducible apply wps_loada (T:=248) (k:=5) S 0);(case hx|hi=>rfl);(case hk=>exact nle rfl);(case hT=>decide +kernel))
    go_end0
    exact ⟨⟨_,rfl⟩,L,S,.inl HΦ.out⟩
end Go.Proofs.YtmjljoaakdocaaaGreatDoor
/- The walks of what a process sent: All, take, Drop. -/
namespace Go.Proofs.YtmjljoaakdocaaaGreatDoor
open Go Go.RowKit Reg Mem
open List (set_cons_succ set_cons_zero setIfInBounds_toArray cons_append nil_append)
theorem mscells : ∀ r : Message,r.cells.length = 8:=fun _=>rfl
theorem msone : ∀ r : Message,∀ u ∈ r.cells,u.oneCell' = true:=fun _=>by simp [Message.cells,Value.oneCell']
theorem elem_Msg : Elem Tryz.prog 197 84 8 64:=⟨_,.agg #[.int .i64 0,.int .i64 0,.int .i64 0,.int .i64 0,.int .i64 0,.int .i64 0,.int .i64 0,.bool false],Tryz.underlying197,rfl,by kernel_rfl,by kernel_rfl,by kernel_rfl,by kernel_rfl,by omega⟩
theorem elem_Rec : Elem Tryz.prog 244 276 8 64:=⟨_,.agg #[.int .i64 0,.int .i64 0,.int .i64 0,.int .i64 0,.int .i64 0,.int .i64 0,.int .i64 0,.bool false],Tryz.underlying244,rfl,by kernel_rfl,by kernel_rfl,by kernel_rfl,by kernel_rfl,by omega⟩
theorem clone_Rec {ad : Option Addr} {n c : Nat} {xs : List _} (w : World) (F : Nat → Prop) (h : (Sl true rccell 8 (.slice ad n c) xs).at_ w F) (hn : xs.length ≤ 4294967296) :
 Calls Tryz.prog 286 #[.slice ad n c] w fun e w'=>∃ ad' c',e = .returned (.slice ad' xs.length c') ∧ (0 < xs.length → ∃ R,ad' = some ⟨R,0,none⟩) ∧ St (fun _=>False) w w' [Mem.Own 276 rccell 8 (.slice ad' xs.length c') xs]:=by
 have S : St (fun _=>False) w w [Sl true rccell 8 (.slice ad n c) xs]:=(St.init _ w).share rfl rfl h
 have hq : ∀ (w : World) (a : Option Addr) (n c n' c' : Nat),(binOp .eql 244 (.slice a n c) (.slice none n' c')).run Tryz.prog w = .ok (.bool a.isNone) w:=fun w a n c n' c'=>Lib.run_eql_slice_nil w _ _ a n c n' c' Tryz.underlying244
 cases ad with
 | none=>
   have hx : xs = []:=by
    obtain ⟨a,c',e,h1,h2,_⟩:=h.1
    simp only [Value.slice.injEq] at e
    obtain ⟨rfl,rfl,rfl⟩:=e
    exact List.eq_nil_of_length_eq_zero (by have:=h2 rfl;omega)
   subst hx
   go_enter Tryz.func286,Tryz.ntmps286
   go_wp2_with first | ((with_reducible refine tot_done ?ht ?_);(case ht=>kernel_rfl))
   go_ret
   exact ⟨_,_,rfl,fun h=>absurd h (by simp),((S.nil 276 rccell 8).pick [0] rfl)⟩
 | some a0=>
   go_enter Tryz.func286,Tryz.ntmps286
   go_wp2_with first | ((with_reducible apply wps_build0 (T:=244) (E:=276) rccell 8 S);(case hr=>intro w;kernel_rfl);clear S;intro bz wz S) | ((with_reducible apply wps_appends elem_Rec rccells rcone (by decide) S 0 (j:=1));(case hx|hy|hi|hj=>rfl);(case hl=>first | omega | (simp;omega));clear S;intro az nz cz wz hnz S;simp only [set_cons_zero] at S)
   go_ret
   obtain rfl : nz = xs.length:=by have:=hnz.out;simp at this;omega
   simp only [nil_append] at S
   refine ⟨_,_,rfl,fun h0=>?_,S.pick [0] rfl⟩
   obtain ⟨F,hF⟩:=S.get (i:=0) rfl
   rcases hF.1.2 with ⟨_,e⟩ | ⟨g,cap,cur,e,_⟩
   · omega
   · simp only [Value.slice.injEq] at e;exact ⟨g,e.1⟩
def OAllPost (l : List (Event × Bool)) (w : World) (e : Ending) (w' : World) : Prop:=
 ∃ b v,e = .returned (.func (.func 287) #[] #[.pointer (some ⟨b,0,none⟩)]) ∧ St (fun _=>False) w w' [Blk false b #[v] 244,Mem.Own 276 rccell 8 v l]
theorem oall_calls (X : Nat) (v : Value) (l : List (Event × Bool)) (hn : l.length ≤ 65536) (w : World) (F F2 : Nat → Prop) (h1 : (Blk true X #[v] 246).at_ w F) (h2 : (Sl true rccell 8 v l).at_ w F2) :
 Calls Tryz.prog 246 #[.pointer (some ⟨X,0,none⟩)] w (OAllPost l w):=by
 have S : St (fun _=>False) w w [Blk true X #[v] 246,Sl true rccell 8 v l]:=((St.init _ w).share (A:=Sl true rccell 8 v l) rfl rfl h2).share (A:=Blk true X #[v] 246) rfl rfl h1
 obtain ⟨ad,c,rfl,_⟩:=(S.sl 1 rfl).elim fun _ h=>h.form
 clear h1 h2
 go_enter Tryz.func246,Tryz.ntmps246
 go_wp2_with first | ((with_reducible apply wps_alloc1 (E:=244) S);(case hz=>exact Tryz.zeroValue244);(case h1=>rfl);clear S;intro b3 wz S) | ((with_reducible apply wps_load S 1);(case hx|hi|hu=>rfl);(case hT=>decide +kernel)) | (go_at_call 286;(refine Calls.mono (clone_Rec _ _ (S.get (i:=2) rfl).choose_spec (by omega)) ?_);rintro rr wz ⟨ad2,c2,rfl,-,T⟩;replace S:=S.join T rfl;clear T;simp only [cons_append,nil_append] at S) | ((with_reducible apply wps_store (u:=(.slice ad2 l.length c2)) S 1);(case hx|hy|hi|h1=>rfl);(case hn=>exact nle rfl);(case hT=>decide +kernel);clear S;intro wz S;simp only [set_cons_succ,set_cons_zero,setIfInBounds_toArray] at S)
 go_ret
 exact ⟨b3,_,rfl,S.pick [1,0] rfl⟩
def MadeR (x : Event × Bool) (args : Array Value) (N : List Asn) : Prop:=args = #[.agg #[.int .i64 x.1.key.at_,.int .i64 x.1.key.src,.int .i64 x.1.key.sent,.int .i64 x.1.key.no,.int .i64 x.1.dst,.int .i64 x.1.kind,.int .i64 x.1.data],.bool x.2] ∧ N = []
def OiRel (b : Nat) (v : Value) (l : List (Event × Bool)) (G : Nat → Prop) (w0 : World) (Φ : Nat → List Asn → Prop) (i : Value) (wr : World) : Prop:=
 ∃ (k : Nat) (L : List Asn),k ≤ l.length ∧ i = .int .i64 k ∧ Φ k L ∧ St G w0 wr (Blk true b #[v] 244 :: Sl true rccell 8 v l :: L)
theorem oall1_iter (b : Nat) (v : Value) (l : List (Event × Bool)) (hn : l.length ≤ 65536) : IterC Tryz.prog 287 #[.pointer (some ⟨b,0,none⟩)] [Blk true b #[v] 244,Sl true rccell 8 v l] l MadeR:=by
 intro y G w0 W Φ Ψ L hY h0 S
 simp only [cons_append,nil_append] at S
 show Calls Tryz.prog 287 #[.func (.yield y) #[] #[],.pointer (some ⟨b,0,none⟩)] W _
 obtain ⟨ad,c,rfl,_⟩:=(S.sl 1 rfl).elim fun _ h=>h.form
 have HY:=Lib.hid hY
 clear hY
 go_enter Tryz.func287,Tryz.ntmps287
 go_wp2_with first | ((with_reducible apply wps_load S 0);(case hx|hi|hu=>rfl);(case hT=>decide +kernel))
 go_loopw [7] (fun i wr=>OiRel b (.slice ad l.length c) l G w0 Φ i wr) (fun i _=>l.length - (intOf i).toNat)
 case atStart=>exact ⟨0,L,Nat.zero_le _,rfl,h0,S⟩
 case round=>
  clear S h0
  obtain ⟨k,L,hk,rfl,hΦ,S⟩:=hrel
  by_cases hlt : k < l.length
  · obtain ⟨x,hx⟩ : ∃ x,l[k]? = some x:=⟨_,List.getElem?_eq_getElem hlt⟩
    obtain ⟨R,o,rfl⟩ : ∃ R o,ad = some ⟨R,o,none⟩:=(S.sl 1 rfl).elim fun F h=>h.head (by omega)
    have hlt2 : (k : Int) < l.length:=by omega
    have Hx:=Lib.hid hx
    have HΦ:=Lib.hid hΦ
    clear hx hΦ
    go_upto_region 3 with first | ((with_reducible apply wps_loada_el S 1 (hj:=Hx.out) (q:=0) (vs:=[.int .i64 x.1.key.at_,.int .i64 x.1.key.src,.int .i64 x.1.key.sent,.int .i64 x.1.key.no,.int .i64 x.1.dst,.int .i64 x.1.kind,.int .i64 x.1.data,.bool x.2]) (m:=8));(case hx|hi=>rfl);(case hn=>omega);(case hm|hv=>rfl);(case hT=>decide +kernel)) | ((with_reducible apply wps_alloca (E:=276) S);(case hz=>exact Tryz.zeroValue276);clear S;intro b4 wz S) | ((with_reducible apply wps_storea (T:=276) S 0 (vs:=[.int .i64 x.1.key.at_,.int .i64 x.1.key.src,.int .i64 x.1.key.sent,.int .i64 x.1.key.no,.int .i64 x.1.dst,.int .i64 x.1.kind,.int .i64 x.1.data,.bool x.2]) (m:=8));(case hx|hy|hi|hm|h1=>rfl);(case hn=>exact nle rfl);(case hT=>decide +kernel);clear S;intro wz S;simp only [set_cons_zero,set_cons_succ,setAll,setIfInBounds_toArray] at S)
    refine wp_region_yl 5 rfl rfl rfl fun K hK=>?_
    simp only [List.take_succ_cons,List.take_zero]
    simp only [List.drop_succ_cons,List.drop_zero] at hK
    go_wp2_with first | ((with_reducible apply wps_loada (T:=58) (k:=7) S 0);(case hx|hi=>rfl);(case hk=>exact nle rfl);(case hT=>decide +kernel)) | ((with_reducible apply wps_load S 0);(case hx|hi|hu=>rfl);(case hT=>decide +kernel))
    refine hK _ _ ?_
    clear hK K
    (try simp only [Act.put]);(try simp only [setIfInBounds_toArray]);(try simp only [set_cons_succ]);(try simp only [set_cons_zero])
    refine yield_in (l:=y) rfl rfl rfl rfl rfl (HY.out k x _ [] L _ Hx.out ⟨rfl,rfl⟩ HΦ.out (St.tail S)) ?_
    rintro e w' ⟨L',S,(⟨rfl,hΦ'⟩ | ⟨rfl,hΨ⟩)⟩
    · refine ⟨_,rfl,?_⟩
      refine list_only rfl fun K hK=>?_
      go_wp2_with first | ((with_reducible apply wps_loada (T:=276) (k:=8) S 0);(case hx|hi=>rfl);(case hk=>exact nle rfl);(case hT=>decide +kernel))
      refine hK _ _ ?_
      clear hK K
      have HΦ':=Lib.hid hΦ'
      clear hΦ'
      go_wp2_with first | ((with_reducible apply wps_loada (T:=276) (k:=8) S 0);(case hx|hi=>rfl);(case hk=>exact nle rfl);(case hT=>decide +kernel))
      go_roundw
      case rel=>exact ⟨k + 1,L',by omega,by go_num,HΦ'.out,S⟩
      case measure=>first | (simp [intOf];done) | (simp [intOf];omega)
    · refine ⟨_,rfl,?_⟩
      refine list_only rfl fun K hK=>?_
      go_wp2_with first | ((with_reducible apply wps_loada (T:=276) (k:=8) S 0);(case hx|hi=>rfl);(case hk=>exact nle rfl);(case hT=>decide +kernel))
      refine hK _ _ ?_
      clear hK K
      have HΨ:=Lib.hid hΨ
      clear hΨ
      go_wp2_with first | ((with_reducible apply wps_loada (T:=276) (k:=8) S 0);(case hx|hi=>rfl);(case hk=>exact nle rfl);(case hT=>decide +kernel))
      (try simp only [Exit.inBlock,Exit.then]);refine bodyPost_ret (results_none rfl _ _ _) rfl ?_
      exact ⟨⟨_,rfl⟩,L',S,.inr ⟨k + 1,by omega,HΨ.out⟩⟩
  · obtain rfl : k = l.length:=by omega
    have HΦ:=Lib.hid hΦ
    clear hΦ
    go_wp2_with first | ((with_reducible apply wps_loada (T:=276) (k:=8) S 0);(case hx|hi=>rfl);(case hk=>exact nle rfl);(case hT=>decide +kernel))
    go_end0
    exact ⟨⟨_,rfl⟩,L,S,.inl HΦ.out⟩
def dropB (below : Int) (r : Event × Bool) : Bool:=r.2 && decide (r.1.key.sent < below)
theorem odrop1_calls (bt : Nat) (below : Int) (x : Event × Bool) (w : World) (F : Nat → Prop) (h : (Blk true bt #[.int .i64 below] 3).at_ w F) :
 Calls Tryz.prog 259 #[.agg #[.int .i64 x.1.key.at_,.int .i64 x.1.key.src,.int .i64 x.1.key.sent,.int .i64 x.1.key.no,.int .i64 x.1.dst,.int .i64 x.1.kind,.int .i64 x.1.data,.bool x.2],.pointer (some ⟨bt,0,none⟩)] w fun e w'=>e = .returned (.bool (dropB below x)) ∧ Below w.heap.size w w':=by
 have S : St (fun _=>False) w w [Blk true bt #[.int .i64 below] 3]:=(St.init _ w).share rfl rfl h
 clear h
 obtain ⟨e,s⟩:=x
 unfold dropB
 cases s with
 | true=>
   go_enter Tryz.func259,Tryz.ntmps259
   go_wp2_with first | ((with_reducible apply wps_boxa (E:=276) S);(case hx=>rfl);clear S;intro b2 wz S) | ((with_reducible apply wps_load S 0);(case hx|hi|hu=>rfl);(case hT=>decide +kernel)) | ((with_reducible apply wps_load S 1);(case hx|hi|hu=>rfl);(case hT=>decide +kernel))
   go_ret
   exact ⟨ret_bool (by simp),S.below⟩
 | false=>
   go_enter Tryz.func259,Tryz.ntmps259
   go_wp2_with first | go_skip | ((with_reducible apply wps_boxa (E:=276) S);(case hx=>rfl);clear S;intro b2 wz S) | ((with_reducible apply wps_load S 0);(case hx|hi|hu=>rfl);(case hT=>decide +kernel))
   go_ret
   exact ⟨ret_bool (by simp),S.below⟩
end Go.Proofs.YtmjljoaakdocaaaGreatDoor
/- The walks of take and Drop of what a process sent. -/
namespace Go.Proofs.YtmjljoaakdocaaaGreatDoor
open Go Go.RowKit Reg Mem
open List (set_cons_succ set_cons_zero setIfInBounds_toArray cons_append nil_append)
theorem zip_two2 (p q : Tmp) (v u : Value) (t : Array Value) : (#[p,q].zip #[v,u]).foldl (fun t (p,v)=>t.setIfInBounds p v) t = (t.setIfInBounds p v).setIfInBounds q u:=by simp
theorem filter_snocR {p : Event × Bool → Bool} {l : List (Event × Bool)} {j : Nat} {x : Event × Bool} (h : l[j]? = some x) : (l.take (j + 1)).filter p = (l.take j).filter p ++ (if p x = true then [x] else []):=by
 rw [List.take_add_one,h,Option.toList_some,List.filter_append]
 by_cases e : p x = true
 · rw [if_pos e,List.filter_cons_of_pos e];rfl
 · rw [if_neg e,List.filter_cons_of_neg e];rfl
section
variable {P : Program} {ops : Array Oper} {rest : List Oper} {a : Act} {Q : Exit → Act → World → Prop} {d : Option Tmp} {tt : TypeId} {p : String} {af : Array Edge} {gd : Option (Nat × Bool)} {x fx : Operand} {w : World}
theorem wps_callfn {f : FuncId} {cap : Array Value} {vx : Value} {ats : Array TypeId} (hf : a.eval fx = .func (.func f) #[] cap) (hx : a.eval x = vx) (eg : ∀ args w,(callFunc f args).run P w = .ok (.enter f args) w)
 (hc : Calls P f (#[vx] ++ cap) w fun e w'=>∃ v,e = .returned v ∧ wpList P ops Q rest (a.put d v) w') (hgd : gOk gd ops a = true:=by with_unfolding_all rfl) :
 wpList P ops Q ({ dst:=d,op:=.call { callee:=.value fx,args:=#[x],argTypes:=ats },type:=tt,pos:=p,after:=af,guard:=gd } :: rest) a w:=
 wpList_ok hgd fun K hK=>by
  unfold Oper.wp execOp
  simp only [resolve,Sem.run_bind,List.map_toArray,List.map_cons,List.map_nil,hf,hx,invoke]
  simp only [Deferred.ofValue,Sem.run_pure,Result.andThen_ok,eg,Oper.upon_enter,Array.empty_append]
  refine Calls.mono hc ?_
  rintro e w' ⟨v,rfl,h⟩
  exact hK _ _ h
end
def antiM (r : Event × Bool) : Message:=⟨r.1,true⟩
def TakePost (T : Nat) (gone left : List (Event × Bool)) (F : Nat → Prop) (w : World) (e : Ending) (w' : World) : Prop:=
 ∃ a c,e = .returned (.slice a gone.length c) ∧ St F w w' [sentA T left,Mem.Own 84 Message.cells 8 (.slice a gone.length c) (gone.map antiM)]
def TakeEPost (E : Asn) (T : Nat) (gone left : List (Event × Bool)) (F : Nat → Prop) (w : World) (e : Ending) (w' : World) : Prop:=
 ∃ a c,e = .returned (.slice a gone.length c) ∧ St F w w' [sentA T left,Mem.Own 84 Message.cells 8 (.slice a gone.length c) (gone.map antiM),E]
def TakeC (cn : Nat) (caps : Array Value) (E : Asn) (p : Event × Bool → Bool) : Prop:=∀ (x : Event × Bool) (w : World) (F : Nat → Prop),E.at_ w F → Calls Tryz.prog cn (#[.agg #[.int .i64 x.1.key.at_,.int .i64 x.1.key.src,.int .i64 x.1.key.sent,.int .i64 x.1.key.no,.int .i64 x.1.dst,.int .i64 x.1.kind,.int .i64 x.1.data,.bool x.2]] ++ caps) w fun e w'=>e = .returned (.bool (p x)) ∧ Below w.heap.size w w'
def TkPhi (fv : Value) (E : Asn) (T b3 b5 b6 : Nat) (v : Value) (p : Event × Bool → Bool) (l : List (Event × Bool)) (j : Nat) (L : List Asn) : Prop:=
 ∃ (lv rv : Value) (lo : List Message) (ro : List (Event × Bool)),Hid (lo = ((l.take j).filter p).map antiM) ∧ Hid (ro = (l.take j).filter fun r=>!p r) ∧
  L = [Mem.Own 84 Message.cells 8 lv lo,Mem.Own 276 rccell 8 rv ro,Blk false b5 #[lv] 197,Blk false b6 #[rv] 244,Blk false b3 #[fv] 326,E,Blk false T #[v] 246]
theorem take_gen (cn : Nat) (caps : Array Value) (E : Asn) (p : Event × Bool → Bool) (hc : TakeC cn caps E p) (heg : ∀ args w,(callFunc cn args).run Tryz.prog w = .ok (.enter cn args) w) (T : Nat) (l : List (Event × Bool)) (hn : l.length ≤ 65536) (w : World) (F : Nat → Prop) (S0 : St F w w [sentA T l,E]) :
 Calls Tryz.prog 200 #[.pointer (some ⟨T,0,none⟩),.func (.func cn) #[] caps] w (TakeEPost E T (l.filter p) (l.filter fun r=>!p r) F w):=by
 obtain ⟨v,S⟩:=sent_open S0
 clear S0
 have HA:=Lib.hid fun w F F2 h1 h2=>oall_calls T v l hn w F F2 h1 h2
 have HN:=Lib.hid hn
 have HEG:=Lib.hid heg
 clear heg
 refine calls_marks Tryz.func200 rfl ?_
 simp only [Tryz.ntmps200,List.size_toArray,List.length_cons,List.length_nil,Nat.reduceAdd,Nat.reduceSub,Array.replicate_succ,Array.replicate_zero,List.push_toArray,List.append_toArray,nil_append,cons_append]
 go_wp2_with first | ((with_reducible apply wps_box1 (v:=.func (.func cn) #[] caps) S);(case hx|h1=>rfl);clear S;intro b3 wz S) | ((with_reducible apply wps_alloc1 (E:=197) S);(case hz=>exact Tryz.zeroValue197);(case h1=>rfl);clear S;intro b5 wz S) | ((with_reducible apply wps_alloc1 (E:=244) S);(case hz=>exact Tryz.zeroValue244);(case h1=>rfl);clear S;intro b6 wz S) | (go_at_call 246;(refine Calls.mono (HA.out _ _ _ (S.get (i:=4) rfl).choose_spec (own_sl (sh:=true) rccells (S.get (i:=3) rfl).choose_spec)) ?_);rintro rr wz ⟨bl,vl,rfl,T⟩;replace S:=S.join T rfl;clear T;simp only [cons_append,nil_append] at S)
 replace S:=S.weak (i:=0) (A':=Blk true bl #[vl] 244) rfl (fun e=>by cases e) (fun F h=>⟨F,fun _ hb=>hb,h⟩)
 simp only [set_cons_zero] at S
 replace S:=S.freeze true 1 rccells rfl
 simp only [set_cons_zero,set_cons_succ] at S
 replace S:=((S.nil 276 rccell 8).nil 84 Message.cells 8).pick [2,3,0,1,5,4,6,9,8] rfl
 simp only [pick,nth] at S
 refine wps_range (oall1_iter bl vl l hn) S rfl (calls_enter Tryz.func287 (by kernel_rfl) rfl) (TkPhi (.func (.func cn) #[] caps) E T b3 b5 b6 v p l) (fun _ _ _=>False) ⟨.slice none 0 0,.slice none 0 0,[],[],Lib.hid rfl,Lib.hid rfl,rfl⟩ (fun x args N h=>by obtain ⟨rfl,_⟩:=h;rfl) ?round ?done ?stop
 case stop=>intro _ _ _ _ _ _ h;exact h.elim
 case round=>
  rintro lp D r j x args N L W hx ⟨rfl,rfl⟩ ⟨lv,rv,lo,ro,HLO,HRO,rfl⟩ S
  simp only [zip_two2,setIfInBounds_toArray,set_cons_succ,set_cons_zero,cons_append,nil_append] at S ⊢
  obtain ⟨a3,c3,rfl,_⟩:=(S.ownsl mscells 2 rfl).elim fun _ h=>h.form
  obtain ⟨a4,c4,rfl,_⟩:=(S.ownsl rccells 3 rfl).elim fun _ h=>h.form
  have HF2:=Lib.hid (filter_snocR (p:=p) hx)
  have HF3:=Lib.hid (filter_snocR (p:=fun r=>!p r) hx)
  have hll : lo.length < 4294967296:=by rw [HLO.out,List.length_map];exact Nat.lt_of_le_of_lt (Nat.le_trans (List.length_filter_le ..) (List.length_take_le' ..)) (by omega)
  have hlr : ro.length < 4294967296:=by rw [HRO.out];exact Nat.lt_of_le_of_lt (Nat.le_trans (List.length_filter_le ..) (List.length_take_le' ..)) (by omega)
  have HC:=Lib.hid fun w F h=>hc x w F h
  obtain ⟨g,hg⟩ : ∃ g,p x = g:=⟨_,rfl⟩
  rw [hg] at HC HF2 HF3
  clear hg hx
  gi_wp2_with first
   | (refine wpi_at (.inr ⟨_,rfl⟩) rfl fun K hK=>?_
      go_wp2_with first | ((with_reducible apply wps_alloca (E:=58) S);(case hz=>exact Tryz.zeroValue58);clear S;intro b7 wz S) | ((with_reducible apply wps_storea (T:=58) S 0 (vs:=[.int .i64 x.1.key.at_,.int .i64 x.1.key.src,.int .i64 x.1.key.sent,.int .i64 x.1.key.no,.int .i64 x.1.dst,.int .i64 x.1.kind,.int .i64 x.1.data]) (m:=7));(case hx|hy|hi|hm|h1=>rfl);(case hn=>exact nle rfl);(case hT=>decide +kernel);clear S;intro wz S;simp only [set_cons_zero,set_cons_succ,setAll,setIfInBounds_toArray] at S)
      refine hK _ _ ?_
      (try simp only [Act.put]);(try simp only [setIfInBounds_toArray]);(try simp only [set_cons_succ]);(try simp only [set_cons_zero])
      clear hK K)
  refine ⟨_,S.lastSplit rfl,fun r' W2 S=>?_⟩
  simp only [List.dropLast,cons_append,nil_append] at S
  cases g with
  | true=>
    simp only [if_true] at HF2
    rw [if_neg (by decide),List.append_nil,← HRO.out] at HF3
    have HLO2 : Hid (lo ++ [antiM x] = ((l.take (j + 1)).filter p).map antiM):=Lib.hid (by rw [HF2.out,List.map_append,← HLO.out];rfl)
    refine wpIn_block (wpIn_seq_nK fun K hK=>wpi_list_k (.inr ⟨_,rfl⟩) rfl fun K2 hK2=>?_)
    go_wp2_with first | ((with_reducible apply wps_loada (T:=58) (k:=7) S 0);(case hx|hi=>rfl);(case hk=>exact nle rfl);(case hT=>decide +kernel)) | ((with_reducible apply wps_alloca (E:=276) S);(case hz=>exact Tryz.zeroValue276);clear S;intro b9 wz S) | ((with_reducible apply wps_storea (T:=276) S 0 (vs:=[.int .i64 x.1.key.at_,.int .i64 x.1.key.src,.int .i64 x.1.key.sent,.int .i64 x.1.key.no,.int .i64 x.1.dst,.int .i64 x.1.kind,.int .i64 x.1.data,.bool x.2]) (m:=8));(case hx|hy|hi|hm|h1=>rfl);(case hn=>exact nle rfl);(case hT=>decide +kernel);clear S;intro wz S;simp only [set_cons_zero,set_cons_succ,setAll,setIfInBounds_toArray] at S)
    refine hK2 _ _ (hK _ _ ?_)
    clear hK hK2 K K2
    refine wpIn_seq_nK fun K hK=>wpi_list_k (.inr ⟨_,rfl⟩) rfl fun K2 hK2=>?_
    go_wp2_with first | ((with_reducible apply wps_load S 8);(case hx|hi|hu=>rfl);(case hT=>decide +kernel)) | ((with_reducible apply wps_loada (T:=276) (k:=8) S 0);(case hx|hi=>rfl);(case hk=>exact nle rfl);(case hT=>decide +kernel)) | ((with_reducible apply wps_callfn);(case hf|hx=>rfl);(case eg=>exact HEG.out);(case hgd=>with_unfolding_all rfl);refine Calls.mono (HC.out _ _ (S.get (i:=9) rfl).choose_spec) ?_;rintro e wz ⟨rfl,hE⟩;refine ⟨_,rfl,?_⟩;replace S:=S.ext (Keep.of_below hE);clear hE)
    refine hK2 _ _ (hK _ _ ?_)
    clear hK hK2 K K2
    refine wpIn_cond_true (by first | rfl | (simp [Act.eval];done)) (wpi_list_k (.inr ⟨_,rfl⟩) rfl fun K2 hK2=>?_)
    go_wp2_with first | ((with_reducible apply wps_load S 6);(case hx|hi|hu=>rfl);(case hT=>decide +kernel)) | ((with_reducible apply wps_loada (T:=58) (k:=7) S 1);(case hx|hi=>rfl);(case hk=>exact nle rfl);(case hT=>decide +kernel)) | ((with_reducible apply wps_build1a (T:=197) (E:=84) S);(case hx=>rfl);(case hr=>intro w;kernel_rfl);clear S;intro bz wz S) | ((with_reducible apply wps_append1 elem_Msg mscells msone (by decide) S 5 (j:=0) (e:=antiM x));(case hx|hy|hi|hj|he=>rfl);(case hl=>omega);clear S;intro az nz cz wz hnz S;simp only [set_cons_succ,set_cons_zero] at S) | ((with_reducible apply wps_store (u:=(.slice az nz cz)) S 7);(case hx|hy|hi|h1=>rfl);(case hn=>exact nle rfl);(case hT=>decide +kernel);clear S;intro wz S;simp only [set_cons_succ,set_cons_zero,setIfInBounds_toArray] at S)
    refine hK2 _ _ ?_
    clear hK2 K2
    exact ⟨_,⟨_,_,_,_,HLO2,HF3.symm,rfl⟩,S.pick [3,4,5,6,7,8,9,10,11,12] rfl⟩
  | false=>
    simp only [Bool.not_false,if_true] at HF3
    rw [if_neg (by decide),List.append_nil] at HF2
    rw [← HRO.out] at HF3
    have HLO2 : Hid (lo = ((l.take (j + 1)).filter p).map antiM):=Lib.hid (by rw [HF2.out,← HLO.out])
    refine wpIn_block (wpIn_seq_nK fun K hK=>wpi_list_k (.inr ⟨_,rfl⟩) rfl fun K2 hK2=>?_)
    go_wp2_with first | ((with_reducible apply wps_loada (T:=58) (k:=7) S 0);(case hx|hi=>rfl);(case hk=>exact nle rfl);(case hT=>decide +kernel)) | ((with_reducible apply wps_alloca (E:=276) S);(case hz=>exact Tryz.zeroValue276);clear S;intro b9 wz S) | ((with_reducible apply wps_storea (T:=276) S 0 (vs:=[.int .i64 x.1.key.at_,.int .i64 x.1.key.src,.int .i64 x.1.key.sent,.int .i64 x.1.key.no,.int .i64 x.1.dst,.int .i64 x.1.kind,.int .i64 x.1.data,.bool x.2]) (m:=8));(case hx|hy|hi|hm|h1=>rfl);(case hn=>exact nle rfl);(case hT=>decide +kernel);clear S;intro wz S;simp only [set_cons_zero,set_cons_succ,setAll,setIfInBounds_toArray] at S)
    refine hK2 _ _ (hK _ _ ?_)
    clear hK hK2 K K2
    refine wpIn_seq_nK fun K hK=>wpi_list_k (.inr ⟨_,rfl⟩) rfl fun K2 hK2=>?_
    go_wp2_with first | ((with_reducible apply wps_load S 8);(case hx|hi|hu=>rfl);(case hT=>decide +kernel)) | ((with_reducible apply wps_loada (T:=276) (k:=8) S 0);(case hx|hi=>rfl);(case hk=>exact nle rfl);(case hT=>decide +kernel)) | ((with_reducible apply wps_callfn);(case hf|hx=>rfl);(case eg=>exact HEG.out);(case hgd=>with_unfolding_all rfl);refine Calls.mono (HC.out _ _ (S.get (i:=9) rfl).choose_spec) ?_;rintro e wz ⟨rfl,hE⟩;refine ⟨_,rfl,?_⟩;replace S:=S.ext (Keep.of_below hE);clear hE)
    refine hK2 _ _ (hK _ _ ?_)
    clear hK hK2 K K2
    refine wpIn_cond_false (by first | rfl | (simp [Act.eval];done)) (wpi_list_k (.inr ⟨_,rfl⟩) rfl fun K2 hK2=>?_)
    go_wp2_with first | ((with_reducible apply wps_load S 7);(case hx|hi|hu=>rfl);(case hT=>decide +kernel)) | ((with_reducible apply wps_loada (T:=276) (k:=8) S 0);(case hx|hi=>rfl);(case hk=>exact nle rfl);(case hT=>decide +kernel)) | ((with_reducible apply wps_build1a (T:=244) (E:=276) S);(case hx=>rfl);(case hr=>intro w;kernel_rfl);clear S;intro bz wz S) | ((with_reducible apply wps_append1 elem_Rec rccells rcone (by decide) S 6 (j:=0) (e:=x));(case hx|hy|hi|hj|he=>rfl);(case hl=>omega);clear S;intro az nz cz wz hnz S;simp only [set_cons_succ,set_cons_zero] at S) | ((with_reducible apply wps_store (u:=(.slice az nz cz)) S 8);(case hx|hy|hi|h1=>rfl);(case hn=>exact nle rfl);(case hT=>decide +kernel);clear S;intro wz S;simp only [set_cons_succ,set_cons_zero,setIfInBounds_toArray] at S)
    refine hK2 _ _ ?_
    clear hK2 K2
    exact ⟨_,⟨_,_,_,_,HLO2,HF3.symm,rfl⟩,S.pick [3,4,5,6,7,8,9,10,11,12] rfl⟩
 case done=>
  rintro D W L ⟨lv,rv,lo,ro,HLO,HRO,rfl⟩ S
  simp only [cons_append,nil_append] at S
  rw [List.take_length] at HLO HRO
  obtain ⟨a3,c3,rfl,_⟩:=(S.ownsl mscells 3 rfl).elim fun _ h=>h.form
  obtain ⟨a4,c4,rfl,_⟩:=(S.ownsl rccells 4 rfl).elim fun _ h=>h.form
  go_wp2_with first | ((with_reducible apply wps_load S 6);(case hx|hi|hu=>rfl);(case hT=>decide +kernel)) | ((with_reducible apply wps_store (u:=(.slice a4 ro.length c4)) S 9);(case hx|hy|hi|h1=>rfl);(case hn=>exact nle rfl);(case hT=>decide +kernel);clear S;intro wz S;simp only [set_cons_succ,set_cons_zero,setIfInBounds_toArray] at S) | ((with_reducible apply wps_load S 5);(case hx|hi|hu=>rfl);(case hT=>decide +kernel))
  refine leaves_ret1 S rfl fun w' S=>⟨_,results1 rfl (res_tmp rfl),a3,c3,?_,?_⟩
  · rw [HLO.out,List.length_map];rfl
  · rw [← HRO.out,← HLO.out]
    have hll : (l.filter p).length = lo.length:=by rw [HLO.out,List.length_map]
    rw [hll]
    exact sent_close (S.pick [3,8,2,7] rfl)
def ODropPost (T : Nat) (left : List (Event × Bool)) (F : Nat → Prop) (w : World) (e : Ending) (w' : World) : Prop:=
 ∃ n : Int,e = .returned (.int .i64 n) ∧ St F w w' [sentA T left]
theorem odrop_calls (T : Nat) (u : Int) (l : List (Event × Bool)) (hn : l.length ≤ 65536) (w : World) (F : Nat → Prop) (S0 : St F w w [sentA T l]) :
 Calls Tryz.prog 215 #[.pointer (some ⟨T,0,none⟩),.int .i64 u] w (ODropPost T (l.filter fun r=>!dropB u r) F w):=by
 have S:=S0
 clear S0
 have HT:=Lib.hid fun bt w F S0=>take_gen 259 #[.pointer (some ⟨bt,0,none⟩)] (Blk true bt #[.int .i64 u] 3) (dropB u) (fun x w F h=>odrop1_calls bt u x w F h) (calls_enter Tryz.func259 (by kernel_rfl) rfl) T l hn w F S0
 go_enter Tryz.func215,Tryz.ntmps215
 go_wp2_with first | ((with_reducible apply wps_box1 (v:=.int _ u) S);(case hx|h1=>rfl);clear S;intro b3 wz S) | (go_at_call 200;replace S:=S.weak (i:=0) (A':=Blk true b3 #[.int .i64 u] 3) rfl (fun e=>by cases e) (fun F h=>⟨F,fun _ hb=>hb,h⟩);simp only [set_cons_zero] at S;obtain ⟨Fz,hF,hBk⟩:=S.lend [1] [0] [] rfl rfl rfl;simp only [cons_append,nil_append,pick,nth] at hF hBk;refine Calls.mono (HT.out b3 _ _ hF) ?_;rintro rr wz ⟨az,cz,rfl,T⟩;replace S:=hBk _ _ (T.pick [0,1] rfl) rfl;clear hBk hF T;simp only [cons_append,nil_append,pick,nth] at S)
 go_ret
 exact ⟨_,rfl,S.pick [0] rfl⟩
end Go.Proofs.YtmjljoaakdocaaaGreatDoor
