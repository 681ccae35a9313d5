import Derived.Test.YtmjljoaakdocaaaGreatDoorY21
import Derived.Test.YtmjljoaakdocaaaGreatDoorY18
import Derived.Test.YtmjljoaakdocaaaGreatDoorY19
/- The walks of a worker's LPs, of a process's Next and Events. -/
set_option maxHeartbeats 16000000
set_option maxRecDepth 100000
namespace Go.Proofs.YtmjljoaakdocaaaGreatDoor
open Go Go.RowKit Reg Mem
open List (set_cons_succ set_cons_zero setIfInBounds_toArray cons_append nil_append)
theorem workerR_st {W R : Nat} {k : WkE} {w : World} {F : Nat → Prop} (h : (workerA W R k).at_ w F) :
 ∃ (g M : Nat) (qs : List LpAt) (es : Array MapEntry) (clock : Nat),qs.map LpAt.e = k.ps ∧ Tells Tryz.prog 3 intE es clock (qs.map LpAt.kv) ∧ St (fun _=>False) w w [Blk true W #[.pointer (some ⟨g,0,none⟩),.map (some M)] 135,MapE true M es clock]:=by
 obtain ⟨⟨g,M,qs⟩,F1,F2,⟨h1,_⟩,⟨F3,F4,h3,⟨F5,F6,h5,⟨F7,F8,⟨⟨es,clock,h7,h8⟩,h9⟩,_,_,_⟩,_,_⟩,_,_⟩,_,_⟩:=h
 refine ⟨g,M,qs,es,clock,h1,h8,?_⟩
 have S1 : St (fun _=>False) w w [MapE true M es clock]:=(St.init _ w).share (F:=F7) rfl rfl ⟨h7,h9⟩
 exact S1.share (A:=Blk true W #[.pointer (some ⟨g,0,none⟩),.map (some M)] 135) rfl rfl h3
theorem wlps_calls (W R : Nat) (k : WkE) (hn : k.ps.length ≤ 65536) (w : World) (F : Nat → Prop) (h : (workerA W R k).at_ w F) : Calls Tryz.prog 57 #[.pointer (some ⟨W,0,none⟩)] w (SortedPost (sortZ (k.ps.map (·.1))) w):=by
 obtain ⟨g,M,qs,es,clock,hq,ht,S⟩:=workerR_st h
 have HS:=Lib.hid fun b w F F2 h1 h2=>sorted_calls b M es clock _ ht (by rw [List.length_map,← List.length_map (f:=LpAt.e),hq];exact hn) w F F2 h1 h2
 have e1 : (qs.map LpAt.kv).map (·.1) = k.ps.map (·.1):=by rw [← hq,List.map_map,List.map_map];rfl
 rw [e1] at HS
 clear h ht hq e1
 go_enter Tryz.func57,Tryz.ntmps57
 go_wp2_with first | ((with_reducible apply wps_load S 0);(case hx|hi|hu=>rfl);(case hT=>decide +kernel)) | (go_at_call 99;(with_reducible refine Calls.mono (mkeys_calls M _) ?_);rintro rr wz ⟨b,rfl,T⟩;replace S:=S.join T rfl;clear T;simp only [cons_append,nil_append] at S;replace S:=S.weak (i:=0) (A':=Blk true b #[.map (some M)] 133) rfl (fun e=>by cases e) (fun F h=>⟨F,fun _ hb=>hb,h⟩);simp only [set_cons_zero] at S) | (go_at_call 98;(with_reducible refine Calls.mono (HS.out _ _ _ _ (S.get (i:=0) rfl).choose_spec (S.get (i:=2) rfl).choose_spec) ?_);rintro rr wz ⟨ad,c,rfl,T⟩;replace S:=S.join T rfl;clear T;simp only [cons_append,nil_append] at S)
 go_ret
 exact ⟨ad,c,rfl,S.pick [0] rfl⟩
theorem vals_calls (v : Value) (h1 : v.oneCell' = true) (w : World) : Calls Tryz.prog 198 #[v] w fun e w'=>∃ b,e = .returned (.func (.func 245) #[] #[.pointer (some ⟨b,0,none⟩)]) ∧ St (fun _=>False) w w' [Blk false b #[v] 53]:=by
 have S:=St.init (fun _=>False) w
 go_enter Tryz.func198,Tryz.ntmps198
 go_wp2_with first | ((with_reducible apply wps_box1 (E:=53) (v:=v) S);(case hx=>rfl);(case h1=>exact h1);clear S;intro b1 wz S)
 go_ret
 exact ⟨_,rfl,S⟩
def MadeE (x : Event) (args : Array Value) (N : List Asn) : Prop:=args = #[.agg #[.int .i64 x.key.at_,.int .i64 x.key.src,.int .i64 x.key.sent,.int .i64 x.key.no,.int .i64 x.dst,.int .i64 x.kind,.int .i64 x.data]] ∧ N = []
def VsRel (b : Nat) (v : Value) (l : List Event) (G : Nat → Prop) (w0 : World) (Φ : Nat → List Asn → Prop) (i : Value) (wr : World) : Prop:=
 ∃ (k : Nat) (L : List Asn),k ≤ l.length ∧ i = .int .i64 k ∧ Φ k L ∧ St G w0 wr (Blk true b #[v] 53 :: Sl true Event.cells 7 v l :: L)
theorem vals1_iter (b : Nat) (v : Value) (l : List Event) (hn : l.length ≤ 65536) : IterC Tryz.prog 245 #[.pointer (some ⟨b,0,none⟩)] [Blk true b #[v] 53,Sl true Event.cells 7 v l] l MadeE:=by
 intro y G w0 W Φ Ψ L hY h0 S
 simp only [cons_append,nil_append] at S
 show Calls Tryz.prog 245 #[.func (.yield y) #[] #[],.pointer (some ⟨b,0,none⟩)] W _
 obtain ⟨ad,c,rfl,_⟩:=(S.sl 1 rfl).elim fun _ h=>h.form
 have HY:=Lib.hid hY
 clear hY
 go_enter Tryz.func245,Tryz.ntmps245
 go_wp2_with first | ((with_reducible apply wps_load S 0);(case hx|hi|hu=>rfl);(case hT=>decide +kernel))
 go_loopw [7] (fun i wr=>VsRel b (.slice ad l.length c) l G w0 Φ i wr) (fun i _=>l.length - (intOf i).toNat)
 case atStart=>exact ⟨0,L,Nat.zero_le _,rfl,h0,S⟩
 case round=>
  clear S h0
  obtain ⟨k,L,hk,rfl,hΦ,S⟩:=hrel
  by_cases hlt : k < l.length
  · obtain ⟨x,hx⟩ : ∃ x,l[k]? = some x:=⟨_,List.getElem?_eq_getElem hlt⟩
    obtain ⟨R,o,rfl⟩ : ∃ R o,ad = some ⟨R,o,none⟩:=(S.sl 1 rfl).elim fun F h=>h.head (by omega)
    have hlt2 : (k : Int) < l.length:=by omega
    have Hx:=Lib.hid hx
    have HΦ:=Lib.hid hΦ
    clear hx hΦ
    go_upto_region 3 with first | ((with_reducible apply wps_loada_el S 1 (hj:=Hx.out) (q:=0) (vs:=[.int .i64 x.key.at_,.int .i64 x.key.src,.int .i64 x.key.sent,.int .i64 x.key.no,.int .i64 x.dst,.int .i64 x.kind,.int .i64 x.data]) (m:=7));(case hx|hi=>rfl);(case hn=>omega);(case hm|hv=>rfl);(case hT=>decide +kernel)) | ((with_reducible apply wps_alloca (E:=58) S);(case hz=>exact Tryz.zeroValue58);clear S;intro b4 wz S) | ((with_reducible apply wps_storea (T:=58) S 0 (vs:=[.int .i64 x.key.at_,.int .i64 x.key.src,.int .i64 x.key.sent,.int .i64 x.key.no,.int .i64 x.dst,.int .i64 x.kind,.int .i64 x.data]) (m:=7));(case hx|hy|hi|hm|h1=>rfl);(case hn=>exact nle rfl);(case hT=>decide +kernel);clear S;intro wz S;simp only [set_cons_zero,set_cons_succ,setAll,setIfInBounds_toArray] at S)
    refine wp_region_yl 2 rfl rfl rfl fun K hK=>?_
    simp only [List.take_succ_cons,List.take_zero]
    simp only [List.drop_succ_cons,List.drop_zero] at hK
    go_wp2_with first | ((with_reducible apply wps_loada (T:=58) (k:=7) S 0);(case hx|hi=>rfl);(case hk=>exact nle rfl);(case hT=>decide +kernel))
    refine hK _ _ ?_
    clear hK K
    (try simp only [Act.put]);(try simp only [setIfInBounds_toArray]);(try simp only [set_cons_succ]);(try simp only [set_cons_zero])
    refine yield_in (l:=y) rfl rfl rfl rfl rfl (HY.out k x _ [] L _ Hx.out ⟨rfl,rfl⟩ HΦ.out (St.tail S)) ?_
    rintro e w' ⟨L',S,(⟨rfl,hΦ'⟩ | ⟨rfl,hΨ⟩)⟩
    · refine ⟨_,rfl,?_⟩
      refine list_only rfl fun K hK=>?_
      go_wp2_with first | ((with_reducible apply wps_loada (T:=58) (k:=7) S 0);(case hx|hi=>rfl);(case hk=>exact nle rfl);(case hT=>decide +kernel))
      refine hK _ _ ?_
      clear hK K
      have HΦ':=Lib.hid hΦ'
      clear hΦ'
      go_wp2_with first | ((with_reducible apply wps_loada (T:=58) (k:=7) S 0);(case hx|hi=>rfl);(case hk=>exact nle rfl);(case hT=>decide +kernel))
      go_roundw
      case rel=>exact ⟨k + 1,L',by omega,by go_num,HΦ'.out,S⟩
      case measure=>first | (simp [intOf];done) | (simp [intOf];omega)
    · refine ⟨_,rfl,?_⟩
      refine list_only rfl fun K hK=>?_
      go_wp2_with first | ((with_reducible apply wps_loada (T:=58) (k:=7) S 0);(case hx|hi=>rfl);(case hk=>exact nle rfl);(case hT=>decide +kernel))
      refine hK _ _ ?_
      clear hK K
      have HΨ:=Lib.hid hΨ
      clear hΨ
      go_wp2_with first | ((with_reducible apply wps_loada (T:=58) (k:=7) S 0);(case hx|hi=>rfl);(case hk=>exact nle rfl);(case hT=>decide +kernel))
      (try simp only [Exit.inBlock,Exit.then]);refine bodyPost_ret (results_none rfl _ _ _) rfl ?_
      exact ⟨⟨_,rfl⟩,L',S,.inr ⟨k + 1,by omega,HΨ.out⟩⟩
  · obtain rfl : k = l.length:=by omega
    have HΦ:=Lib.hid hΦ
    clear hΦ
    go_wp2_with first | ((with_reducible apply wps_loada (T:=58) (k:=7) S 0);(case hx|hi=>rfl);(case hk=>exact nle rfl);(case hT=>decide +kernel))
    go_end0
    exact ⟨⟨_,rfl⟩,L,S,.inl HΦ.out⟩
end Go.Proofs.YtmjljoaakdocaaaGreatDoor
/- The walks of a process's Next and Events. -/
namespace Go.Proofs.YtmjljoaakdocaaaGreatDoor
open Go Go.RowKit Reg Mem
open List (set_cons_succ set_cons_zero setIfInBounds_toArray cons_append nil_append)
def nextAt (after : Int) (l : List Event) : Option Int:=(l.find? fun x=>decide (x.key.at_ > after)).map fun x=>x.key.at_
theorem nextAt_some {after : Int} : ∀ {l : List Event} {j : Nat} {x : Event},(∀ (q : Nat) y,q < j → l[q]? = some y → ¬ y.key.at_ > after) → l[j]? = some x → x.key.at_ > after → nextAt after l = some x.key.at_
 | [],j,x,_,hx,_=>by simp at hx
 | a :: l,0,x,_,hx,hg=>by simp at hx;subst hx;simp [nextAt,hg]
 | a :: l,j + 1,x,h,hx,hg=>by
   have ha:=h 0 a (by omega) rfl
   have:=nextAt_some (l:=l) (j:=j) (fun q y hq hy=>h (q + 1) y (by omega) (by simpa using hy)) (by simpa using hx) hg
   unfold nextAt at *
   rw [List.find?_cons_of_neg (by simpa using ha)]
   exact this
theorem nextAt_none {after : Int} {l : List Event} (h : ∀ (q : Nat) y,q < l.length → l[q]? = some y → ¬ y.key.at_ > after) : nextAt after l = none:=by
 unfold nextAt
 rw [List.find?_eq_none.2]
 · rfl
 · intro x hx
   obtain ⟨q,hq,e⟩:=List.mem_iff_getElem.1 hx
   have:=h q x hq (by rw [List.getElem?_eq_getElem hq,e])
   simpa using this
theorem wpIn_seq_nK {F : Fence} {n : Nat} {P : Program} {Q : Exit → Act → World → Prop} {x y : Code} {a : Act} {w : World} (h : ∀ K : Act → World → Prop,(∀ a w,y.wpIn F n P Q a w → K a w) → x.wpIn F n P (Exit.then K Q) a w) : (Code.seq x y).wpIn F n P Q a w:=wpIn_seq_k h
def lpBT (X Q T Y R : Nat) (p : LpE) : Asn:=Blk true X #[.pointer (some ⟨Q,0,none⟩),.iface 115 (.agg #[.pointer (some ⟨R,0,none⟩)]),.int .i64 p.id,.int .i64 p.every,.bool p.lazy,.pointer (some ⟨T,0,none⟩),.pointer (some ⟨Y,0,none⟩),.int .i64 p.now,.int .i64 p.st.n0,.int .i64 p.st.n1,.int .i64 p.st.n2,.int .i64 p.st.n3,.int .i64 p.since,.int .i64 p.freed,.int .i64 p.steps,.int .i64 p.coasted] 190
theorem lpR_st {X R : Nat} {p : LpE} {w : World} {F : Nat → Prop} (h : (lpA X R p).at_ w F) :
 ∃ Q T Y v1 v2 v3 v4,St (fun _=>False) w w [lpBT X Q T Y R p,Blk true Q #[v1,v2] 243,Sl true Event.cells 7 v1 p.evs,Sl true Event.cells 7 v2 p.ans,Blk true T #[v3] 246,Sl true rccell 8 v3 p.recs,Blk true Y #[v4] 253,Sl true svcell 5 v4 p.svs]:=by
 obtain ⟨⟨Q,T,Y⟩,F1,F2,h1,⟨F3,F4,⟨⟨v1,v2⟩,_,_,g1,⟨_,_,g2,g3,_,_⟩,_,_⟩,⟨F5,F6,⟨v3,_,_,k1,k2,_,_⟩,⟨v4,_,_,r1,r2,_,_⟩,_,_⟩,_,_⟩,_,_⟩:=h
 refine ⟨Q,T,Y,v1,v2,v3,v4,?_⟩
 have S1 : St (fun _=>False) w w [Sl true svcell 5 v4 p.svs]:=(St.init _ w).share rfl rfl (own_sl (sh:=true) svcells r2)
 have S2:=S1.share (A:=Blk true Y #[v4] 253) rfl rfl r1
 have S3:=S2.share (A:=Sl true rccell 8 v3 p.recs) rfl rfl (own_sl (sh:=true) rccells k2)
 have S4:=S3.share (A:=Blk true T #[v3] 246) rfl rfl k1
 have S5:=S4.share (A:=Sl true Event.cells 7 v2 p.ans) rfl rfl (own_sl (sh:=true) ecells g3)
 have S6:=S5.share (A:=Sl true Event.cells 7 v1 p.evs) rfl rfl (own_sl (sh:=true) ecells g2)
 have S7:=S6.share (A:=Blk true Q #[v1,v2] 243) rfl rfl g1
 exact S7.share (A:=lpBT X Q T Y R p) rfl rfl h1
theorem qeach_calls (X : Nat) (v1 v2 : Value) (l : List Event) (w : World) (F F2 : Nat → Prop) (h1 : (Blk true X #[v1,v2] 243).at_ w F) (h2 : (Sl true Event.cells 7 v1 l).at_ w F2) :
 Calls Tryz.prog 187 #[.pointer (some ⟨X,0,none⟩)] w fun e w'=>∃ b,e = .returned (.func (.func 245) #[] #[.pointer (some ⟨b,0,none⟩)]) ∧ St (fun _=>False) w w' [Blk false b #[v1] 53]:=by
 have S : St (fun _=>False) w w [Blk true X #[v1,v2] 243]:=(St.init _ w).share rfl rfl h1
 have ho : v1.oneCell' = true:=by obtain ⟨a,c,rfl,_⟩:=h2.1;rfl
 clear h1 h2
 go_enter Tryz.func187,Tryz.ntmps187
 go_wp2_with first | ((with_reducible apply wps_load S 0);(case hx|hi|hu=>rfl);(case hT=>decide +kernel)) | (go_at_call 198;(with_reducible refine Calls.mono (vals_calls v1 ho _) ?_);rintro rr wz ⟨b,rfl,T⟩;replace S:=S.join T rfl;clear T;simp only [cons_append,nil_append] at S)
 go_ret
 exact ⟨_,rfl,S.pick [0] rfl⟩
def QnPhi (b3 b4 b5 X : Nat) (v1 v2 : Value) (after : Int) (l : List Event) (j : Nat) (L : List Asn) : Prop:=
 Hid (∀ (q : Nat) y,q < j → l[q]? = some y → ¬ y.key.at_ > after) ∧ L = [Blk false b5 #[.bool false] 4,Blk false b4 #[.int .i64 0] 3,Blk false b3 #[.int .i64 after] 3,Blk true X #[v1,v2] 243]
def QnPsi (b4 b5 : Nat) (after : Int) (l : List Event) (c : Code) (j : Nat) (L : List Asn) : Prop:=
 ∃ t : Int,Hid (nextAt after l = some t) ∧ c = .ret ∧ ∃ L',L = Blk false b5 #[.bool true] 4 :: Blk false b4 #[.int .i64 t] 3 :: L'
def optV (o : Option Int) : Value:=.tuple #[.int .i64 (o.getD 0),.bool o.isSome]
theorem qnext_calls (X : Nat) (v1 v2 : Value) (l : List Event) (hn : l.length ≤ 65536) (after : Int) (w : World) (F F2 : Nat → Prop) (h1 : (Blk true X #[v1,v2] 243).at_ w F) (h2 : (Sl true Event.cells 7 v1 l).at_ w F2) :
 Calls Tryz.prog 147 #[.pointer (some ⟨X,0,none⟩),.int .i64 after] w fun e w'=>e = .returned (optV (nextAt after l)) ∧ Below w.heap.size w w':=by
 have S : St (fun _=>False) w w [Blk true X #[v1,v2] 243,Sl true Event.cells 7 v1 l]:=((St.init _ w).share (A:=Sl true Event.cells 7 v1 l) rfl rfl h2).share (A:=Blk true X #[v1,v2] 243) rfl rfl h1
 clear h1 h2
 refine calls_marks Tryz.func147 rfl ?_
 simp only [Tryz.ntmps147,List.size_toArray,List.length_cons,List.length_nil,Nat.reduceAdd,Nat.reduceSub,Array.replicate_succ,Array.replicate_zero,List.push_toArray,List.append_toArray,nil_append,cons_append]
 go_wp2_with first | ((with_reducible apply wps_box1 (E:=3) (v:=.int .i64 after) S);(case hx|h1=>rfl);clear S;intro b3 wz S) | ((with_reducible apply wps_alloc1 (E:=3) S);(case hz=>exact Tryz.zeroValue3);(case h1=>rfl);clear S;intro b4 wz S) | ((with_reducible apply wps_alloc1 (E:=4) S);(case hz=>exact Tryz.zeroValue4);(case h1=>rfl);clear S;intro b5 wz S) | (go_at_call 187;(with_reducible refine Calls.mono (qeach_calls X v1 v2 l _ _ _ (S.get (i:=3) rfl).choose_spec (S.get (i:=4) rfl).choose_spec) ?_);rintro rr wz ⟨bt,rfl,T⟩;replace S:=S.join T rfl;clear T;simp only [cons_append,nil_append] at S)
 replace S:=S.weak (i:=0) (A':=Blk true bt #[v1] 53) rfl (fun e=>by cases e) (fun F h=>⟨F,fun _ hb=>hb,h⟩)
 simp only [set_cons_zero] at S
 replace S:=S.pick [0,5,1,2,3,4] rfl
 simp only [pick,nth] at S
 refine wps_range (vals1_iter bt v1 l hn) S rfl (calls_enter Tryz.func245 (by kernel_rfl) rfl) (QnPhi b3 b4 b5 X v1 v2 after l) (QnPsi b4 b5 after l) ⟨Lib.hid (fun q y h=>by omega),rfl⟩ (fun x args N h=>by obtain ⟨rfl,_⟩:=h;rfl) ?round ?done ?stop
 case stop=>
  rintro D c j W L hj ⟨t,HT,rfl,L',rfl⟩ S
  simp only [cons_append,nil_append] at S
  go_wp2_with fail
  refine leaves_ret1 S rfl fun w' S=>⟨_,results2 rfl (S.res1 3 rfl rfl (by decide +kernel)) (S.res1 2 rfl rfl (by decide +kernel)),?_,S.below⟩
  rw [HT.out];rfl
 case round=>
  rintro lp D r j x args N L W hx ⟨rfl,rfl⟩ ⟨HJ,rfl⟩ S
  simp only [zip_one9K,setIfInBounds_toArray,set_cons_succ,set_cons_zero,cons_append,nil_append] at S ⊢
  by_cases hgt : x.key.at_ > after
  · have HT : Hid (nextAt after l = some x.key.at_):=Lib.hid (nextAt_some HJ.out hx hgt)
    have f1 : decide (x.key.at_ > after) = true:=decide_eq_true hgt
    clear hgt hx
    gi_wp2_with first
     | (refine wpi_at (.inr ⟨_,rfl⟩) rfl fun K hK=>?_
        go_wp2_with first | ((with_reducible apply wps_alloca (E:=58) S);(case hz=>exact Tryz.zeroValue58);clear S;intro b6 wz S) | ((with_reducible apply wps_storea (T:=58) S 0 (vs:=[.int .i64 x.key.at_,.int .i64 x.key.src,.int .i64 x.key.sent,.int .i64 x.key.no,.int .i64 x.dst,.int .i64 x.kind,.int .i64 x.data]) (m:=7));(case hx|hy|hi|hm|h1=>rfl);(case hn=>exact nle rfl);(case hT=>decide +kernel);clear S;intro wz S;simp only [set_cons_zero,set_cons_succ,setAll,setIfInBounds_toArray] at S)
        refine hK _ _ ?_
        (try simp only [Act.put]);(try simp only [setIfInBounds_toArray]);(try simp only [set_cons_succ]);(try simp only [set_cons_zero])
        clear hK K)
    refine ⟨_,S.lastSplit rfl,fun r' W2 S=>?_⟩
    simp only [List.dropLast,cons_append,nil_append] at S
    refine wpIn_block (wpIn_seq_nK fun K hK=>wpi_list_k (.inr ⟨_,rfl⟩) rfl fun K2 hK2=>?_)
    go_wp2_with first | ((with_reducible apply wps_load S 0);(case hx|hi|hu=>rfl);(case hT=>decide +kernel)) | ((with_reducible apply wps_load S 5);(case hx|hi|hu=>rfl);(case hT=>decide +kernel))
    refine hK2 _ _ (hK _ _ ?_)
    clear hK hK2 K K2
    refine wpIn_cond_true (by first | rfl | (simp [Act.eval,f1];done)) (wpIn_seq_nK fun K hK=>wpi_list_k (.inr ⟨_,rfl⟩) rfl fun K2 hK2=>?_)
    go_wp2_with first | ((with_reducible apply wps_load S 0);(case hx|hi|hu=>rfl);(case hT=>decide +kernel)) | ((with_reducible apply wps_store (u:=(.int .i64 x.key.at_)) S 4);(case hx|hy|hi|h1=>rfl);(case hn=>exact nle rfl);(case hT=>decide +kernel);clear S;intro wz S;simp only [set_cons_succ,set_cons_zero,setIfInBounds_toArray] at S) | ((with_reducible apply wps_store (u:=(.bool true)) S 3);(case hx|hy|hi|h1=>rfl);(case hn=>exact nle rfl);(case hT=>decide +kernel);clear S;intro wz S;simp only [set_cons_succ,set_cons_zero,setIfInBounds_toArray] at S)
    refine hK2 _ _ (hK _ _ (wpIn_ret ?_))
    clear hK hK2 K K2
    exact ⟨_,⟨x.key.at_,HT,rfl,[Blk false b3 #[.int .i64 after] 3,Blk true X #[v1,v2] 243],rfl⟩,S.pick [1,2,3,4,5,6,7] rfl⟩
  · have HJ2 : Hid (∀ (q : Nat) y,q < j + 1 → l[q]? = some y → ¬ y.key.at_ > after):=Lib.hid fun q y hq hy=>by
     rcases Nat.lt_or_eq_of_le (Nat.le_of_lt_succ hq) with h | rfl
     · exact HJ.out q y h hy
     · rw [hx] at hy;cases hy;exact hgt
    have f1 : decide (x.key.at_ > after) = false:=decide_eq_false hgt
    clear hgt hx
    gi_wp2_with first
     | (refine wpi_at (.inr ⟨_,rfl⟩) rfl fun K hK=>?_
        go_wp2_with first | ((with_reducible apply wps_alloca (E:=58) S);(case hz=>exact Tryz.zeroValue58);clear S;intro b6 wz S) | ((with_reducible apply wps_storea (T:=58) S 0 (vs:=[.int .i64 x.key.at_,.int .i64 x.key.src,.int .i64 x.key.sent,.int .i64 x.key.no,.int .i64 x.dst,.int .i64 x.kind,.int .i64 x.data]) (m:=7));(case hx|hy|hi|hm|h1=>rfl);(case hn=>exact nle rfl);(case hT=>decide +kernel);clear S;intro wz S;simp only [set_cons_zero,set_cons_succ,setAll,setIfInBounds_toArray] at S)
        refine hK _ _ ?_
        (try simp only [Act.put]);(try simp only [setIfInBounds_toArray]);(try simp only [set_cons_succ]);(try simp only [set_cons_zero])
        clear hK K)
    refine ⟨_,S.lastSplit rfl,fun r' W2 S=>?_⟩
    simp only [List.dropLast,cons_append,nil_append] at S
    refine wpIn_block (wpIn_seq_nK fun K hK=>wpi_list_k (.inr ⟨_,rfl⟩) rfl fun K2 hK2=>?_)
    go_wp2_with first | ((with_reducible apply wps_load S 0);(case hx|hi|hu=>rfl);(case hT=>decide +kernel)) | ((with_reducible apply wps_load S 5);(case hx|hi|hu=>rfl);(case hT=>decide +kernel))
    refine hK2 _ _ (hK _ _ ?_)
    clear hK hK2 K K2
    refine wpIn_cond_false (by first | rfl | (simp [Act.eval,f1];done)) (wpIn_skip ?_)
    exact ⟨_,⟨Lib.hid (fun q y h1 h2=>by have:=HJ2.out q y h1 h2;omega),rfl⟩,S.pick [1,2,3,4,5,6,7] rfl⟩
 case done=>
  rintro D W L ⟨HJ,rfl⟩ S
  simp only [cons_append,nil_append] at S
  have HT : Hid (nextAt after l = none):=Lib.hid (nextAt_none HJ.out)
  go_wp2_with first | ((with_reducible apply wps_store (u:=(.int .i64 0)) S 4);(case hx|hy|hi|h1=>rfl);(case hn=>exact nle rfl);(case hT=>decide +kernel);clear S;intro wz S;simp only [set_cons_succ,set_cons_zero,setIfInBounds_toArray] at S) | ((with_reducible apply wps_store (u:=(.bool false)) S 3);(case hx|hy|hi|h1=>rfl);(case hn=>exact nle rfl);(case hT=>decide +kernel);clear S;intro wz S;simp only [set_cons_succ,set_cons_zero,setIfInBounds_toArray] at S)
  refine leaves_ret1 S rfl fun w' S=>⟨_,results2 rfl (S.res1 3 rfl rfl (by decide +kernel)) (S.res1 2 rfl rfl (by decide +kernel)),?_,S.below⟩
  rw [HT.out];rfl
end Go.Proofs.YtmjljoaakdocaaaGreatDoor
/- The walks of a process's Next and Events. -/
namespace Go.Proofs.YtmjljoaakdocaaaGreatDoor
open Go Go.RowKit Reg Mem
open List (set_cons_succ set_cons_zero setIfInBounds_toArray cons_append nil_append)
def lpNext (p : LpE) : Option Int:=nextAt p.now p.evs
theorem lpnext_calls (X R : Nat) (p : LpE) (hn : p.evs.length ≤ 65536) (w : World) (F : Nat → Prop) (h : (lpA X R p).at_ w F) :
 Calls Tryz.prog 100 #[.pointer (some ⟨X,0,none⟩)] w fun e w'=>e = .returned (optV (lpNext p)) ∧ Below w.heap.size w w':=by
 obtain ⟨Q,T,Y,v1,v2,v3,v4,S⟩:=lpR_st h
 clear h
 unfold lpNext
 obtain ⟨o,ho⟩ : ∃ o,nextAt p.now p.evs = o:=⟨_,rfl⟩
 have HQ : Hid (∀ (w : World) (F F2 : Nat → Prop) (h1 : (Blk true Q #[v1,v2] 243).at_ w F) (h2 : (Sl true Event.cells 7 v1 p.evs).at_ w F2),Calls Tryz.prog 147 #[.pointer (some ⟨Q,0,none⟩),.int .i64 p.now] w fun e w'=>e = .returned (optV o) ∧ Below w.heap.size w w'):=
  Lib.hid fun w F F2 h1 h2=>by rw [← ho];exact qnext_calls Q v1 v2 p.evs hn p.now w F F2 h1 h2
 rw [ho]
 clear ho hn
 unfold lpBT at S
 unfold optV
 unfold optV at HQ
 go_enter Tryz.func100,Tryz.ntmps100
 go_wp2_with first | ((with_reducible apply wps_load S 0);(case hx|hi|hu=>rfl);(case hT=>decide +kernel)) | (go_at_call 147;refine Calls.mono (HQ.out _ _ _ (S.get (i:=1) rfl).choose_spec (S.get (i:=2) rfl).choose_spec) ?_;rintro e wz ⟨rfl,hE⟩;replace S:=S.ext (Keep.of_below hE);clear hE) | ((with_reducible refine tot_done ?ht ?_);(case ht=>kernel_rfl)) | ((with_reducible apply wps_text S);(case hm=>kernel_rfl);(case hB=>decide +kernel);clear S;intro wz S)
 (try simp only [Exit.inBlock,Exit.then]);refine bodyPost_ret (results2 rfl (res_tmp rfl) (res_tmp rfl)) rfl ?_
 exact ⟨rfl,S.below⟩
def ValsPost (l : List Event) (w : World) (e : Ending) (w' : World) : Prop:=
 ∃ b v,e = .returned (.func (.func 245) #[] #[.pointer (some ⟨b,0,none⟩)]) ∧ St (fun _=>False) w w' [Blk false b #[v] 53,Mem.Own 58 Event.cells 7 v l]
theorem qclone_calls (X : Nat) (v1 v2 : Value) (l : List Event) (hn : l.length ≤ 65536) (w : World) (F F2 : Nat → Prop) (h1 : (Blk true X #[v1,v2] 243).at_ w F) (h2 : (Sl true Event.cells 7 v1 l).at_ w F2) :
 Calls Tryz.prog 199 #[.pointer (some ⟨X,0,none⟩)] w fun e w'=>∃ v,e = .returned v ∧ v.oneCell' = true ∧ St (fun _=>False) w w' [Mem.Own 58 Event.cells 7 v l]:=by
 have S : St (fun _=>False) w w [Blk true X #[v1,v2] 243,Sl true Event.cells 7 v1 l]:=((St.init _ w).share (A:=Sl true Event.cells 7 v1 l) rfl rfl h2).share (A:=Blk true X #[v1,v2] 243) rfl rfl h1
 obtain ⟨ad,c,rfl,_⟩:=(S.sl 1 rfl).elim fun _ h=>h.form
 clear h1 h2
 go_enter Tryz.func199,Tryz.ntmps199
 go_wp2_with first | ((with_reducible apply wps_load S 0);(case hx|hi|hu=>rfl);(case hT=>decide +kernel)) | (go_at_call 70;(with_reducible refine Calls.mono (clone_Ev _ _ (S.get (i:=1) rfl).choose_spec (by omega)) ?_);rintro rr wz ⟨ad2,c2,rfl,-,T⟩;replace S:=S.join T rfl;clear T;simp only [cons_append,nil_append] at S)
 go_ret
 exact ⟨_,rfl,rfl,S.pick [0] rfl⟩
theorem qall_calls (X : Nat) (v1 v2 : Value) (l : List Event) (hn : l.length ≤ 65536) (w : World) (F F2 : Nat → Prop) (h1 : (Blk true X #[v1,v2] 243).at_ w F) (h2 : (Sl true Event.cells 7 v1 l).at_ w F2) :
 Calls Tryz.prog 164 #[.pointer (some ⟨X,0,none⟩)] w (ValsPost l w):=by
 have S : St (fun _=>False) w w [Blk true X #[v1,v2] 243,Sl true Event.cells 7 v1 l]:=((St.init _ w).share (A:=Sl true Event.cells 7 v1 l) rfl rfl h2).share (A:=Blk true X #[v1,v2] 243) rfl rfl h1
 clear h1 h2
 go_enter Tryz.func164,Tryz.ntmps164
 go_wp2_with first | (go_at_call 199;(with_reducible refine Calls.mono (qclone_calls X v1 v2 l hn _ _ _ (S.get (i:=0) rfl).choose_spec (S.get (i:=1) rfl).choose_spec) ?_);rintro rr wz ⟨v,rfl,hv,T⟩;have HV:=Lib.hid hv;clear hv;replace S:=S.join T rfl;clear T;simp only [cons_append,nil_append] at S) | (go_at_call 198;(with_reducible refine Calls.mono (vals_calls v HV.out _) ?_);rintro rr wz ⟨b,rfl,T⟩;replace S:=S.join T rfl;clear T;simp only [cons_append,nil_append] at S)
 go_ret
 exact ⟨b,v,rfl,S.pick [0,1] rfl⟩
theorem lpevents_calls (X R : Nat) (p : LpE) (hn : p.evs.length ≤ 65536) (w : World) (F : Nat → Prop) (h : (lpA X R p).at_ w F) :
 Calls Tryz.prog 125 #[.pointer (some ⟨X,0,none⟩)] w (ValsPost p.evs w):=by
 obtain ⟨Q,T,Y,v1,v2,v3,v4,S⟩:=lpR_st h
 clear h
 unfold lpBT at S
 go_enter Tryz.func125,Tryz.ntmps125
 go_wp2_with first | ((with_reducible apply wps_load S 0);(case hx|hi|hu=>rfl);(case hT=>decide +kernel)) | (go_at_call 164;(with_reducible refine Calls.mono (qall_calls Q v1 v2 p.evs hn _ _ _ (S.get (i:=1) rfl).choose_spec (S.get (i:=2) rfl).choose_spec) ?_);rintro rr wz ⟨b,v,rfl,T⟩;replace S:=S.join T rfl;clear T;simp only [cons_append,nil_append] at S)
 go_ret
 exact ⟨b,v,rfl,S.pick [0,1] rfl⟩
end Go.Proofs.YtmjljoaakdocaaaGreatDoor
/- The walk of a worker's Next. -/
namespace Go.Proofs.YtmjljoaakdocaaaGreatDoor
open Go Go.RowKit Reg Mem
open List (set_cons_succ set_cons_zero setIfInBounds_toArray cons_append nil_append)
structure WkOk (k : WkE) : Prop where
 up : (k.ps.map (·.1)).Pairwise (· < ·)
 many : k.ps.length ≤ 32
 few : ∀ q ∈ k.ps,q.2.evs.length ≤ 65536
theorem sortZ_self {l : List Int} (h : l.Pairwise (· < ·)) : sortZ l = l:=by
 refine (sortZ_perm l).eq_of_pairwise (fun a b _ _ h k=>?_) (sortZ_up l) (h.imp fun h=>by omega)
 omega
theorem up_nodup {l : List Int} (h : l.Pairwise (· < ·)) : l.Nodup:=h.imp fun h=>by omega
def turnStep (most : Int) (acc : Option (Int × Int)) (q : Int × LpE) : Option (Int × Int):=
 match lpNext q.2,acc with
 | none,_=>acc
 | some t,none=>if t ≤ most then some (t,q.1) else none
 | some t,some (u,m)=>if t ≤ most ∧ t < u then some (t,q.1) else some (u,m)
def turnE (l : List (Int × LpE)) (most : Int) : Option (Int × Int):=l.foldl (turnStep most) none
def evsAt (l : List (Int × LpE)) (m : Int) : List Event:=((l.find? fun q=>q.1 == m).map fun q=>q.2.evs).getD []
def manyAt (t : Int) (l : List Event) : Nat:=l.countP fun x=>x.key.at_ == t
def turnV (l : List (Int × LpE)) (most : Int) : Value:=
 match turnE l most with
 | none=>.tuple #[.agg #[.int .i64 0,.int .i64 0,.int .i64 0],.bool false]
 | some (t,m)=>.tuple #[.agg #[.int .i64 t,.int .i64 m,.int .i64 (manyAt t (evsAt l m))],.bool true]
theorem workerR_all {W R : Nat} {k : WkE} {w : World} {F : Nat → Prop} (h : (workerA W R k).at_ w F) :
 ∃ (g M : Nat) (qs : List LpAt),qs.map LpAt.e = k.ps ∧ St (fun _=>False) w w [rd (workerA W R k),Blk true W #[.pointer (some ⟨g,0,none⟩),.map (some M)] 135,MapK true Tryz.prog 3 intE M (qs.map LpAt.kv),rd (stars (qs.map fun q=>lpA q.x R q.p))]:=by
 have h0:=h
 obtain ⟨⟨g,M,qs⟩,F1,F2,⟨h1,_⟩,⟨F3,F4,h3,⟨F5,F6,h5,⟨F7,F8,h7,h8,_⟩,_,_⟩,_,_⟩,_,_⟩:=h
 refine ⟨g,M,qs,h1,?_⟩
 have S1 : St (fun _=>False) w w [rd (stars (qs.map fun q=>lpA q.x R q.p))]:=(St.init _ w).share (F:=F8) rfl rfl h8
 have S2:=S1.share (A:=MapK true Tryz.prog 3 intE M (qs.map LpAt.kv)) (F:=F7) rfl rfl h7
 have S3:=S2.share (A:=Blk true W #[.pointer (some ⟨g,0,none⟩),.map (some M)] 135) rfl rfl h3
 exact S3.share (A:=rd (workerA W R k)) rfl rfl h0
theorem rd_get {A : Asn} {w : World} (h : ∃ F,(rd A).at_ w F) : ∃ F,A.at_ w F:=h
def tA (a : Option (Int × Int)) : Int:=(a.map (·.1)).getD 0
def tL (a : Option (Int × Int)) : Int:=(a.map (·.2)).getD 0
def wrd (W R g M : Nat) (k : WkE) (qs : List LpAt) : List Asn:=[rd (workerA W R k),Blk true W #[.pointer (some ⟨g,0,none⟩),.map (some M)] 135,MapK true Tryz.prog 3 intE M (qs.map LpAt.kv),rd (stars (qs.map fun q=>lpA q.x R q.p))]
def TurnRel (b4 b6 W R g M : Nat) (k : WkE) (qs : List LpAt) (v : Value) (most : Int) (w : World) (is i : Value) (wr : World) : Prop:=
 ∃ (j : Nat) (acc : Option (Int × Int)),j ≤ k.ps.length ∧ i = .int .i64 j ∧ is = .bool acc.isSome ∧ Hid (turnE (k.ps.take j) most = acc) ∧
  St (fun _=>False) w wr (Sl true intE 1 v (k.ps.map (·.1)) :: Blk false b6 #[.int .i64 (tA acc),.int .i64 (tL acc),.int .i64 0] 194 :: Blk false b4 #[.int .i64 0,.int .i64 0,.int .i64 0] 194 :: wrd W R g M k qs)
def WnPhi (b4 b6 W R g M : Nat) (k : WkE) (qs : List LpAt) (v : Value) (t m : Int) (l : List Event) (j : Nat) (L : List Asn) : Prop:=
 ∃ (c : Nat),Hid (c = manyAt t (l.take j)) ∧ L = Sl true intE 1 v (k.ps.map (·.1)) :: Blk false b6 #[.int .i64 t,.int .i64 m,.int .i64 c] 194 :: Blk false b4 #[.int .i64 0,.int .i64 0,.int .i64 0] 194 :: wrd W R g M k qs
end Go.Proofs.YtmjljoaakdocaaaGreatDoor
/- The walks of what a process tells of itself: the least time, and how many there are of all. -/
namespace Go.Proofs.YtmjljoaakdocaaaGreatDoor
open Go Go.RowKit Reg Mem
open List (set_cons_succ set_cons_zero setIfInBounds_toArray cons_append nil_append)
def leastU (l : List (Event × Bool)) : Option Int:=(l.find? fun x=>!x.2).map fun x=>x.1.key.sent
theorem leastU_some : ∀ {l : List (Event × Bool)} {j : Nat} {x : Event × Bool},(∀ (q : Nat) y,q < j → l[q]? = some y → y.2 = true) → l[j]? = some x → x.2 = false → leastU l = some x.1.key.sent
 | [],j,x,_,hx,_=>by simp at hx
 | a :: l,0,x,_,hx,hg=>by simp at hx;subst hx;simp [leastU,hg]
 | a :: l,j + 1,x,h,hx,hg=>by
   have ha:=h 0 a (by omega) rfl
   have:=leastU_some (l:=l) (j:=j) (fun q y hq hy=>h (q + 1) y (by omega) (by simpa using hy)) (by simpa using hx) hg
   unfold leastU at *
   rw [List.find?_cons_of_neg (by simp [ha])]
   exact this
theorem leastU_none {l : List (Event × Bool)} (h : ∀ (q : Nat) y,q < l.length → l[q]? = some y → y.2 = true) : leastU l = none:=by
 unfold leastU
 rw [List.find?_eq_none.2]
 · rfl
 · intro x hx
   obtain ⟨q,hq,e⟩:=List.mem_iff_getElem.1 hx
   have:=h q x hq (by rw [List.getElem?_eq_getElem hq,e])
   simpa using this
def OlRel (X : Nat) (v : Value) (l : List (Event × Bool)) (w : World) (i : Value) (wr : World) : Prop:=
 ∃ j : Nat,j ≤ l.length ∧ i = .int .i64 j ∧ Hid (∀ (q : Nat) y,q < j → l[q]? = some y → y.2 = true) ∧ St (fun _=>False) w wr [Blk true X #[v] 246,Sl true rccell 8 v l]
theorem oleast_calls (X : Nat) (v : Value) (l : List (Event × Bool)) (hn : l.length ≤ 65536) (w : World) (F F2 : Nat → Prop) (h1 : (Blk true X #[v] 246).at_ w F) (h2 : (Sl true rccell 8 v l).at_ w F2) :
 Calls Tryz.prog 101 #[.pointer (some ⟨X,0,none⟩)] w fun e w'=>e = .returned (optV (leastU l)) ∧ Below w.heap.size w w':=by
 have S : St (fun _=>False) w w [Blk true X #[v] 246,Sl true rccell 8 v l]:=((St.init _ w).share (A:=Sl true rccell 8 v l) rfl rfl h2).share (A:=Blk true X #[v] 246) rfl rfl h1
 clear h1 h2
 obtain ⟨ad,c,rfl,_⟩:=(S.sl 1 rfl).elim fun _ h=>h.form
 obtain ⟨V,hV⟩ : ∃ V,optV (leastU l) = V:=⟨_,rfl⟩
 rw [hV]
 have HV:=Lib.hid hV
 clear hV
 go_enter Tryz.func101,Tryz.ntmps101
 go_wp2_with first | ((with_reducible apply wps_load S 0);(case hx|hi|hu=>rfl);(case hT=>decide +kernel))
 go_loopw [13] (fun i wr=>OlRel X (.slice ad l.length c) l w i wr) (fun i _=>l.length - (intOf i).toNat)
 case atStart=>exact ⟨0,Nat.zero_le _,rfl,Lib.hid fun q y h=>by omega,S⟩
 case round=>
  clear S
  obtain ⟨j,hj,rfl,HJ,S⟩:=hrel
  by_cases hlt : j < l.length
  · obtain ⟨x,hx⟩ : ∃ x,l[j]? = some x:=⟨_,List.getElem?_eq_getElem hlt⟩
    obtain ⟨R,o,rfl⟩ : ∃ R o,ad = some ⟨R,o,none⟩:=(S.sl 1 rfl).elim fun F h=>h.head (by omega)
    have hlt2 : (j : Int) < l.length:=by omega
    have HX:=Lib.hid hx
    by_cases hs : x.2 = true
    · have HJ2 : Hid (∀ (q : Nat) y,q < j + 1 → l[q]? = some y → y.2 = true):=Lib.hid fun q y hq hy=>by
       rcases Nat.lt_or_eq_of_le (Nat.le_of_lt_succ hq) with h | rfl
       · exact HJ.out q y h hy
       · rw [hx] at hy;cases hy;exact hs
      clear hx
      go_wp2_with first | ((with_reducible apply wps_loada_el S 1 (hj:=HX.out) (q:=0) (vs:=[.int .i64 x.1.key.at_,.int .i64 x.1.key.src,.int .i64 x.1.key.sent,.int .i64 x.1.key.no,.int .i64 x.1.dst,.int .i64 x.1.kind,.int .i64 x.1.data,.bool x.2]) (m:=8));(case hx|hi=>rfl);(case hn=>omega);(case hm|hv=>rfl);(case hT=>decide +kernel)) | ((with_reducible apply wps_alloca (E:=276) S);(case hz=>exact Tryz.zeroValue276);clear S;intro b5 wz S) | ((with_reducible apply wps_storea (T:=276) S 0 (vs:=[.int .i64 x.1.key.at_,.int .i64 x.1.key.src,.int .i64 x.1.key.sent,.int .i64 x.1.key.no,.int .i64 x.1.dst,.int .i64 x.1.kind,.int .i64 x.1.data,.bool x.2]) (m:=8));(case hx|hy|hi|hm|h1=>rfl);(case hn=>exact nle rfl);(case hT=>decide +kernel);clear S;intro wz S;simp only [set_cons_zero,set_cons_succ,setAll,setIfInBounds_toArray] at S) | ((with_reducible apply wps_load S 0);(case hx|hi|hu=>rfl);(case hT=>decide +kernel))
      replace S:=S.pick [1,2] rfl
      simp only [pick,nth] at S
      go_roundw
      case rel=>exact ⟨j + 1,by omega,by go_num,HJ2,S⟩
      case measure=>first | (simp [intOf];done) | (simp [intOf];omega)
    · have hs2 : x.2 = false:=by simpa using hs
      rw [leastU_some HJ.out hx hs2] at HV
      clear hx hs
      go_wp2_with first | ((with_reducible apply wps_loada_el S 1 (hj:=HX.out) (q:=0) (vs:=[.int .i64 x.1.key.at_,.int .i64 x.1.key.src,.int .i64 x.1.key.sent,.int .i64 x.1.key.no,.int .i64 x.1.dst,.int .i64 x.1.kind,.int .i64 x.1.data,.bool x.2]) (m:=8));(case hx|hi=>rfl);(case hn=>omega);(case hm|hv=>rfl);(case hT=>decide +kernel)) | ((with_reducible apply wps_alloca (E:=276) S);(case hz=>exact Tryz.zeroValue276);clear S;intro b5 wz S) | ((with_reducible apply wps_storea (T:=276) S 0 (vs:=[.int .i64 x.1.key.at_,.int .i64 x.1.key.src,.int .i64 x.1.key.sent,.int .i64 x.1.key.no,.int .i64 x.1.dst,.int .i64 x.1.kind,.int .i64 x.1.data,.bool x.2]) (m:=8));(case hx|hy|hi|hm|h1=>rfl);(case hn=>exact nle rfl);(case hT=>decide +kernel);clear S;intro wz S;simp only [set_cons_zero,set_cons_succ,setAll,setIfInBounds_toArray] at S) | ((with_reducible apply wps_load S 0);(case hx|hi|hu=>rfl);(case hT=>decide +kernel))
      (try simp only [Exit.inBlock,Exit.then]);refine bodyPost_ret (results2 rfl (res_tmp rfl) (res_tmp rfl)) rfl ?_
      exact ⟨by rw [← HV.out];rfl,S.below⟩
  · obtain rfl : j = l.length:=by omega
    rw [leastU_none HJ.out] at HV
    go_wp2_with first | ((with_reducible apply wps_loada (T:=276) (k:=8) S 0);(case hx|hi=>rfl);(case hk=>exact nle rfl);(case hT=>decide +kernel))
    (try simp only [Exit.inBlock,Exit.then]);refine bodyPost_ret (results2 rfl (res_tmp rfl) (res_tmp rfl)) rfl ?_
    exact ⟨by rw [← HV.out];rfl,S.below⟩
def sureN (l : List (Event × Bool)) : Nat:=l.countP (·.2)
theorem sureN_snoc {l : List (Event × Bool)} {j : Nat} {x : Event × Bool} (h : l[j]? = some x) : sureN (l.take (j + 1)) = sureN (l.take j) + (if x.2 = true then 1 else 0):=by
 unfold sureN
 rw [List.take_add_one,h,Option.toList_some,List.countP_append]
 by_cases e : x.2 = true
 · rw [if_pos e];simp [e]
 · rw [if_neg e];simp [e]
theorem sureN_le (l : List (Event × Bool)) : sureN l ≤ l.length:=List.countP_le_length
def OnRel (X : Nat) (v : Value) (l : List (Event × Bool)) (w : World) (s i : Value) (wr : World) : Prop:=
 ∃ j n : Nat,j ≤ l.length ∧ n ≤ j ∧ i = .int .i64 j ∧ s = .int .i64 n ∧ Hid (sureN (l.take j) = n) ∧ St (fun _=>False) w wr [Blk true X #[v] 246,Sl true rccell 8 v l]
theorem olen_calls (X : Nat) (v : Value) (l : List (Event × Bool)) (hn : l.length ≤ 65536) (w : World) (F F2 : Nat → Prop) (h1 : (Blk true X #[v] 246).at_ w F) (h2 : (Sl true rccell 8 v l).at_ w F2) :
 Calls Tryz.prog 105 #[.pointer (some ⟨X,0,none⟩)] w fun e w'=>e = .returned (.tuple #[.int .i64 (sureN l),.int .i64 (l.length - sureN l : Nat)]) ∧ Below w.heap.size w w':=by
 have S : St (fun _=>False) w w [Blk true X #[v] 246,Sl true rccell 8 v l]:=((St.init _ w).share (A:=Sl true rccell 8 v l) rfl rfl h2).share (A:=Blk true X #[v] 246) rfl rfl h1
 clear h1 h2
 obtain ⟨ad,c,rfl,_⟩:=(S.sl 1 rfl).elim fun _ h=>h.form
 obtain ⟨N,hN⟩ : ∃ N,sureN l = N:=⟨_,rfl⟩
 have hNl : N ≤ l.length:=by rw [← hN];exact sureN_le l
 rw [hN]
 have HN:=Lib.hid hN
 clear hN
 go_enter Tryz.func105,Tryz.ntmps105
 go_wp2_with first | ((with_reducible apply wps_load S 0);(case hx|hi|hu=>rfl);(case hT=>decide +kernel))
 go_loopw [4,14] (fun s i wr=>OnRel X (.slice ad l.length c) l w s i wr) (fun _ i _=>l.length - (intOf i).toNat)
 case atStart=>exact ⟨0,0,Nat.zero_le _,Nat.le_refl _,rfl,rfl,Lib.hid rfl,S⟩
 case round=>
  clear S
  obtain ⟨j,n,hj,hnj,rfl,rfl,HJ,S⟩:=hrel
  by_cases hlt : j < l.length
  · obtain ⟨x,hx⟩ : ∃ x,l[j]? = some x:=⟨_,List.getElem?_eq_getElem hlt⟩
    obtain ⟨R,o,rfl⟩ : ∃ R o,ad = some ⟨R,o,none⟩:=(S.sl 1 rfl).elim fun F h=>h.head (by omega)
    have hlt2 : (j : Int) < l.length:=by omega
    have HX:=Lib.hid hx
    have HJ2:=Lib.hid (sureN_snoc hx)
    rw [HJ.out] at HJ2
    clear hx
    by_cases hs : x.2 = true
    · rw [if_pos hs] at HJ2
      go_wp2_with first | ((with_reducible apply wps_loada_el S 1 (hj:=HX.out) (q:=0) (vs:=[.int .i64 x.1.key.at_,.int .i64 x.1.key.src,.int .i64 x.1.key.sent,.int .i64 x.1.key.no,.int .i64 x.1.dst,.int .i64 x.1.kind,.int .i64 x.1.data,.bool x.2]) (m:=8));(case hx|hi=>rfl);(case hn=>omega);(case hm|hv=>rfl);(case hT=>decide +kernel)) | ((with_reducible apply wps_alloca (E:=276) S);(case hz=>exact Tryz.zeroValue276);clear S;intro b6 wz S) | ((with_reducible apply wps_storea (T:=276) S 0 (vs:=[.int .i64 x.1.key.at_,.int .i64 x.1.key.src,.int .i64 x.1.key.sent,.int .i64 x.1.key.no,.int .i64 x.1.dst,.int .i64 x.1.kind,.int .i64 x.1.data,.bool x.2]) (m:=8));(case hx|hy|hi|hm|h1=>rfl);(case hn=>exact nle rfl);(case hT=>decide +kernel);clear S;intro wz S;simp only [set_cons_zero,set_cons_succ,setAll,setIfInBounds_toArray] at S) | ((with_reducible apply wps_load S 0);(case hx|hi|hu=>rfl);(case hT=>decide +kernel))
      all_goals try (exfalso;rename_i h;rw [hs] at h;cases h;done)
      replace S:=S.pick [1,2] rfl
      simp only [pick,nth] at S
      go_roundw
      case rel=>exact ⟨j + 1,n + 1,by omega,by omega,by go_num,by go_num,HJ2,S⟩
      case measure=>first | (simp [intOf];done) | (simp [intOf];omega)
    · have hs2 : x.2 = false:=by simpa using hs
      rw [if_neg hs] at HJ2
      clear hs
      go_wp2_with first | ((with_reducible apply wps_loada_el S 1 (hj:=HX.out) (q:=0) (vs:=[.int .i64 x.1.key.at_,.int .i64 x.1.key.src,.int .i64 x.1.key.sent,.int .i64 x.1.key.no,.int .i64 x.1.dst,.int .i64 x.1.kind,.int .i64 x.1.data,.bool x.2]) (m:=8));(case hx|hi=>rfl);(case hn=>omega);(case hm|hv=>rfl);(case hT=>decide +kernel)) | ((with_reducible apply wps_alloca (E:=276) S);(case hz=>exact Tryz.zeroValue276);clear S;intro b6 wz S) | ((with_reducible apply wps_storea (T:=276) S 0 (vs:=[.int .i64 x.1.key.at_,.int .i64 x.1.key.src,.int .i64 x.1.key.sent,.int .i64 x.1.key.no,.int .i64 x.1.dst,.int .i64 x.1.kind,.int .i64 x.1.data,.bool x.2]) (m:=8));(case hx|hy|hi|hm|h1=>rfl);(case hn=>exact nle rfl);(case hT=>decide +kernel);clear S;intro wz S;simp only [set_cons_zero,set_cons_succ,setAll,setIfInBounds_toArray] at S) | ((with_reducible apply wps_load S 0);(case hx|hi|hu=>rfl);(case hT=>decide +kernel))
      all_goals try (exfalso;rename_i h;rw [hs2] at h;cases h;done)
      replace S:=S.pick [1,2] rfl
      simp only [pick,nth] at S
      go_roundw
      case rel=>exact ⟨j + 1,n,by omega,by omega,by go_num,rfl,HJ2,S⟩
      case measure=>first | (simp [intOf];done) | (simp [intOf];omega)
  · obtain rfl : j = l.length:=by omega
    rw [List.take_length,HN.out] at HJ
    obtain rfl : N = n:=HJ.out
    go_wp2_with first | ((with_reducible apply wps_load S 0);(case hx|hi|hu=>rfl);(case hT=>decide +kernel)) | ((with_reducible refine tot_done ?ht ?_);(case ht=>kernel_rfl)) | ((with_reducible apply wps_text S);(case hm=>kernel_rfl);(case hB=>decide +kernel);clear S;intro wz S)
    (try simp only [Exit.inBlock,Exit.then]);refine bodyPost_ret (results2 rfl (res_tmp rfl) (res_tmp rfl)) rfl ?_
    exact ⟨by congr 1;go_num,S.below⟩
theorem qlen_calls (X : Nat) (v1 v2 : Value) (l m : List Event) (w : World) (F F2 F3 : Nat → Prop) (h1 : (Blk true X #[v1,v2] 243).at_ w F) (h2 : (Sl true Event.cells 7 v1 l).at_ w F2) (h3 : (Sl true Event.cells 7 v2 m).at_ w F3) :
 Calls Tryz.prog 104 #[.pointer (some ⟨X,0,none⟩)] w fun e w'=>e = .returned (.tuple #[.int .i64 l.length,.int .i64 m.length]) ∧ Below w.heap.size w w':=by
 have S : St (fun _=>False) w w [Blk true X #[v1,v2] 243]:=(St.init _ w).share rfl rfl h1
 obtain ⟨ad,c,rfl,_⟩:=h2.1.form
 obtain ⟨ad2,c2,rfl,_⟩:=h3.1.form
 clear h1 h2 h3
 go_enter Tryz.func104,Tryz.ntmps104
 go_wp2_with first | ((with_reducible apply wps_load S 0);(case hx|hi|hu=>rfl);(case hT=>decide +kernel)) | ((with_reducible refine tot_done ?ht ?_);(case ht=>kernel_rfl)) | ((with_reducible apply wps_text S);(case hm=>kernel_rfl);(case hB=>decide +kernel);clear S;intro wz S)
 (try simp only [Exit.inBlock,Exit.then]);refine bodyPost_ret (results2 rfl (res_tmp rfl) (res_tmp rfl)) rfl ?_
 exact ⟨rfl,S.below⟩
theorem rlen_calls (X : Nat) (v : Value) (l : List (Int × State)) (w : World) (F F2 : Nat → Prop) (h1 : (Blk true X #[v] 253).at_ w F) (h2 : (Sl true svcell 5 v l).at_ w F2) :
 Calls Tryz.prog 103 #[.pointer (some ⟨X,0,none⟩)] w fun e w'=>e = .returned (.int .i64 l.length) ∧ Below w.heap.size w w':=by
 have S : St (fun _=>False) w w [Blk true X #[v] 253]:=(St.init _ w).share rfl rfl h1
 obtain ⟨ad,c,rfl,_⟩:=h2.1.form
 clear h1 h2
 go_enter Tryz.func103,Tryz.ntmps103
 go_wp2_with first | ((with_reducible apply wps_load S 0);(case hx|hi|hu=>rfl);(case hT=>decide +kernel))
 go_ret
 exact ⟨rfl,S.below⟩
end Go.Proofs.YtmjljoaakdocaaaGreatDoor
/- The walks of a process's Least, Count and State. -/
namespace Go.Proofs.YtmjljoaakdocaaaGreatDoor
open Go Go.RowKit Reg Mem
open List (set_cons_succ set_cons_zero setIfInBounds_toArray cons_append nil_append)
structure LpOk (p : LpE) : Prop where
 evs : p.evs.length ≤ 65536
 ans : p.ans.length ≤ 65536
 recs : p.recs.length ≤ 65536
 svs : p.svs.length ≤ 65536
theorem rd_at {A : Asn} {w : World} (h : ∃ F,(rd A).at_ w F) : ∃ F,A.at_ w F:=h
def minO (a : Int) (o : Option Int) : Int:=match o with | some t=>min a t | none=>a
def lpLeast (p : LpE) : Int:=minO (minO 1073741825 (lpNext p)) (leastU p.recs)
theorem lpleast_calls (X R : Nat) (p : LpE) (hk : LpOk p) (w : World) (F : Nat → Prop) (h : (lpA X R p).at_ w F) :
 Calls Tryz.prog 58 #[.pointer (some ⟨X,0,none⟩)] w fun e w'=>e = .returned (.int .i64 (lpLeast p)) ∧ Below w.heap.size w w':=by
 obtain ⟨Q,T,Y,v1,v2,v3,v4,S0⟩:=lpR_st h
 have S : St (fun _=>False) w w [rd (lpA X R p),lpBT X Q T Y R p,Blk true T #[v3] 246,Sl true rccell 8 v3 p.recs]:=(S0.pick [0,4,5] rfl).share (A:=rd (lpA X R p)) rfl rfl h
 clear h S0
 have HN:=Lib.hid fun w F h=>lpnext_calls X R p hk.evs w F h
 have HL:=Lib.hid fun w F F2 h1 h2=>oleast_calls T v3 p.recs hk.recs w F F2 h1 h2
 obtain ⟨V,hV⟩ : ∃ V,lpLeast p = V:=⟨_,rfl⟩
 rw [hV]
 unfold lpLeast at hV
 have HV:=Lib.hid hV
 clear hV hk
 generalize lpNext p = o at *
 generalize leastU p.recs = o2 at *
 unfold lpBT at S
 cases o with
 | none=>
   simp only [optV,Option.getD_none,Option.isSome_none] at HN
   cases o2 with
   | none=>
     simp only [optV,Option.getD_none,Option.isSome_none] at HL
     go_enter Tryz.func58,Tryz.ntmps58
     go_wp2_with first | ((with_reducible apply wps_load S 1);(case hx|hi|hu=>rfl);(case hT=>decide +kernel)) | (go_at_call 100;refine Calls.mono (HN.out _ _ (rd_at (S.get (i:=0) rfl)).choose_spec) ?_;rintro e wz ⟨rfl,hE⟩;replace S:=S.ext (Keep.of_below hE);clear hE) | (go_at_call 101;refine Calls.mono (HL.out _ _ _ (S.get (i:=2) rfl).choose_spec (S.get (i:=3) rfl).choose_spec) ?_;rintro e wz ⟨rfl,hE⟩;replace S:=S.ext (Keep.of_below hE);clear hE)
     go_ret
     exact ⟨by rw [← HV.out];rfl,S.below⟩
   | some b=>
     simp only [optV,Option.getD_some,Option.isSome_some] at HL
     go_enter Tryz.func58,Tryz.ntmps58
     go_wp2_with first | ((with_reducible apply wps_load S 1);(case hx|hi|hu=>rfl);(case hT=>decide +kernel)) | (go_at_call 100;refine Calls.mono (HN.out _ _ (rd_at (S.get (i:=0) rfl)).choose_spec) ?_;rintro e wz ⟨rfl,hE⟩;replace S:=S.ext (Keep.of_below hE);clear hE) | (go_at_call 101;refine Calls.mono (HL.out _ _ _ (S.get (i:=2) rfl).choose_spec (S.get (i:=3) rfl).choose_spec) ?_;rintro e wz ⟨rfl,hE⟩;replace S:=S.ext (Keep.of_below hE);clear hE)
     go_ret
     exact ⟨by rw [← HV.out];rfl,S.below⟩
 | some a=>
   simp only [optV,Option.getD_some,Option.isSome_some] at HN
   cases o2 with
   | none=>
     simp only [optV,Option.getD_none,Option.isSome_none] at HL
     go_enter Tryz.func58,Tryz.ntmps58
     go_wp2_with first | ((with_reducible apply wps_load S 1);(case hx|hi|hu=>rfl);(case hT=>decide +kernel)) | (go_at_call 100;refine Calls.mono (HN.out _ _ (rd_at (S.get (i:=0) rfl)).choose_spec) ?_;rintro e wz ⟨rfl,hE⟩;replace S:=S.ext (Keep.of_below hE);clear hE) | (go_at_call 101;refine Calls.mono (HL.out _ _ _ (S.get (i:=2) rfl).choose_spec (S.get (i:=3) rfl).choose_spec) ?_;rintro e wz ⟨rfl,hE⟩;replace S:=S.ext (Keep.of_below hE);clear hE)
     go_ret
     exact ⟨by rw [← HV.out];rfl,S.below⟩
   | some b=>
     simp only [optV,Option.getD_some,Option.isSome_some] at HL
     go_enter Tryz.func58,Tryz.ntmps58
     go_wp2_with first | ((with_reducible apply wps_load S 1);(case hx|hi|hu=>rfl);(case hT=>decide +kernel)) | (go_at_call 100;refine Calls.mono (HN.out _ _ (rd_at (S.get (i:=0) rfl)).choose_spec) ?_;rintro e wz ⟨rfl,hE⟩;replace S:=S.ext (Keep.of_below hE);clear hE) | (go_at_call 101;refine Calls.mono (HL.out _ _ _ (S.get (i:=2) rfl).choose_spec (S.get (i:=3) rfl).choose_spec) ?_;rintro e wz ⟨rfl,hE⟩;replace S:=S.ext (Keep.of_below hE);clear hE)
     go_ret
     exact ⟨ret_int (by rw [← HV.out];simp only [minO];omega),S.below⟩
def lpCountV (p : LpE) : Value:=.agg #[.int .i64 p.evs.length,.int .i64 p.ans.length,.int .i64 (sureN p.recs),.int .i64 (p.recs.length - sureN p.recs : Nat),.int .i64 p.svs.length,.int .i64 p.steps,.int .i64 p.coasted]
theorem lpcount_calls (X R : Nat) (p : LpE) (hk : LpOk p) (w : World) (F : Nat → Prop) (h : (lpA X R p).at_ w F) :
 Calls Tryz.prog 62 #[.pointer (some ⟨X,0,none⟩)] w fun e w'=>e = .returned (lpCountV p) ∧ Below w.heap.size w w':=by
 obtain ⟨Q,T,Y,v1,v2,v3,v4,S⟩:=lpR_st h
 clear h
 have HQ:=Lib.hid fun w F F2 F3 h1 h2 h3=>qlen_calls Q v1 v2 p.evs p.ans w F F2 F3 h1 h2 h3
 have HO:=Lib.hid fun w F F2 h1 h2=>olen_calls T v3 p.recs hk.recs w F F2 h1 h2
 have HR:=Lib.hid fun w F F2 h1 h2=>rlen_calls Y v4 p.svs w F F2 h1 h2
 clear hk
 unfold lpCountV
 generalize sureN p.recs = N at *
 unfold lpBT at S
 go_enter Tryz.func62,Tryz.ntmps62
 go_wp2_with first | ((with_reducible apply wps_alloca (E:=154) S);(case hz=>exact Tryz.zeroValue154);clear S;intro b2 wz S)
 (refine wp_region_w (soft:=[0,1,2,3,4,5,6,7,8,9,10,11,12,13]) S ?hm ?hB ?_);(case hm=>kernel_rfl);(case hB=>decide +kernel);clear S
 iterate 14
  (with_reducible apply softs_cons)
  (case hw=>
    (with_reducible apply soft_of);(case hi=>rfl)
    intro T wz S
    simp only [cons_append,nil_append] at S
    go_wp2_with first | ((with_reducible apply wps_load S 1);(case hx|hi|hu=>rfl);(case hT=>decide +kernel)) | (go_at_call 103;refine Calls.mono (HR.out _ _ _ (S.get (i:=7) rfl).choose_spec (S.get (i:=8) rfl).choose_spec) ?_;rintro e wz ⟨rfl,hE⟩;replace S:=S.ext (Keep.of_below hE);clear hE) | ((with_reducible refine tot_done ?ht ?_);(case ht=>kernel_rfl))
    exact ⟨rfl,S⟩)
  (case hs=>exact ⟨_,rfl,by kernel_rfl⟩)
 refine softs_nil ?_
 (with_reducible apply W_hard1 (i:=14));(case hn=>rfl);(case hr=>decide +kernel)
 intro wz S
 (with_reducible apply hard_of);(case hi=>rfl)
 simp only [cons_append,nil_append] at S
 go_wp2_with first | ((with_reducible apply wps_alloca (E:=154) S);(case hz=>exact Tryz.zeroValue154);clear S;intro b3 wz S) | ((with_reducible refine tot_done ?ht ?_);(case ht=>kernel_rfl))
 refine ⟨_,S.pick [1,2,3,4,5,6,7,8,9,0] rfl,?_⟩
 clear S
 (with_reducible apply W_hard1 (i:=15));(case hn=>rfl);(case hr=>decide +kernel)
 intro wz S
 (with_reducible apply hard_of);(case hi=>rfl)
 simp only [cons_append,nil_append] at S
 go_wp2_with first | ((with_reducible apply wps_storea (T:=154) S 9 (vs:=[.int .i64 0,.int .i64 0,.int .i64 0,.int .i64 0,.int .i64 p.svs.length,.int .i64 p.steps,.int .i64 p.coasted]) (m:=7));(case hx|hy|hi|hm|h1=>rfl);(case hn=>exact nle rfl);(case hT=>decide +kernel);clear S;intro wz S;simp only [set_cons_zero,set_cons_succ,setAll,setIfInBounds_toArray] at S) | ((with_reducible refine tot_done ?ht ?_);(case ht=>kernel_rfl))
 refine ⟨_,S,?_⟩
 clear S
 (with_reducible apply W_done);(case hn=>rfl);(case hr=>decide +kernel)
 intro wz S
 repeat (first | simp only at S | simp only [pick] at S | simp only [nth] at S | simp only [set_cons_succ] at S | simp only [set_cons_zero] at S | simp only [setIfInBounds_toArray] at S | simp only [setAll] at S | simp only [cons_append] at S | simp only [nil_append] at S | simp only [List.append_nil] at S)
 go_wp2_with first | ((with_reducible apply wps_load S 1);(case hx|hi|hu=>rfl);(case hT=>decide +kernel)) | (go_at_call 104;refine Calls.mono (HQ.out _ _ _ _ (S.get (i:=2) rfl).choose_spec (S.get (i:=3) rfl).choose_spec (S.get (i:=4) rfl).choose_spec) ?_;rintro e wz ⟨rfl,hE⟩;replace S:=S.ext (Keep.of_below hE);clear hE) | (go_at_call 105;refine Calls.mono (HO.out _ _ _ (S.get (i:=5) rfl).choose_spec (S.get (i:=6) rfl).choose_spec) ?_;rintro e wz ⟨rfl,hE⟩;replace S:=S.ext (Keep.of_below hE);clear hE) | ((with_reducible apply wps_store (u:=(.int .i64 p.evs.length)) S 9);(case hx|hy|hi|h1=>rfl);(case hn=>exact nle rfl);(case hT=>decide +kernel);clear S;intro wz S;simp only [set_cons_succ,set_cons_zero,setIfInBounds_toArray] at S) | ((with_reducible apply wps_store (u:=(.int .i64 p.ans.length)) S 9);(case hx|hy|hi|h1=>rfl);(case hn=>exact nle rfl);(case hT=>decide +kernel);clear S;intro wz S;simp only [set_cons_succ,set_cons_zero,setIfInBounds_toArray] at S) | ((with_reducible apply wps_store (u:=(.int .i64 N)) S 9);(case hx|hy|hi|h1=>rfl);(case hn=>exact nle rfl);(case hT=>decide +kernel);clear S;intro wz S;simp only [set_cons_succ,set_cons_zero,setIfInBounds_toArray] at S) | ((with_reducible apply wps_store (u:=(.int .i64 (p.recs.length - N : Nat))) S 9);(case hx|hy|hi|h1=>rfl);(case hn=>exact nle rfl);(case hT=>decide +kernel);clear S;intro wz S;simp only [set_cons_succ,set_cons_zero,setIfInBounds_toArray] at S) | ((with_reducible apply wps_loada (T:=154) (k:=7) S 9);(case hx|hi=>rfl);(case hk=>exact nle rfl);(case hT=>decide +kernel)) | ((with_reducible apply wps_storea (T:=154) S 0 (vs:=[.int .i64 p.evs.length,.int .i64 p.ans.length,.int .i64 N,.int .i64 (p.recs.length - N : Nat),.int .i64 p.svs.length,.int .i64 p.steps,.int .i64 p.coasted]) (m:=7));(case hx|hy|hi|hm|h1=>rfl);(case hn=>exact nle rfl);(case hT=>decide +kernel);clear S;intro wz S;simp only [set_cons_zero,set_cons_succ,setAll,setIfInBounds_toArray] at S)
 (try simp only [Exit.inBlock,Exit.then]);refine bodyPost_ret (results1 rfl (S.resA 0 rfl rfl (by kernel_rfl))) rfl ?_
 exact ⟨rfl,S.below⟩
end Go.Proofs.YtmjljoaakdocaaaGreatDoor
