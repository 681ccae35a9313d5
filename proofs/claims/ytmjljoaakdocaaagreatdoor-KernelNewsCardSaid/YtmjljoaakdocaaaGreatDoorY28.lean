import Derived.Test.YtmjljoaakdocaaaGreatDoorY09
import Derived.Test.YtmjljoaakdocaaaGreatDoorY22
import Derived.Deep.Cut
/- The walks of slices.Delete of events; of Drop of what came. -/
set_option maxHeartbeats 16000000
set_option maxRecDepth 100000
namespace Go.Proofs.YtmjljoaakdocaaaGreatDoor
open Go Go.RowKit Reg Mem
open List (set_cons_succ set_cons_zero setIfInBounds_toArray cons_append nil_append)
abbrev evz : Event:=⟨⟨0,0,0,0⟩,0,0,0⟩
def DelEPost (l : List Event) (F : Nat → Prop) (w : World) (e : Ending) (w' : World) : Prop:=
 ∃ ad c,e = .returned (.slice ad l.length c) ∧ St F w w' [Mem.Own 58 Event.cells 7 (.slice ad l.length c) l]
theorem own_fitsE {α : Type} {E : TypeId} {enc : α → List Value} {k : Nat} {v : Value} {l : List α} {G : Nat → Prop} {w0 w : World} {L : List Asn} (i : Nat) (S : St G w0 w L) (hi : L[i]? = some (Mem.Own E enc k v l)) : ∃ ad c,v = .slice ad l.length c ∧ l.length ≤ c ∧ (0 < l.length → ∃ R,ad = some ⟨R,0,none⟩):=by
 obtain ⟨F1,h1⟩:=S.get hi
 obtain ⟨a,c,e1⟩:=h1.1.form
 refine ⟨a,c,e1,?_,fun h0=>?_⟩
 · rcases h1.1.2 with ⟨h2,h3⟩ | ⟨g,cap,cur,h2,_,_,h4,_⟩
   · rw [e1] at h2;simp only [Value.slice.injEq] at h2;omega
   · rw [e1] at h2;simp only [Value.slice.injEq] at h2;omega
 · obtain ⟨R,c2,e2⟩:=own_hdE i S hi h0
   rw [e1] at e2
   simp only [Value.slice.injEq] at e2
   exact ⟨R,e2.1⟩
theorem dele_calls (v : Value) (l : List Event) (i j : Nat) (w : World) (F : Nat → Prop) (S0 : St F w w [Mem.Own 58 Event.cells 7 v l]) (hij : i ≤ j) (hj : j ≤ l.length) (hn : l.length ≤ 65536) :
 Calls Tryz.prog 196 #[v,.int .i64 i,.int .i64 j] w (DelEPost (l.take i ++ l.drop j) F w):=by
 have S:=S0
 clear S0
 obtain ⟨ad,c,rfl,hlc,hR⟩:=own_fitsE 0 S rfl
 have hn2 : (l.length : Int) ≤ 65536:=by omega
 rcases Nat.lt_or_eq_of_le hij with hlt | rfl
 · obtain ⟨R,rfl⟩:=hR (by omega)
   clear hR
   have hne : ((i : Int) == j) = false:=by simp;omega
   have hne2 : (i == j) = false:=by simp;omega
   obtain ⟨m,hm⟩ : ∃ m,m = i + (l.length - j):=⟨_,rfl⟩
   have hmi : (m : Int) ≤ l.length:=by omega
   have HLL : Hid ((l.take i ++ l.drop j).length = m):=Lib.hid (by rw [List.length_append,List.length_take,List.length_drop,hm,Nat.min_eq_left (by omega)])
   have HTK : Hid ((l.take i ++ l.drop j ++ l.drop m).take m = l.take i ++ l.drop j):=Lib.hid (List.take_left' HLL.out)
   rcases Nat.lt_or_eq_of_le hj with hjl | rfl
   · obtain ⟨cur,hcs,-,-,hcm,hct,S2⟩:=S.raw 0 rfl
     clear S
     have S:=S2
     clear S2
     simp only [set_cons_zero] at S
     obtain ⟨us,hus⟩ : ∃ us,flatE Event.cells (l.drop j) = us:=⟨_,rfl⟩
     have HUL : Hid (us.length = (l.length - j) * 7):=Lib.hid (by rw [← hus,flatE_length ecells,List.length_drop])
     have HUS : Hid (∀ (q : Nat) v,us[q]? = some v → cur[j * 7 + q]? = some v):=Lib.hid fun q v h=>flat_src ecells hct q v (by rw [hus];exact h)
     have HU1 : Hid (∀ v ∈ us,v.oneCell' = true):=Lib.hid (by rw [← hus];exact flat_ones eone)
     have HEND:=Lib.hid (splice_del (n:=l.length) (i:=i) (j:=j) ecells rfl hij hj (by omega) hct)
     rw [hus,← hm] at HEND
     have HFIT : Hid (i * 7 + us.length ≤ cur.size):=Lib.hid (by rw [HUL.out];omega)
     have HL3 : Hid (l.length = (l.take i ++ l.drop j ++ l.drop m).length):=Lib.hid (by rw [List.length_append,HLL.out,List.length_drop];omega)
     have hml : m < l.length:=by omega
     have HM:=Lib.hid hm
     have HRM : Hid (i + (l.length - j) ≤ c):=Lib.hid (by omega)
     have Hcs:=Lib.hid hcs
     have Hcm:=Lib.hid hcm
     have Hct:=Lib.hid hct
     have Hus:=Lib.hid hus
     clear hcs hcm hct hus
     clear hm
     go_enter Tryz.func196,Tryz.ntmps196
     go_wp2_with first | ((with_reducible apply wps_sl3 Tryz.underlying53 sizeEv (n:=l.length) (c:=c) (l:=i) (u:=j) (m:=l.length));(case hx|hlo|hhi|hmx=>rfl);(case h1|h2=>omega);(case h3=>exact hlc);intro vz) | ((with_reducible apply wps_slv Tryz.underlying53 sizeEv (n:=l.length) (c:=c) (l:=0) (u:=i));(case hx=>rfl);(case hlo=>exact .inl ⟨rfl,rfl⟩);(case hhi=>exact .inr rfl);(case h1|h2|h3=>omega)) | ((with_reducible apply wps_slv Tryz.underlying53 sizeEv (n:=l.length) (c:=c) (l:=j) (u:=l.length));(case hx=>rfl);(case hlo=>exact .inr rfl);(case hhi=>exact .inl ⟨rfl,rfl⟩);(case h1=>omega);(case h2=>exact hlc);(case h3=>omega)) | ((with_reducible apply wps_appendin elem_Ev S 0 rfl us m (u:=i) (m:=l.length - j) (o2:=j * 7) (c:=c));(case hx|hy=>rfl);(case hn=>exact HUL.out);(case hsrc=>exact HUS.out);(case hnn=>exact HM.out);(case hroom=>exact HRM.out);(case hfit=>exact HFIT.out);(case h1=>exact HU1.out);clear S;intro wz S;simp only [set_cons_zero] at S;replace S:=S.unraw (n:=l.length) (c:=c) (xs:=l.take i ++ l.drop j ++ l.drop m) ecells 0 rfl (by rw [HEND.out.2];exact Hcs.out) HL3.out hlc Hcm.out HEND.out.1;simp only [set_cons_zero] at S) | ((with_reducible apply wps_slv Tryz.underlying53 sizeEv (n:=m) (c:=c) (l:=m) (u:=l.length));(case hx=>rfl);(case hlo|hhi=>exact .inr rfl);(case h1=>omega);(case h2=>exact hlc);(case h3=>omega)) | ((with_reducible apply wps_clearTail elem_Ev ecells eone evz zero_Ev S 0 (o:=m * 7) (m:=m) (q:=l.length - m));(case hx|hi|ho=>rfl);(case hm=>rw [← HL3.out];omega);(case h0=>omega);clear S;intro wz S;simp only [set_cons_zero] at S) | ((with_reducible refine tot_done ?ht ?_);(case ht=>kernel_rfl)) | ((with_reducible apply wps_text S);(case hm=>kernel_rfl);(case hB=>decide +kernel);clear S;intro wz S)
     go_ret
     replace S:=S.cutOwn ecells 0 rfl m (by rw [List.length_append,HTK.out,HLL.out];omega)
     rw [HTK.out,List.take_left' HLL.out] at S
     exact ⟨some ⟨R,0,none⟩,c,by rw [HLL.out];rfl,by rw [HLL.out];exact S.pick [0] rfl⟩
   · rw [List.drop_length,List.append_nil]
     obtain rfl : m = i:=by omega
     have HTL : Hid ((l.take m).length = m):=Lib.hid (by rw [List.length_take];omega)
     have HTT : Hid (((l.take m ++ List.replicate (l.length - m) evz).take m) = l.take m):=Lib.hid (List.take_left' HTL.out)
     clear HTK HLL hm
     go_enter Tryz.func196,Tryz.ntmps196
     go_wp2_with first | ((with_reducible apply wps_sl3 Tryz.underlying53 sizeEv (n:=l.length) (c:=c) (l:=m) (u:=l.length) (m:=l.length));(case hx|hlo|hhi|hmx=>rfl);(case h1|h2=>omega);(case h3=>exact hlc);intro vz) | ((with_reducible apply wps_slv Tryz.underlying53 sizeEv (n:=l.length) (c:=c) (l:=0) (u:=m));(case hx=>rfl);(case hlo=>exact .inl ⟨rfl,rfl⟩);(case hhi=>exact .inr rfl);(case h1|h2|h3=>omega)) | ((with_reducible apply wps_slany Tryz.underlying53 sizeEv (n:=l.length) (c:=c) (l:=l.length) (u:=l.length));(case hx=>rfl);(case hlo=>exact .inr rfl);(case hhi=>exact .inl ⟨rfl,rfl⟩);(case h1=>omega);(case h2=>exact hlc);intro adz) | ((with_reducible apply wps_append0 elem_Ev (u:=m) (c:=c));(case hx|hy=>rfl);(case hm=>exact Nat.sub_self _);(case hroom=>omega)) | ((with_reducible apply wps_slv Tryz.underlying53 sizeEv (n:=m) (c:=c) (l:=m) (u:=l.length));(case hx=>rfl);(case hlo|hhi=>exact .inr rfl);(case h1=>omega);(case h2=>exact hlc);(case h3=>omega)) | ((with_reducible apply wps_clearTail elem_Ev ecells eone evz zero_Ev S 0 (o:=m * 7) (m:=m) (q:=l.length - m));(case hx|hi|ho=>rfl);(case hm|h0=>omega);clear S;intro wz S;simp only [set_cons_zero] at S) | ((with_reducible refine tot_done ?ht ?_);(case ht=>kernel_rfl)) | ((with_reducible apply wps_text S);(case hm=>kernel_rfl);(case hB=>decide +kernel);clear S;intro wz S)
     go_ret
     replace S:=S.cutOwn ecells 0 rfl m (by rw [List.length_append,HTL.out];omega)
     rw [HTT.out] at S
     exact ⟨some ⟨R,0,none⟩,c,by rw [HTL.out];rfl,by rw [HTL.out];exact S.pick [0] rfl⟩
 · clear hR
   rw [List.take_append_drop]
   have hil : (i : Int) ≤ l.length:=by omega
   go_enter Tryz.func196,Tryz.ntmps196
   go_wp2_with first | ((with_reducible apply wps_sl3 Tryz.underlying53 sizeEv (n:=l.length) (c:=c) (l:=i) (u:=i) (m:=l.length));(case hx|hlo|hhi|hmx=>rfl);(case h1|h2=>omega);(case h3=>exact hlc);intro vz)
   go_ret
   exact ⟨ad,c,rfl,S.pick [0] rfl⟩
def VoRel (b : Nat) (v : Value) (l : List Event) (G : Nat → Prop) (w0 : World) (Φ : Nat → List Asn → Prop) (i : Value) (wr : World) : Prop:=
 ∃ (k : Nat) (L : List Asn),k ≤ l.length ∧ i = .int .i64 k ∧ Φ k L ∧ St G w0 wr (Blk true b #[v] 53 :: Mem.Own 58 Event.cells 7 v l :: L)
theorem vals1_iterO (b : Nat) (v : Value) (l : List Event) (hn : l.length ≤ 65536) : IterC Tryz.prog 245 #[.pointer (some ⟨b,0,none⟩)] [Blk true b #[v] 53,Mem.Own 58 Event.cells 7 v l] l MadeE:=by
 intro y G w0 W Φ Ψ L hY h0 S
 simp only [cons_append,nil_append] at S
 show Calls Tryz.prog 245 #[.func (.yield y) #[] #[],.pointer (some ⟨b,0,none⟩)] W _
 obtain ⟨ad,c,rfl,_⟩:=(S.ownsl ecells 1 rfl).elim fun _ h=>h.form
 have HY:=Lib.hid hY
 clear hY
 go_enter Tryz.func245,Tryz.ntmps245
 go_wp2_with first | ((with_reducible apply wps_load S 0);(case hx|hi|hu=>rfl);(case hT=>decide +kernel))
 go_loopw [7] (fun i wr=>VoRel b (.slice ad l.length c) l G w0 Φ i wr) (fun i _=>l.length - (intOf i).toNat)
 case atStart=>exact ⟨0,L,Nat.zero_le _,rfl,h0,S⟩
 case round=>
  clear S h0
  obtain ⟨k,L,hk,rfl,hΦ,S⟩:=hrel
  by_cases hlt : k < l.length
  · obtain ⟨x,hx⟩ : ∃ x,l[k]? = some x:=⟨_,List.getElem?_eq_getElem hlt⟩
    obtain ⟨R,c',e⟩:=own_hdE 1 S rfl (by omega)
    simp only [Value.slice.injEq] at e
    obtain ⟨rfl,-,rfl⟩:=e
    have hlt2 : (k : Int) < l.length:=by omega
    have Hx:=Lib.hid hx
    have HΦ:=Lib.hid hΦ
    clear hx hΦ
    go_upto_region 3 with first | ((with_reducible apply wps_loada_own ecells S 1 (hj:=Hx.out) (q:=0) (vs:=[.int .i64 x.key.at_,.int .i64 x.key.src,.int .i64 x.key.sent,.int .i64 x.key.no,.int .i64 x.dst,.int .i64 x.kind,.int .i64 x.data]) (m:=7));(case hx|hi=>rfl);(case hn=>omega);(case hm|hv=>rfl);(case hT=>decide +kernel)) | ((with_reducible apply wps_alloca (E:=58) S);(case hz=>exact Tryz.zeroValue58);clear S;intro b4 wz S) | ((with_reducible apply wps_storea (T:=58) S 0 (vs:=[.int .i64 x.key.at_,.int .i64 x.key.src,.int .i64 x.key.sent,.int .i64 x.key.no,.int .i64 x.dst,.int .i64 x.kind,.int .i64 x.data]) (m:=7));(case hx|hy|hi|hm|h1=>rfl);(case hn=>exact nle rfl);(case hT=>decide +kernel);clear S;intro wz S;simp only [set_cons_zero,set_cons_succ,setAll,setIfInBounds_toArray] at S)
    refine wp_region_yl 2 rfl rfl rfl fun K hK=>?_
    simp only [List.take_succ_cons,List.take_zero]
    simp only [List.drop_succ_cons,List.drop_zero] at hK
    go_wp2_with first | ((with_reducible apply wps_loada (T:=58) (k:=7) S 0);(case hx|hi=>rfl);(case hk=>exact nle rfl);(case hT=>decide +kernel))
    refine hK _ _ ?_
    clear hK K
    (try simp only [Act.put]);(try simp only [setIfInBounds_toArray]);(try simp only [set_cons_succ]);(try simp only [set_cons_zero])
    refine yield_in (l:=y) rfl rfl rfl rfl rfl (HY.out k x _ [] L _ Hx.out ⟨rfl,rfl⟩ HΦ.out (St.tail S)) ?_
    rintro e w' ⟨L',S,(⟨rfl,hΦ'⟩ | ⟨rfl,hΨ⟩)⟩
    · refine ⟨_,rfl,?_⟩
      refine list_only rfl fun K hK=>?_
      go_wp2_with first | ((with_reducible apply wps_loada (T:=58) (k:=7) S 0);(case hx|hi=>rfl);(case hk=>exact nle rfl);(case hT=>decide +kernel))
      refine hK _ _ ?_
      clear hK K
      have HΦ':=Lib.hid hΦ'
      clear hΦ'
      go_wp2_with first | ((with_reducible apply wps_loada (T:=58) (k:=7) S 0);(case hx|hi=>rfl);(case hk=>exact nle rfl);(case hT=>decide +kernel))
      go_roundw
      case rel=>exact ⟨k + 1,L',by omega,by go_num,HΦ'.out,S⟩
      case measure=>first | (simp [intOf];done) | (simp [intOf];omega)
    · refine ⟨_,rfl,?_⟩
      refine list_only rfl fun K hK=>?_
      go_wp2_with first | ((with_reducible apply wps_loada (T:=58) (k:=7) S 0);(case hx|hi=>rfl);(case hk=>exact nle rfl);(case hT=>decide +kernel))
      refine hK _ _ ?_
      clear hK K
      have HΨ:=Lib.hid hΨ
      clear hΨ
      go_wp2_with first | ((with_reducible apply wps_loada (T:=58) (k:=7) S 0);(case hx|hi=>rfl);(case hk=>exact nle rfl);(case hT=>decide +kernel))
      (try simp only [Exit.inBlock,Exit.then]);refine bodyPost_ret (results_none rfl _ _ _) rfl ?_
      exact ⟨⟨_,rfl⟩,L',S,.inr ⟨k + 1,by omega,HΨ.out⟩⟩
  · obtain rfl : k = l.length:=by omega
    have HΦ:=Lib.hid hΦ
    clear hΦ
    go_wp2_with first | ((with_reducible apply wps_loada (T:=58) (k:=7) S 0);(case hx|hi=>rfl);(case hk=>exact nle rfl);(case hT=>decide +kernel))
    go_end0
    exact ⟨⟨_,rfl⟩,L,S,.inl HΦ.out⟩
def QdPhi (b3 b5 X : Nat) (v1 v2 : Value) (l m : List Event) (below : Int) (j : Nat) (L : List Asn) : Prop:=
 ∃ (lv : Value) (lo : List Event),Hid (lo = (l.take j).filter fun x=>decide (x.key.at_ < below)) ∧ L = [Mem.Own 58 Event.cells 7 lv lo,Blk false b5 #[lv] 53,Blk false b3 #[.int .i64 below] 3,Mem.Own 58 Event.cells 7 v2 m,Blk false X #[v1,v2] 243]
def dropE (below : Int) (l : List Event) : List Event:=l.drop (l.filter fun x=>decide (x.key.at_ < below)).length
def QDropPost (X : Nat) (l m : List Event) (F : Nat → Prop) (w : World) (e : Ending) (w' : World) : Prop:=
 ∃ v,e = .returned v ∧ St F w w' [queueA X l m]
theorem filter_snocE {p : Event → Bool} {l : List Event} {j : Nat} {x : Event} (h : l[j]? = some x) : (l.take (j + 1)).filter p = (l.take j).filter p ++ (if p x = true then [x] else []):=by
 rw [List.take_add_one,h,Option.toList_some,List.filter_append]
 by_cases e : p x = true
 · rw [if_pos e,List.filter_cons_of_pos e];rfl
 · rw [if_neg e,List.filter_cons_of_neg e];rfl
theorem qdrop_calls (X : Nat) (l m : List Event) (below : Int) (hn : l.length ≤ 65536) (w : World) (F : Nat → Prop) (S0 : St F w w [queueA X l m]) :
 Calls Tryz.prog 214 #[.pointer (some ⟨X,0,none⟩),.int .i64 below] w (QDropPost X (dropE below l) m F w):=by
 obtain ⟨v1,v2,S⟩:=queue_open S0
 clear S0
 have HQ:=Lib.hid fun w F F2 h1 h2=>qeach_calls X v1 v2 l w F F2 h1 h2
 have HN:=Lib.hid hn
 refine calls_marks Tryz.func214 rfl ?_
 simp only [Tryz.ntmps214,List.size_toArray,List.length_cons,List.length_nil,Nat.reduceAdd,Nat.reduceSub,Array.replicate_succ,Array.replicate_zero,List.push_toArray,List.append_toArray,nil_append,cons_append]
 go_wp2_with first | ((with_reducible apply wps_box1 (E:=3) (v:=.int .i64 below) S);(case hx|h1=>rfl);clear S;intro b3 wz S) | ((with_reducible apply wps_alloc1 (E:=53) S);(case hz=>exact Tryz.zeroValue53);(case h1=>rfl);clear S;intro b5 wz S) | (go_at_call 187;(refine Calls.mono (HQ.out _ _ _ (S.get (i:=4) rfl).choose_spec (own_sl (sh:=true) ecells (S.get (i:=2) rfl).choose_spec)) ?_);rintro rr wz ⟨bt,rfl,T⟩;replace S:=S.join T rfl;clear T;simp only [cons_append,nil_append] at S)
 replace S:=S.weak (i:=0) (A':=Blk true bt #[v1] 53) rfl (fun e=>by cases e) (fun F h=>⟨F,fun _ hb=>hb,h⟩)
 simp only [set_cons_zero] at S
 replace S:=(S.nil 58 Event.cells 7).pick [1,4,0,2,3,5,6] rfl
 simp only [pick,nth] at S
 refine wps_range (vals1_iterO bt v1 l hn) S rfl (calls_enter Tryz.func245 (by kernel_rfl) rfl) (QdPhi b3 b5 X v1 v2 l m below) (fun _ _ _=>False) ⟨.slice none 0 0,[],Lib.hid rfl,rfl⟩ (fun x args N h=>by obtain ⟨rfl,_⟩:=h;rfl) ?round ?done ?stop
 case stop=>intro _ _ _ _ _ _ h;exact h.elim
 case round=>
  rintro lp D r j x args N L W hx ⟨rfl,rfl⟩ ⟨lv,lo,HLO,rfl⟩ S
  simp only [zip_one9K,setIfInBounds_toArray,set_cons_succ,set_cons_zero,cons_append,nil_append] at S ⊢
  obtain ⟨a3,c3,rfl,_⟩:=(S.ownsl ecells 2 rfl).elim fun _ h=>h.form
  have HF2:=Lib.hid (filter_snocE (p:=fun x=>decide (x.key.at_ < below)) hx)
  rw [← HLO.out] at HF2
  have hll : lo.length < 4294967296:=by rw [HLO.out];exact Nat.lt_of_le_of_lt (Nat.le_trans (List.length_filter_le ..) (List.length_take_le' ..)) (by omega)
  by_cases hlt : x.key.at_ < below
  · have f1 : decide (x.key.at_ < below) = true:=decide_eq_true hlt
    rw [if_pos f1] at HF2
    clear hlt hx
    gi_wp2_with first
     | (refine wpi_at (.inr ⟨_,rfl⟩) rfl fun K hK=>?_
        go_wp2_with first | ((with_reducible apply wps_alloca (E:=58) S);(case hz=>exact Tryz.zeroValue58);clear S;intro b6 wz S) | ((with_reducible apply wps_storea (T:=58) S 0 (vs:=[.int .i64 x.key.at_,.int .i64 x.key.src,.int .i64 x.key.sent,.int .i64 x.key.no,.int .i64 x.dst,.int .i64 x.kind,.int .i64 x.data]) (m:=7));(case hx|hy|hi|hm|h1=>rfl);(case hn=>exact nle rfl);(case hT=>decide +kernel);clear S;intro wz S;simp only [set_cons_zero,set_cons_succ,setAll,setIfInBounds_toArray] at S)
        refine hK _ _ ?_
        (try simp only [Act.put]);(try simp only [setIfInBounds_toArray]);(try simp only [set_cons_succ]);(try simp only [set_cons_zero])
        clear hK K)
    refine ⟨_,S.lastSplit rfl,fun r' W2 S=>?_⟩
    simp only [List.dropLast,cons_append,nil_append] at S
    refine wpIn_block (wpIn_seq_nK fun K hK=>wpi_list_k (.inr ⟨_,rfl⟩) rfl fun K2 hK2=>?_)
    go_wp2_with first | ((with_reducible apply wps_load S 0);(case hx|hi|hu=>rfl);(case hT=>decide +kernel)) | ((with_reducible apply wps_load S 5);(case hx|hi|hu=>rfl);(case hT=>decide +kernel))
    refine hK2 _ _ (hK _ _ ?_)
    clear hK hK2 K K2
    refine wpIn_cond_true (by first | rfl | (simp [Act.eval,f1];done)) (wpi_list_k (.inr ⟨_,rfl⟩) rfl fun K2 hK2=>?_)
    go_wp2_with first | ((with_reducible apply wps_load S 4);(case hx|hi|hu=>rfl);(case hT=>decide +kernel)) | ((with_reducible apply wps_loada (T:=58) (k:=7) S 0);(case hx|hi=>rfl);(case hk=>exact nle rfl);(case hT=>decide +kernel)) | ((with_reducible apply wps_build1a (T:=53) (E:=58) S);(case hx=>rfl);(case hr=>intro w;kernel_rfl);clear S;intro bz wz S) | ((with_reducible apply wps_append1 elem_Ev ecells eone (by decide) S 4 (j:=0) (e:=x));(case hx|hy|hi|hj|he=>rfl);(case hl=>omega);clear S;intro az nz cz wz hnz S;simp only [set_cons_succ,set_cons_zero] at S) | ((with_reducible apply wps_store (u:=(.slice az nz cz)) S 5);(case hx|hy|hi|h1=>rfl);(case hn=>exact nle rfl);(case hT=>decide +kernel);clear S;intro wz S;simp only [set_cons_succ,set_cons_zero,setIfInBounds_toArray] at S)
    refine hK2 _ _ ?_
    clear hK2 K2
    exact ⟨_,⟨_,_,HF2.symm,rfl⟩,S.pick [2,3,4,5,6,7,8,9] rfl⟩
  · have f1 : decide (x.key.at_ < below) = false:=decide_eq_false hlt
    rw [if_neg (by rw [f1];decide),List.append_nil] at HF2
    clear hlt hx
    gi_wp2_with first
     | (refine wpi_at (.inr ⟨_,rfl⟩) rfl fun K hK=>?_
        go_wp2_with first | ((with_reducible apply wps_alloca (E:=58) S);(case hz=>exact Tryz.zeroValue58);clear S;intro b6 wz S) | ((with_reducible apply wps_storea (T:=58) S 0 (vs:=[.int .i64 x.key.at_,.int .i64 x.key.src,.int .i64 x.key.sent,.int .i64 x.key.no,.int .i64 x.dst,.int .i64 x.kind,.int .i64 x.data]) (m:=7));(case hx|hy|hi|hm|h1=>rfl);(case hn=>exact nle rfl);(case hT=>decide +kernel);clear S;intro wz S;simp only [set_cons_zero,set_cons_succ,setAll,setIfInBounds_toArray] at S)
        refine hK _ _ ?_
        (try simp only [Act.put]);(try simp only [setIfInBounds_toArray]);(try simp only [set_cons_succ]);(try simp only [set_cons_zero])
        clear hK K)
    refine ⟨_,S.lastSplit rfl,fun r' W2 S=>?_⟩
    simp only [List.dropLast,cons_append,nil_append] at S
    refine wpIn_block (wpIn_seq_nK fun K hK=>wpi_list_k (.inr ⟨_,rfl⟩) rfl fun K2 hK2=>?_)
    go_wp2_with first | ((with_reducible apply wps_load S 0);(case hx|hi|hu=>rfl);(case hT=>decide +kernel)) | ((with_reducible apply wps_load S 5);(case hx|hi|hu=>rfl);(case hT=>decide +kernel))
    refine hK2 _ _ (hK _ _ ?_)
    clear hK hK2 K K2
    refine wpIn_cond_false (by first | rfl | (simp [Act.eval,f1];done)) (wpIn_skip ?_)
    exact ⟨_,⟨_,_,HF2.symm,rfl⟩,S.pick [1,2,3,4,5,6,7,8] rfl⟩
 case done=>
  rintro D W L ⟨lv,lo,HLO,rfl⟩ S
  simp only [cons_append,nil_append] at S
  rw [List.take_length] at HLO
  have hlo : lo.length ≤ l.length:=by rw [HLO.out];exact List.length_filter_le ..
  obtain ⟨a3,c3,rfl,_⟩:=(S.ownsl ecells 3 rfl).elim fun _ h=>h.form
  have HE : Hid (dropE below l = l.take 0 ++ l.drop lo.length):=Lib.hid (by unfold dropE;rw [← HLO.out];rfl)
  obtain ⟨l2,HL2⟩ : ∃ l2,Hid (l.take 0 ++ l.drop lo.length = l2):=⟨_,rfl⟩
  have HD:=Lib.hid fun w F S0=>dele_calls v1 l 0 lo.length w F S0 (Nat.zero_le _) hlo hn
  rw [HL2.out,show ((0 : Nat) : Int) = 0 from rfl] at HD
  have hoc : v1.oneCell' = true:=by obtain ⟨a,c,rfl,_⟩:=(S.ownsl ecells 2 rfl).elim fun _ h=>h.form;rfl
  clear HLO hlo
  replace S:=S.pick [0,1,3,4,5,6,2,7] rfl
  simp only [pick,nth] at S
  go_wp2_with fail
  (refine wp_region_wt (soft:=[0,1,2,3,4,5,7,8]) (L:=[_,_,_,_,_,_]) (T:=[_,_]) S ?hm ?hB ?_);(case hm=>kernel_rfl);(case hB=>decide +kernel);clear S
  iterate 8
   (with_reducible apply softs_cons)
   (case hw=>
     (with_reducible apply soft_of);(case hi=>rfl)
     intro T wz S
     simp only [cons_append,nil_append] at S
     go_wp2_with first | ((with_reducible apply wps_load S 3);(case hx|hi|hu=>rfl);(case hT=>decide +kernel)) | ((with_reducible refine tot_done ?ht ?_);(case ht=>kernel_rfl))
     exact ⟨rfl,S⟩)
   (case hs=>exact ⟨_,rfl,by kernel_rfl⟩)
  refine softs_nil ?_
  (with_reducible apply W_hard1 (i:=6));(case hn=>rfl);(case hr=>decide +kernel)
  intro wz S
  (with_reducible apply hard_of);(case hi=>rfl)
  simp only [cons_append,nil_append] at S
  go_wp2_with first | ((with_reducible apply wps_load S 7);(case hx|hi|hu=>rfl);(case hT=>decide +kernel)) | ((with_reducible refine tot_done ?ht ?_);(case ht=>kernel_rfl))
  refine ⟨_,S,?_⟩
  clear S
  (with_reducible apply W_hard1 (i:=9));(case hn=>rfl);(case hr=>decide +kernel)
  intro wz S
  (with_reducible apply hard_of);(case hi=>rfl)
  simp only [cons_append,nil_append] at S
  go_wp2_with first | (go_at_call 196;obtain ⟨Fz,hF,hBk⟩:=S.lend [6] [] [0,1,2,3,4,5,7] rfl rfl rfl;simp only [cons_append,nil_append,pick,nth] at hF hBk;refine Calls.mono (HD.out _ _ hF) ?_;rintro rr wz ⟨a2,c2,rfl,T⟩;replace S:=(hBk _ _ T rfl).pick [1,2,3,4,5,6,0,7] rfl;clear hBk hF T;simp only [cons_append,nil_append,pick,nth] at S) | ((with_reducible refine tot_done ?ht ?_);(case ht=>kernel_rfl))
  refine ⟨_,S,?_⟩
  clear S
  (refine W_mid (f:=1) (soft:=[10,11,12,13]) rfl ?hB ?_);(case hB=>decide +kernel)
  iterate 4
   (with_reducible apply softs_cons)
   (case hw=>
     (with_reducible apply soft_of);(case hi=>rfl)
     intro T wz S
     simp only [cons_append,nil_append] at S
     go_wp2_with first | ((with_reducible refine tot_done ?ht ?_);(case ht=>kernel_rfl))
     exact ⟨rfl,S⟩)
   (case hs=>exact ⟨_,rfl,by kernel_rfl⟩)
  refine softs_nil ?_
  (with_reducible apply W_hard1 (i:=14));(case hn=>rfl);(case hr=>decide +kernel)
  intro wz S
  (with_reducible apply hard_of);(case hi=>rfl)
  simp only [cons_append,nil_append] at S
  go_wp2_with first | ((with_reducible apply wps_store (u:=(.slice a2 l2.length c2)) S 7);(case hx|hy|hi|h1=>rfl);(case hn=>exact nle rfl);(case hT=>decide +kernel);clear S;intro wz S;simp only [set_cons_succ,set_cons_zero,setIfInBounds_toArray] at S) | ((with_reducible refine tot_done ?ht ?_);(case ht=>kernel_rfl))
  refine ⟨_,S,?_⟩
  clear S
  (with_reducible apply W_done);(case hn=>rfl);(case hr=>decide +kernel)
  intro wz S
  repeat (first | simp only at S | simp only [pick] at S | simp only [nth] at S | simp only [set_cons_succ] at S | simp only [set_cons_zero] at S | simp only [setIfInBounds_toArray] at S | simp only [setAll] at S | simp only [cons_append] at S | simp only [nil_append] at S | simp only [List.append_nil] at S)
  all_goals
   go_wp2_with first | ((with_reducible apply wps_load S 3);(case hx|hi|hu=>rfl);(case hT=>decide +kernel))
   refine leaves_ret1 S rfl fun w' S=>⟨_,results1 rfl (res_tmp rfl),_,rfl,?_⟩
   rw [HE.out,HL2.out]
   exact queue_close (S.pick [5,4,6] rfl)
end Go.Proofs.YtmjljoaakdocaaaGreatDoor
