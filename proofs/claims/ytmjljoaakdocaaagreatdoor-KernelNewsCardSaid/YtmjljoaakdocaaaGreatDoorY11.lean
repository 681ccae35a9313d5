import Derived.Test.YtmjljoaakdocaaaGreatDoorY09
import Derived.Deep.Cut
import Derived.Test.YtmjljoaakdocaaaGreatDoorY10
/- The walks of the net's those, To and All. -/
set_option maxHeartbeats 16000000
set_option maxRecDepth 100000
namespace Go.Proofs.YtmjljoaakdocaaaGreatDoor
open Go Go.RowKit Reg Mem
open List (set_cons_succ set_cons_zero setIfInBounds_toArray cons_append nil_append)
theorem to1_calls (bt : Nat) (t : Int) (x : PkE) (w : World) (F : Nat → Prop) (h : (Blk true bt #[.int .i64 t] 3).at_ w F) :
 Calls Tryz.prog 63 #[.agg #[.int .i64 x.no,.int .i64 x.from_,.int .i64 x.to_,.int .i64 x.x.kind,.int .i64 x.x.m.ev.key.at_,.int .i64 x.x.m.ev.key.src,.int .i64 x.x.m.ev.key.sent,.int .i64 x.x.m.ev.key.no,.int .i64 x.x.m.ev.dst,.int .i64 x.x.m.ev.kind,.int .i64 x.x.m.ev.data,.bool x.x.m.anti,.int .i64 x.x.no,.int .i64 x.x.at_],.pointer (some ⟨bt,0,none⟩)] w fun e w'=>e = .returned (.bool (x.to_ == t)) ∧ Below w.heap.size w w':=by
 have S : St (fun _=>False) w w [Blk true bt #[.int .i64 t] 3]:=(St.init _ w).share rfl rfl h
 clear h
 go_enter Tryz.func63,Tryz.ntmps63
 go_wp2_with first | ((with_reducible apply wps_boxa (E:=100) S);(case hx=>rfl);clear S;intro b2 wz S) | ((with_reducible apply wps_load S 0);(case hx|hi|hu=>rfl);(case hT=>decide +kernel)) | ((with_reducible apply wps_load S 1);(case hx|hi|hu=>rfl);(case hT=>decide +kernel))
 go_ret
 exact ⟨rfl,S.below⟩
theorem all1_calls (x : PkE) (w : World) : Calls Tryz.prog 61 #[.agg #[.int .i64 x.no,.int .i64 x.from_,.int .i64 x.to_,.int .i64 x.x.kind,.int .i64 x.x.m.ev.key.at_,.int .i64 x.x.m.ev.key.src,.int .i64 x.x.m.ev.key.sent,.int .i64 x.x.m.ev.key.no,.int .i64 x.x.m.ev.dst,.int .i64 x.x.m.ev.kind,.int .i64 x.x.m.ev.data,.bool x.x.m.anti,.int .i64 x.x.no,.int .i64 x.x.at_]] w fun e w'=>e = .returned (.bool true) ∧ Below w.heap.size w w':=by
 have S:=St.init (fun _=>False) w
 go_enter Tryz.func61,Tryz.ntmps61
 go_wp2_with first | ((with_reducible apply wps_boxa (E:=100) S);(case hx=>rfl);clear S;intro b2 wz S)
 go_ret
 exact ⟨rfl,S.below⟩
def ThosePost (l : List PkE) (w : World) (e : Ending) (w' : World) : Prop:=
 ∃ b v,e = .returned (.func (.func 102) #[] #[.pointer (some ⟨b,0,none⟩)]) ∧ St (fun _=>False) w w' [Blk false b #[v] 145,Mem.Own 100 pkcell 14 v l]
theorem filter_snoc {p : PkE → Bool} {l : List PkE} {j : Nat} {x : PkE} (h : l[j]? = some x) : (l.take (j + 1)).filter p = (l.take j).filter p ++ (if p x = true then [x] else []):=by
 rw [List.take_add_one,h,Option.toList_some,List.filter_append]
 by_cases e : p x = true
 · rw [if_pos e,List.filter_cons_of_pos e];rfl
 · rw [if_neg e,List.filter_cons_of_neg e];rfl
def ThRel (b5 : Nat) (p : PkE → Bool) (l : List PkE) (T : List Asn) (w : World) (i : Value) (wr : World) : Prop:=
 ∃ (j : Nat) (lv : Value) (lo : List PkE),j ≤ l.length ∧ i = .int .i64 j ∧ Hid (lo = (l.take j).filter p) ∧ St (fun _=>False) w wr (Blk false b5 #[lv] 145 :: Mem.Own 100 pkcell 14 lv lo :: T)
theorem those_to (X : Nat) (n : NetE) (v : Value) (bt : Nat) (t : Int) (hn : n.way.length ≤ 1000000) (w : World) (F F2 F3 : Nat → Prop) (h1 : (Blk true X #[.int .i64 n.boxes,.int .i64 n.next,v] 147).at_ w F) (h2 : (Sl true pkcell 14 v n.way).at_ w F2) (h3 : (Blk true bt #[.int .i64 t] 3).at_ w F3) :
 Calls Tryz.prog 60 #[.pointer (some ⟨X,0,none⟩),.func (.func 63) #[] #[.pointer (some ⟨bt,0,none⟩)]] w (ThosePost (n.way.filter fun x=>x.to_ == t) w):=by
 have S : St (fun _=>False) w w [Blk true X #[.int .i64 n.boxes,.int .i64 n.next,v] 147,Sl true pkcell 14 v n.way,Blk true bt #[.int .i64 t] 3]:=(((St.init _ w).share (A:=Blk true bt #[.int .i64 t] 3) rfl rfl h3).share (A:=Sl true pkcell 14 v n.way) rfl rfl h2).share (A:=Blk true X #[.int .i64 n.boxes,.int .i64 n.next,v] 147) rfl rfl h1
 clear h1 h2 h3
 obtain ⟨ad,c,rfl,_⟩:=(S.sl 1 rfl).elim fun _ h=>h.form
 generalize n.way = l at *
 go_enter Tryz.func60,Tryz.ntmps60
 go_wp2_with first | ((with_reducible apply wps_alloc1 (E:=145) S);(case hz=>exact Tryz.zeroValue145);(case h1=>rfl);clear S;intro b5 wz S) | ((with_reducible apply wps_load S 1);(case hx|hi|hu=>rfl);(case hT=>decide +kernel))
 replace S:=(S.nil 100 pkcell 14).pick [1,0,2,3,4] rfl
 simp only [pick,nth] at S
 go_loopw [15] (fun i wr=>ThRel b5 (fun x=>x.to_ == t) l [Blk true X #[.int .i64 n.boxes,.int .i64 n.next,.slice ad l.length c] 147,Sl true pkcell 14 (.slice ad l.length c) l,Blk true bt #[.int .i64 t] 3] w i wr) (fun i _=>l.length - (intOf i).toNat)
 case atStart=>exact ⟨0,_,[],Nat.zero_le _,rfl,Lib.hid rfl,S⟩
 case round=>
  clear S
  obtain ⟨j,lv,lo,hj,rfl,HLO,S⟩:=hrel
  by_cases hlt : j < l.length
  · obtain ⟨x,hx⟩ : ∃ x,l[j]? = some x:=⟨_,List.getElem?_eq_getElem hlt⟩
    obtain ⟨R,o,rfl⟩ : ∃ R o,ad = some ⟨R,o,none⟩:=(S.sl 3 rfl).elim fun F h=>h.head (by omega)
    have hlt2 : (j : Int) < l.length:=by omega
    have HX:=Lib.hid hx
    have HLO2:=Lib.hid (filter_snoc (p:=fun x=>x.to_ == t) hx)
    rw [← HLO.out] at HLO2
    have hll : lo.length ≤ 1000000:=by rw [HLO.out];exact Nat.le_trans (List.length_filter_le ..) (Nat.le_trans (List.length_take_le ..) (by omega))
    obtain ⟨ao,co,rfl,_⟩:=(S.ownsl pkcells 1 rfl).elim fun _ h=>h.form
    clear hx
    by_cases hp : (x.to_ == t) = true
    · rw [if_pos hp] at HLO2
      go_wp2_with first | ((with_reducible apply wps_loada_el S 3 (hj:=HX.out) (q:=0) (vs:=[.int .i64 x.no,.int .i64 x.from_,.int .i64 x.to_,.int .i64 x.x.kind,.int .i64 x.x.m.ev.key.at_,.int .i64 x.x.m.ev.key.src,.int .i64 x.x.m.ev.key.sent,.int .i64 x.x.m.ev.key.no,.int .i64 x.x.m.ev.dst,.int .i64 x.x.m.ev.kind,.int .i64 x.x.m.ev.data,.bool x.x.m.anti,.int .i64 x.x.no,.int .i64 x.x.at_]) (m:=14));(case hx|hi=>rfl);(case hn=>omega);(case hm|hv=>rfl);(case hT=>decide +kernel)) | ((with_reducible apply wps_alloca (E:=100) S);(case hz=>exact Tryz.zeroValue100);clear S;intro b7 wz S) | ((with_reducible apply wps_storea (T:=100) S 0 (vs:=[.int .i64 x.no,.int .i64 x.from_,.int .i64 x.to_,.int .i64 x.x.kind,.int .i64 x.x.m.ev.key.at_,.int .i64 x.x.m.ev.key.src,.int .i64 x.x.m.ev.key.sent,.int .i64 x.x.m.ev.key.no,.int .i64 x.x.m.ev.dst,.int .i64 x.x.m.ev.kind,.int .i64 x.x.m.ev.data,.bool x.x.m.anti,.int .i64 x.x.no,.int .i64 x.x.at_]) (m:=14));(case hx|hy|hi|hm|h1=>rfl);(case hn=>exact nle rfl);(case hT=>decide +kernel);clear S;intro wz S;simp only [set_cons_zero,set_cons_succ,setAll,setIfInBounds_toArray] at S) | ((with_reducible apply wps_loada (T:=100) (k:=14) S 0);(case hx|hi=>rfl);(case hk=>exact nle rfl);(case hT=>decide +kernel)) | (go_at_call 63;refine Calls.mono (to1_calls bt t x _ _ (S.get (i:=5) rfl).choose_spec) ?_;rintro e wz ⟨rfl,hE⟩;replace S:=S.ext (Keep.of_below hE);clear hE) | ((with_reducible apply wps_load S 1);(case hx|hi|hu=>rfl);(case hT=>decide +kernel)) | ((with_reducible apply wps_build1a (T:=145) (E:=100) S);(case hx=>rfl);(case hr=>intro w;kernel_rfl);clear S;intro bz wz S) | ((with_reducible apply wps_append1 elem_Pk pkcells pkone (by decide) S 3 (j:=0) (e:=x));(case hx|hy|hi|hj|he=>rfl);(case hl=>first | omega | (simp;omega));clear S;intro az nz cz wz hnz S;simp only [set_cons_succ,set_cons_zero] at S) | ((with_reducible apply wps_store (u:=(.slice az nz cz)) S 2);(case hx|hy|hi|h1=>rfl);(case hn=>exact nle rfl);(case hT=>decide +kernel);clear S;intro wz S;simp only [set_cons_succ,set_cons_zero,setIfInBounds_toArray] at S)
      all_goals try (exfalso;rename_i h;rw [hp] at h;cases h;done)
      replace S:=S.pick [2,3,4,5,6] rfl
      simp only [pick,nth] at S
      go_roundw
      case rel=>exact ⟨j + 1,_,_,by omega,by go_num,Lib.hid HLO2.out.symm,S⟩
      case measure=>first | (simp [intOf];done) | (simp [intOf];omega)
    · have hp2 : (x.to_ == t) = false:=by simpa using hp
      rw [if_neg hp,List.append_nil] at HLO2
      clear hp
      go_wp2_with first | ((with_reducible apply wps_loada_el S 3 (hj:=HX.out) (q:=0) (vs:=[.int .i64 x.no,.int .i64 x.from_,.int .i64 x.to_,.int .i64 x.x.kind,.int .i64 x.x.m.ev.key.at_,.int .i64 x.x.m.ev.key.src,.int .i64 x.x.m.ev.key.sent,.int .i64 x.x.m.ev.key.no,.int .i64 x.x.m.ev.dst,.int .i64 x.x.m.ev.kind,.int .i64 x.x.m.ev.data,.bool x.x.m.anti,.int .i64 x.x.no,.int .i64 x.x.at_]) (m:=14));(case hx|hi=>rfl);(case hn=>omega);(case hm|hv=>rfl);(case hT=>decide +kernel)) | ((with_reducible apply wps_alloca (E:=100) S);(case hz=>exact Tryz.zeroValue100);clear S;intro b7 wz S) | ((with_reducible apply wps_storea (T:=100) S 0 (vs:=[.int .i64 x.no,.int .i64 x.from_,.int .i64 x.to_,.int .i64 x.x.kind,.int .i64 x.x.m.ev.key.at_,.int .i64 x.x.m.ev.key.src,.int .i64 x.x.m.ev.key.sent,.int .i64 x.x.m.ev.key.no,.int .i64 x.x.m.ev.dst,.int .i64 x.x.m.ev.kind,.int .i64 x.x.m.ev.data,.bool x.x.m.anti,.int .i64 x.x.no,.int .i64 x.x.at_]) (m:=14));(case hx|hy|hi|hm|h1=>rfl);(case hn=>exact nle rfl);(case hT=>decide +kernel);clear S;intro wz S;simp only [set_cons_zero,set_cons_succ,setAll,setIfInBounds_toArray] at S) | ((with_reducible apply wps_loada (T:=100) (k:=14) S 0);(case hx|hi=>rfl);(case hk=>exact nle rfl);(case hT=>decide +kernel)) | (go_at_call 63;refine Calls.mono (to1_calls bt t x _ _ (S.get (i:=5) rfl).choose_spec) ?_;rintro e wz ⟨rfl,hE⟩;replace S:=S.ext (Keep.of_below hE);clear hE)
      replace S:=S.pick [1,2,3,4,5] rfl
      simp only [pick,nth] at S
      go_roundw
      case rel=>exact ⟨j + 1,_,lo,by omega,by go_num,Lib.hid HLO2.out.symm,S⟩
      case measure=>first | (simp [intOf];done) | (simp [intOf];omega)
  · obtain rfl : j = l.length:=by omega
    rw [List.take_length] at HLO
    go_wp2_with first | ((with_reducible apply wps_loada (T:=100) (k:=14) S 0);(case hx|hi=>rfl);(case hk=>exact nle rfl);(case hT=>decide +kernel))
    go_ret
    exact ⟨b5,lv,rfl,by rw [← HLO.out];exact S.pick [0,1] rfl⟩
theorem those_all (X : Nat) (n : NetE) (v : Value) (hn : n.way.length ≤ 1000000) (w : World) (F F2 : Nat → Prop) (h1 : (Blk true X #[.int .i64 n.boxes,.int .i64 n.next,v] 147).at_ w F) (h2 : (Sl true pkcell 14 v n.way).at_ w F2) :
 Calls Tryz.prog 60 #[.pointer (some ⟨X,0,none⟩),.func (.func 61) #[] #[]] w (ThosePost (n.way.filter fun x=>true) w):=by
 have S : St (fun _=>False) w w [Blk true X #[.int .i64 n.boxes,.int .i64 n.next,v] 147,Sl true pkcell 14 v n.way]:=((St.init _ w).share (A:=Sl true pkcell 14 v n.way) rfl rfl h2).share (A:=Blk true X #[.int .i64 n.boxes,.int .i64 n.next,v] 147) rfl rfl h1
 clear h1 h2
 obtain ⟨ad,c,rfl,_⟩:=(S.sl 1 rfl).elim fun _ h=>h.form
 generalize n.way = l at *
 go_enter Tryz.func60,Tryz.ntmps60
 go_wp2_with first | ((with_reducible apply wps_alloc1 (E:=145) S);(case hz=>exact Tryz.zeroValue145);(case h1=>rfl);clear S;intro b5 wz S) | ((with_reducible apply wps_load S 1);(case hx|hi|hu=>rfl);(case hT=>decide +kernel))
 replace S:=(S.nil 100 pkcell 14).pick [1,0,2,3] rfl
 simp only [pick,nth] at S
 go_loopw [15] (fun i wr=>ThRel b5 (fun x=>true) l [Blk true X #[.int .i64 n.boxes,.int .i64 n.next,.slice ad l.length c] 147,Sl true pkcell 14 (.slice ad l.length c) l] w i wr) (fun i _=>l.length - (intOf i).toNat)
 case atStart=>exact ⟨0,_,[],Nat.zero_le _,rfl,Lib.hid rfl,S⟩
 case round=>
  clear S
  obtain ⟨j,lv,lo,hj,rfl,HLO,S⟩:=hrel
  by_cases hlt : j < l.length
  · obtain ⟨x,hx⟩ : ∃ x,l[j]? = some x:=⟨_,List.getElem?_eq_getElem hlt⟩
    obtain ⟨R,o,rfl⟩ : ∃ R o,ad = some ⟨R,o,none⟩:=(S.sl 3 rfl).elim fun F h=>h.head (by omega)
    have hlt2 : (j : Int) < l.length:=by omega
    have HX:=Lib.hid hx
    have HLO2:=Lib.hid (filter_snoc (p:=fun x=>true) hx)
    rw [← HLO.out] at HLO2
    have hll : lo.length ≤ 1000000:=by rw [HLO.out];exact Nat.le_trans (List.length_filter_le ..) (Nat.le_trans (List.length_take_le ..) (by omega))
    obtain ⟨ao,co,rfl,_⟩:=(S.ownsl pkcells 1 rfl).elim fun _ h=>h.form
    clear hx
    rw [if_pos rfl] at HLO2
    go_wp2_with first | ((with_reducible apply wps_loada_el S 3 (hj:=HX.out) (q:=0) (vs:=[.int .i64 x.no,.int .i64 x.from_,.int .i64 x.to_,.int .i64 x.x.kind,.int .i64 x.x.m.ev.key.at_,.int .i64 x.x.m.ev.key.src,.int .i64 x.x.m.ev.key.sent,.int .i64 x.x.m.ev.key.no,.int .i64 x.x.m.ev.dst,.int .i64 x.x.m.ev.kind,.int .i64 x.x.m.ev.data,.bool x.x.m.anti,.int .i64 x.x.no,.int .i64 x.x.at_]) (m:=14));(case hx|hi=>rfl);(case hn=>omega);(case hm|hv=>rfl);(case hT=>decide +kernel)) | ((with_reducible apply wps_alloca (E:=100) S);(case hz=>exact Tryz.zeroValue100);clear S;intro b7 wz S) | ((with_reducible apply wps_storea (T:=100) S 0 (vs:=[.int .i64 x.no,.int .i64 x.from_,.int .i64 x.to_,.int .i64 x.x.kind,.int .i64 x.x.m.ev.key.at_,.int .i64 x.x.m.ev.key.src,.int .i64 x.x.m.ev.key.sent,.int .i64 x.x.m.ev.key.no,.int .i64 x.x.m.ev.dst,.int .i64 x.x.m.ev.kind,.int .i64 x.x.m.ev.data,.bool x.x.m.anti,.int .i64 x.x.no,.int .i64 x.x.at_]) (m:=14));(case hx|hy|hi|hm|h1=>rfl);(case hn=>exact nle rfl);(case hT=>decide +kernel);clear S;intro wz S;simp only [set_cons_zero,set_cons_succ,setAll,setIfInBounds_toArray] at S) | ((with_reducible apply wps_loada (T:=100) (k:=14) S 0);(case hx|hi=>rfl);(case hk=>exact nle rfl);(case hT=>decide +kernel)) | (go_at_call 61;refine Calls.mono (all1_calls x _) ?_;rintro e wz ⟨rfl,hE⟩;replace S:=S.ext (Keep.of_below hE);clear hE) | ((with_reducible apply wps_load S 1);(case hx|hi|hu=>rfl);(case hT=>decide +kernel)) | ((with_reducible apply wps_build1a (T:=145) (E:=100) S);(case hx=>rfl);(case hr=>intro w;kernel_rfl);clear S;intro bz wz S) | ((with_reducible apply wps_append1 elem_Pk pkcells pkone (by decide) S 3 (j:=0) (e:=x));(case hx|hy|hi|hj|he=>rfl);(case hl=>first | omega | (simp;omega));clear S;intro az nz cz wz hnz S;simp only [set_cons_succ,set_cons_zero] at S) | ((with_reducible apply wps_store (u:=(.slice az nz cz)) S 2);(case hx|hy|hi|h1=>rfl);(case hn=>exact nle rfl);(case hT=>decide +kernel);clear S;intro wz S;simp only [set_cons_succ,set_cons_zero,setIfInBounds_toArray] at S)
    replace S:=S.pick [2,3,4,5] rfl
    simp only [pick,nth] at S
    go_roundw
    case rel=>exact ⟨j + 1,_,_,by omega,by go_num,Lib.hid HLO2.out.symm,S⟩
    case measure=>first | (simp [intOf];done) | (simp [intOf];omega)
  · obtain rfl : j = l.length:=by omega
    rw [List.take_length] at HLO
    go_wp2_with first | ((with_reducible apply wps_loada (T:=100) (k:=14) S 0);(case hx|hi=>rfl);(case hk=>exact nle rfl);(case hT=>decide +kernel))
    go_ret
    exact ⟨b5,lv,rfl,by rw [← HLO.out];exact S.pick [0,1] rfl⟩
def MadeP (x : PkE) (args : Array Value) (N : List Asn) : Prop:=args = #[.agg #[.int .i64 x.no,.int .i64 x.from_,.int .i64 x.to_,.int .i64 x.x.kind,.int .i64 x.x.m.ev.key.at_,.int .i64 x.x.m.ev.key.src,.int .i64 x.x.m.ev.key.sent,.int .i64 x.x.m.ev.key.no,.int .i64 x.x.m.ev.dst,.int .i64 x.x.m.ev.kind,.int .i64 x.x.m.ev.data,.bool x.x.m.anti,.int .i64 x.x.no,.int .i64 x.x.at_]] ∧ N = []
def TiRel (b : Nat) (v : Value) (l : List PkE) (G : Nat → Prop) (w0 : World) (Φ : Nat → List Asn → Prop) (i : Value) (wr : World) : Prop:=
 ∃ (k : Nat) (L : List Asn),k ≤ l.length ∧ i = .int .i64 k ∧ Φ k L ∧ St G w0 wr (Blk true b #[v] 145 :: Sl true pkcell 14 v l :: L)
theorem those1_iter (b : Nat) (v : Value) (l : List PkE) (hn : l.length ≤ 1000000) : IterC Tryz.prog 102 #[.pointer (some ⟨b,0,none⟩)] [Blk true b #[v] 145,Sl true pkcell 14 v l] l MadeP:=by
 intro y G w0 W Φ Ψ L hY h0 S
 simp only [cons_append,nil_append] at S
 show Calls Tryz.prog 102 #[.func (.yield y) #[] #[],.pointer (some ⟨b,0,none⟩)] W _
 obtain ⟨ad,c,rfl,_⟩:=(S.sl 1 rfl).elim fun _ h=>h.form
 have HY:=Lib.hid hY
 clear hY
 go_enter Tryz.func102,Tryz.ntmps102
 go_wp2_with first | ((with_reducible apply wps_load S 0);(case hx|hi|hu=>rfl);(case hT=>decide +kernel))
 go_loopw [7] (fun i wr=>TiRel b (.slice ad l.length c) l G w0 Φ i wr) (fun i _=>l.length - (intOf i).toNat)
 case atStart=>exact ⟨0,L,Nat.zero_le _,rfl,h0,S⟩
 case round=>
  clear S h0
  obtain ⟨k,L,hk,rfl,hΦ,S⟩:=hrel
  by_cases hlt : k < l.length
  · obtain ⟨x,hx⟩ : ∃ x,l[k]? = some x:=⟨_,List.getElem?_eq_getElem hlt⟩
    obtain ⟨R,o,rfl⟩ : ∃ R o,ad = some ⟨R,o,none⟩:=(S.sl 1 rfl).elim fun F h=>h.head (by omega)
    have hlt2 : (k : Int) < l.length:=by omega
    have Hx:=Lib.hid hx
    have HΦ:=Lib.hid hΦ
    clear hx hΦ
    go_upto_region 3 with first | ((with_reducible apply wps_loada_el S 1 (hj:=Hx.out) (q:=0) (vs:=[.int .i64 x.no,.int .i64 x.from_,.int .i64 x.to_,.int .i64 x.x.kind,.int .i64 x.x.m.ev.key.at_,.int .i64 x.x.m.ev.key.src,.int .i64 x.x.m.ev.key.sent,.int .i64 x.x.m.ev.key.no,.int .i64 x.x.m.ev.dst,.int .i64 x.x.m.ev.kind,.int .i64 x.x.m.ev.data,.bool x.x.m.anti,.int .i64 x.x.no,.int .i64 x.x.at_]) (m:=14));(case hx|hi=>rfl);(case hn=>omega);(case hm|hv=>rfl);(case hT=>decide +kernel)) | ((with_reducible apply wps_alloca (E:=100) S);(case hz=>exact Tryz.zeroValue100);clear S;intro b4 wz S) | ((with_reducible apply wps_storea (T:=100) S 0 (vs:=[.int .i64 x.no,.int .i64 x.from_,.int .i64 x.to_,.int .i64 x.x.kind,.int .i64 x.x.m.ev.key.at_,.int .i64 x.x.m.ev.key.src,.int .i64 x.x.m.ev.key.sent,.int .i64 x.x.m.ev.key.no,.int .i64 x.x.m.ev.dst,.int .i64 x.x.m.ev.kind,.int .i64 x.x.m.ev.data,.bool x.x.m.anti,.int .i64 x.x.no,.int .i64 x.x.at_]) (m:=14));(case hx|hy|hi|hm|h1=>rfl);(case hn=>exact nle rfl);(case hT=>decide +kernel);clear S;intro wz S;simp only [set_cons_zero,set_cons_succ,setAll,setIfInBounds_toArray] at S)
    refine wp_region_yl 2 rfl rfl rfl fun K hK=>?_
    simp only [List.take_succ_cons,List.take_zero]
    simp only [List.drop_succ_cons,List.drop_zero] at hK
    go_wp2_with first | ((with_reducible apply wps_loada (T:=100) (k:=14) S 0);(case hx|hi=>rfl);(case hk=>exact nle rfl);(case hT=>decide +kernel))
    refine hK _ _ ?_
    clear hK K
    (try simp only [Act.put]);(try simp only [setIfInBounds_toArray]);(try simp only [set_cons_succ]);(try simp only [set_cons_zero])
    refine yield_in (l:=y) rfl rfl rfl rfl rfl (HY.out k x _ [] L _ Hx.out ⟨rfl,rfl⟩ HΦ.out (St.tail S)) ?_
    rintro e w' ⟨L',S,(⟨rfl,hΦ'⟩ | ⟨rfl,hΨ⟩)⟩
    · refine ⟨_,rfl,?_⟩
      refine list_only rfl fun K hK=>?_
      go_wp2_with first | ((with_reducible apply wps_loada (T:=100) (k:=14) S 0);(case hx|hi=>rfl);(case hk=>exact nle rfl);(case hT=>decide +kernel))
      refine hK _ _ ?_
      clear hK K
      have HΦ':=Lib.hid hΦ'
      clear hΦ'
      go_wp2_with first | ((with_reducible apply wps_loada (T:=100) (k:=14) S 0);(case hx|hi=>rfl);(case hk=>exact nle rfl);(case hT=>decide +kernel))
      go_roundw
      case rel=>exact ⟨k + 1,L',by omega,by go_num,HΦ'.out,S⟩
      case measure=>first | (simp [intOf];done) | (simp [intOf];omega)
    · refine ⟨_,rfl,?_⟩
      refine list_only rfl fun K hK=>?_
      go_wp2_with first | ((with_reducible apply wps_loada (T:=100) (k:=14) S 0);(case hx|hi=>rfl);(case hk=>exact nle rfl);(case hT=>decide +kernel))
      refine hK _ _ ?_
      clear hK K
      have HΨ:=Lib.hid hΨ
      clear hΨ
      go_wp2_with first | ((with_reducible apply wps_loada (T:=100) (k:=14) S 0);(case hx|hi=>rfl);(case hk=>exact nle rfl);(case hT=>decide +kernel))
      (try simp only [Exit.inBlock,Exit.then]);refine bodyPost_ret (results_none rfl _ _ _) rfl ?_
      exact ⟨⟨_,rfl⟩,L',S,.inr ⟨k + 1,by omega,HΨ.out⟩⟩
  · obtain rfl : k = l.length:=by omega
    have HΦ:=Lib.hid hΦ
    clear hΦ
    go_wp2_with first | ((with_reducible apply wps_loada (T:=100) (k:=14) S 0);(case hx|hi=>rfl);(case hk=>exact nle rfl);(case hT=>decide +kernel))
    go_end0
    exact ⟨⟨_,rfl⟩,L,S,.inl HΦ.out⟩
theorem netto_calls (X : Nat) (n : NetE) (v : Value) (t : Int) (hn : n.way.length ≤ 1000000) (w : World) (F F2 : Nat → Prop) (h1 : (Blk true X #[.int .i64 n.boxes,.int .i64 n.next,v] 147).at_ w F) (h2 : (Sl true pkcell 14 v n.way).at_ w F2) :
 Calls Tryz.prog 37 #[.pointer (some ⟨X,0,none⟩),.int .i64 t] w (ThosePost (n.way.filter fun x=>x.to_ == t) w):=by
 have S : St (fun _=>False) w w [Blk true X #[.int .i64 n.boxes,.int .i64 n.next,v] 147,Sl true pkcell 14 v n.way]:=((St.init _ w).share (A:=Sl true pkcell 14 v n.way) rfl rfl h2).share (A:=Blk true X #[.int .i64 n.boxes,.int .i64 n.next,v] 147) rfl rfl h1
 clear h1 h2
 have HT:=Lib.hid fun bt w F F2 F3 h1 h2 h3=>those_to X n v bt t hn w F F2 F3 h1 h2 h3
 go_enter Tryz.func37,Tryz.ntmps37
 go_wp2_with first | ((with_reducible apply wps_box1 (v:=.int _ t) S);(case hx|h1=>rfl);clear S;intro b3 wz S) | (go_at_call 60;refine Calls.mono (HT.out b3 _ _ _ _ (S.get (i:=1) rfl).choose_spec (S.get (i:=2) rfl).choose_spec (S.get (i:=0) rfl).choose_spec) ?_;rintro rr wz ⟨b,v2,rfl,T⟩;replace S:=S.join T rfl;clear T;simp only [cons_append,nil_append] at S)
 go_ret
 exact ⟨b,v2,rfl,S.pick [0,1] rfl⟩
theorem netall_calls (X : Nat) (n : NetE) (v : Value) (hn : n.way.length ≤ 1000000) (w : World) (F F2 : Nat → Prop) (h1 : (Blk true X #[.int .i64 n.boxes,.int .i64 n.next,v] 147).at_ w F) (h2 : (Sl true pkcell 14 v n.way).at_ w F2) :
 Calls Tryz.prog 34 #[.pointer (some ⟨X,0,none⟩)] w (ThosePost n.way w):=by
 have S : St (fun _=>False) w w [Blk true X #[.int .i64 n.boxes,.int .i64 n.next,v] 147,Sl true pkcell 14 v n.way]:=((St.init _ w).share (A:=Sl true pkcell 14 v n.way) rfl rfl h2).share (A:=Blk true X #[.int .i64 n.boxes,.int .i64 n.next,v] 147) rfl rfl h1
 clear h1 h2
 have HT:=Lib.hid fun w F F2 h1 h2=>those_all X n v hn w F F2 h1 h2
 rw [show (n.way.filter fun _=>true) = n.way from List.filter_eq_self.2 fun _ _=>rfl] at HT
 go_enter Tryz.func34,Tryz.ntmps34
 go_wp2_with first | (go_at_call 60;refine Calls.mono (HT.out _ _ _ (S.get (i:=0) rfl).choose_spec (S.get (i:=1) rfl).choose_spec) ?_;rintro rr wz ⟨b,v2,rfl,T⟩;replace S:=S.join T rfl;clear T;simp only [cons_append,nil_append] at S)
 go_ret
 exact ⟨b,v2,rfl,S.pick [0,1] rfl⟩
end Go.Proofs.YtmjljoaakdocaaaGreatDoor
