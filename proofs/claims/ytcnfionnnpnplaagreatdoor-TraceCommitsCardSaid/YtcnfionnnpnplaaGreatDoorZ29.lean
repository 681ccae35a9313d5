import Derived.Test.YtcnfionnnpnplaaGreatDoorZ17
import Derived.Test.YtcnfionnnpnplaaGreatDoorZ26
import Derived.Test.YtcnfionnnpnplaaGreatDoorZ14
import Derived.Test.YtcnfionnnpnplaaGreatDoorZ21
/- The walks of slices.IndexFunc and slices.DeleteFunc of events, by their times. -/
set_option maxHeartbeats 16000000
set_option maxRecDepth 100000
namespace Go.Proofs.YtcnfionnnpnplaaGreatDoor
open Go Go.RowKit Reg Mem
open List (set_cons_succ set_cons_zero setIfInBounds_toArray cons_append nil_append)
theorem zero_Ev : zeroIs Tryz.prog 56 7 (Event.cells ⟨⟨0,0,0,0⟩,0,0,0⟩):=⟨_,.agg #[.int .i64 0,.int .i64 0,.int .i64 0,.int .i64 0,.int .i64 0,.int .i64 0,.int .i64 0],rfl,by kernel_rfl,by kernel_rfl,rfl,by decide⟩
theorem sizeEv (w : World) : (sizeOf 56).run Tryz.prog w = .ok 7 w:=by kernel_rfl
theorem holds1_calls (b3 : Nat) (u : Int) (x : Event) (q : Bool) (hq : decide (x.key.at_ < u) = q) (w : World) (F : Nat → Prop) (h : (Blk true b3 #[.int .i64 u] 3).at_ w F) : Calls Tryz.prog 42 #[.agg #[.int .i64 x.key.at_,.int .i64 x.key.src,.int .i64 x.key.sent,.int .i64 x.key.no,.int .i64 x.dst,.int .i64 x.kind,.int .i64 x.data],.pointer (some ⟨b3,0,none⟩)] w fun e w'=>e = .returned (.bool (!q)) ∧ Below w.heap.size w w':=by
 have S : St (fun _=>False) w w [Blk true b3 #[.int .i64 u] 3]:=(St.init _ w).share rfl rfl h
 clear h
 cases q with
 | true=>
   have f1 : decide (x.key.at_ ≥ u) = false:=decide_eq_false (by have:=of_decide_eq_true hq;omega)
   have f2 : decide (u ≤ x.key.at_) = false:=decide_eq_false (by have:=of_decide_eq_true hq;omega)
   clear hq
   go_enter Tryz.func42,Tryz.ntmps42
   go_wp2_with first | ((with_reducible apply wps_boxa (E:=56) S);(case hx=>rfl);clear S;intro b2 wz S) | ((with_reducible apply wps_load S 1);(case hx|hi|hu=>rfl);(case hT=>decide +kernel)) | ((with_reducible apply wps_load S 0);(case hx|hi|hu=>rfl);(case hT=>decide +kernel))
   go_ret
   exact ⟨ret_bool (by simp_all),S.below⟩
 | false=>
   have f1 : decide (x.key.at_ ≥ u) = true:=decide_eq_true (by have:=of_decide_eq_false hq;omega)
   have f2 : decide (u ≤ x.key.at_) = true:=decide_eq_true (by have:=of_decide_eq_false hq;omega)
   clear hq
   go_enter Tryz.func42,Tryz.ntmps42
   go_wp2_with first | ((with_reducible apply wps_boxa (E:=56) S);(case hx=>rfl);clear S;intro b2 wz S) | ((with_reducible apply wps_load S 1);(case hx|hi|hu=>rfl);(case hT=>decide +kernel)) | ((with_reducible apply wps_load S 0);(case hx|hi|hu=>rfl);(case hT=>decide +kernel))
   go_ret
   exact ⟨ret_bool (by simp_all),S.below⟩
def IdxPost (l : List Event) (u : Int) (w : World) (e : Ending) (w' : World) : Prop:=
 ((∃ (i : Nat) (x : Event),e = .returned (.int .i64 i) ∧ l[i]? = some x ∧ ¬ x.key.at_ < u ∧ ∀ (q : Nat) y,q < i → l[q]? = some y → y.key.at_ < u) ∨ (e = .returned (.int .i64 (-1)) ∧ ∀ y ∈ l,y.key.at_ < u)) ∧ Below w.heap.size w w'
def IdxRel (L : List Asn) (l : List Event) (u : Int) (w : World) (i : Value) (wr : World) : Prop:=
 ∃ j : Nat,j ≤ l.length ∧ i = .int .i64 j ∧ Hid (∀ (q : Nat) y,q < j → l[q]? = some y → y.key.at_ < u) ∧ St (fun _=>False) w wr L
theorem idxf_calls (b3 : Nat) (u : Int) (v : Value) (l : List Event) (w : World) (F F2 : Nat → Prop) (h : (Sl true Event.cells 7 v l).at_ w F) (h2 : (Blk true b3 #[.int .i64 u] 3).at_ w F2) (hn : l.length ≤ 4294967296) :
 Calls Tryz.prog 66 #[v,.func (.func 42) #[] #[.pointer (some ⟨b3,0,none⟩)]] w (IdxPost l u w):=by
 have S : St (fun _=>False) w w [Sl true Event.cells 7 v l,Blk true b3 #[.int .i64 u] 3]:=((St.init _ w).share rfl rfl h2).share (A:=Sl true Event.cells 7 v l) rfl rfl h
 clear h h2
 obtain ⟨ad,c,rfl,_⟩:=(S.sl 0 rfl).elim fun _ h=>h.form
 have hn2 : (l.length : Int) ≤ 4294967296:=by omega
 go_enter Tryz.func66,Tryz.ntmps66
 go_wp2_with first | ((with_reducible apply wps_loada (T:=56) (k:=7) S 0);(case hx|hi=>rfl);(case hk=>exact nle rfl);(case hT=>decide +kernel))
 go_loopw [8] (fun i wr=>IdxRel _ l u w i wr) (fun i _=>l.length - (intOf i).toNat)
 case atStart=>exact ⟨0,Nat.zero_le _,rfl,Lib.hid (fun q y h=>by omega),S⟩
 case round=>
  clear S
  obtain ⟨j,hj,rfl,HL,S⟩:=hrel
  by_cases hlt : j < l.length
  · obtain ⟨x,hx⟩ : ∃ x,l[j]? = some x:=⟨_,List.getElem?_eq_getElem hlt⟩
    obtain ⟨R,o,rfl⟩ : ∃ R o,ad = some ⟨R,o,none⟩:=(S.sl 0 rfl).elim fun F h=>h.head (by omega)
    have hlt2 : (j : Int) < l.length:=by omega
    have HX:=Lib.hid hx
    obtain ⟨q,hq⟩ : ∃ q,decide (x.key.at_ < u) = q:=⟨_,rfl⟩
    have HH:=Lib.hid fun w F h=>holds1_calls b3 u x q hq w F h
    clear hx
    cases q with
    | true=>
      have HL2 : Hid (∀ (q : Nat) y,q < j + 1 → l[q]? = some y → y.key.at_ < u):=Lib.hid fun q y hq2 hy=>by
       rcases Nat.lt_or_ge q j with h | h
       · exact HL.out q y h hy
       · obtain rfl : q = j:=by omega
         rw [HX.out] at hy;cases hy;exact of_decide_eq_true hq
      clear hq
      go_wp2_with first | ((with_reducible apply wps_loada_el S 0 (hj:=HX.out) (q:=0) (vs:=[.int .i64 x.key.at_,.int .i64 x.key.src,.int .i64 x.key.sent,.int .i64 x.key.no,.int .i64 x.dst,.int .i64 x.kind,.int .i64 x.data]) (m:=7));(case hx|hi=>rfl);(case hn=>omega);(case hm|hv=>rfl);(case hT=>decide +kernel)) | (go_at_call 42;refine Calls.mono (HH.out _ _ (S.get (i:=1) rfl).choose_spec) ?_;rintro e wz ⟨rfl,hE⟩;replace S:=S.ext (Keep.of_below hE);clear hE)
      go_roundw
      case rel=>exact ⟨j + 1,by omega,by go_num,HL2,S⟩
      case measure=>simp [intOf];omega
    | false=>
      have HQ:=Lib.hid (of_decide_eq_false hq)
      clear hq
      go_wp2_with first | ((with_reducible apply wps_loada_el S 0 (hj:=HX.out) (q:=0) (vs:=[.int .i64 x.key.at_,.int .i64 x.key.src,.int .i64 x.key.sent,.int .i64 x.key.no,.int .i64 x.dst,.int .i64 x.kind,.int .i64 x.data]) (m:=7));(case hx|hi=>rfl);(case hn=>omega);(case hm|hv=>rfl);(case hT=>decide +kernel)) | (go_at_call 42;refine Calls.mono (HH.out _ _ (S.get (i:=1) rfl).choose_spec) ?_;rintro e wz ⟨rfl,hE⟩;replace S:=S.ext (Keep.of_below hE);clear hE)
      go_ret
      exact ⟨.inl ⟨j,x,rfl,HX.out,by have:=HQ.out;omega,HL.out⟩,S.below⟩
  · obtain rfl : j = l.length:=by omega
    clear hlt hj
    go_wp2_with first | ((with_reducible apply wps_loada (T:=56) (k:=7) S 0);(case hx|hi=>rfl);(case hk=>exact nle rfl);(case hT=>decide +kernel))
    go_ret
    refine ⟨.inr ⟨rfl,fun y hy=>?_⟩,S.below⟩
    obtain ⟨i,hi,e⟩:=List.mem_iff_getElem.1 hy
    exact HL.out i y hi (by rw [List.getElem?_eq_getElem hi,e])
def due (u : Int) (l : List Event) : List Event:=l.filter fun x=>decide (x.key.at_ < u)
theorem due_snoc {u : Int} {l : List Event} {j : Nat} {x : Event} (h : l[j]? = some x) : due u (l.take (j + 1)) = due u (l.take j) ++ (if x.key.at_ < u then [x] else []):=by
 unfold due
 rw [take_snoc h,List.filter_append]
 by_cases hx : x.key.at_ < u
 · rw [if_pos hx,List.filter_cons_of_pos (by simpa using hx)];rfl
 · rw [if_neg hx,List.filter_cons_of_neg (by simpa using hx)];rfl
theorem due_all {u : Int} {l : List Event} (h : ∀ y ∈ l,y.key.at_ < u) : due u l = l:=List.filter_eq_self.2 fun y hy=>by simpa using h y hy
theorem first_not (u : Int) : ∀ l : List Event,(∀ y ∈ l,y.key.at_ < u) ∨ ∃ (i : Nat) (x : Event),l[i]? = some x ∧ ¬ x.key.at_ < u ∧ ∀ (q : Nat) y,q < i → l[q]? = some y → y.key.at_ < u
 | []=>.inl (fun y hy=>by simp at hy)
 | z :: l=>by
   by_cases hz : z.key.at_ < u
   · rcases first_not u l with h | ⟨i,x,h1,h2,h3⟩
     · exact .inl fun y hy=>by
        rcases List.mem_cons.1 hy with rfl | hy
        · exact hz
        · exact h y hy
     · refine .inr ⟨i + 1,x,by simpa using h1,h2,fun q y hq hy=>?_⟩
       cases q with
       | zero=>simp at hy;subst hy;exact hz
       | succ q=>exact h3 q y (by omega) (by simpa using hy)
   · exact .inr ⟨0,z,rfl,hz,fun q y hq=>by omega⟩
def DelRel (R c b3 : Nat) (u : Int) (l : List Event) (F : Nat → Prop) (w : World) (i j : Value) (wr : World) : Prop:=
 ∃ (k n : Nat) (m : List Event),i = .int .i64 k ∧ j = .int .i64 n ∧ k < n ∧ n ≤ l.length ∧ Hid (m.take k = due u (l.take n)) ∧ Hid (∀ q : Nat,n ≤ q → m[q]? = l[q]?) ∧ Hid (m.length = l.length) ∧
  St F w wr [Mem.Own 56 Event.cells 7 (.slice (some ⟨R,0,none⟩) l.length c) m,Blk true b3 #[.int .i64 u] 3]
def DelPost (l : List Event) (F : Nat → Prop) (w : World) (e : Ending) (w' : World) : Prop:=
 ∃ ad c,e = .returned (.slice ad l.length c) ∧ St F w w' [Mem.Own 56 Event.cells 7 (.slice ad l.length c) l]
theorem delf_calls (b3 : Nat) (u : Int) (v : Value) (l : List Event) (w : World) (F : Nat → Prop) (S0 : St F w w [Mem.Own 56 Event.cells 7 v l,Blk true b3 #[.int .i64 u] 3]) (hn : l.length ≤ 4294967296) :
 Calls Tryz.prog 41 #[v,.func (.func 42) #[] #[.pointer (some ⟨b3,0,none⟩)]] w (DelPost (due u l) F w):=by
 have S:=S0
 clear S0
 obtain ⟨ad,c,rfl,_⟩:=(S.ownsl ecells 0 rfl).elim fun _ h=>h.form
 have hn2 : (l.length : Int) ≤ 4294967296:=by omega
 rcases first_not u l with hall | ⟨i,x,hx,hxu,hfi⟩
 · have HI : Hid (∀ (w : World) (F F2 : Nat → Prop) (h : (Sl true Event.cells 7 (.slice ad l.length c) l).at_ w F) (h2 : (Blk true b3 #[.int .i64 u] 3).at_ w F2),Calls Tryz.prog 66 #[.slice ad l.length c,.func (.func 42) #[] #[.pointer (some ⟨b3,0,none⟩)]] w fun e w'=>e = .returned (.int .i64 (-1)) ∧ Below w.heap.size w w'):=Lib.hid fun w F F2 h h2=>(idxf_calls b3 u _ l w F F2 h h2 hn).mono fun e w' hp=>by
    rcases hp with ⟨⟨i,x,_,h1,h2,_⟩ | ⟨h1,_⟩,h3⟩
    · exact absurd (hall x (List.mem_of_getElem? h1)) h2
    · exact ⟨h1,h3⟩
   rw [due_all hall]
   clear hall
   go_enter Tryz.func41,Tryz.ntmps41
   go_wp2_with first | (go_at_call 66;refine Calls.mono (HI.out _ _ _ (own_sl (sh:=true) ecells (S.get (i:=0) rfl).choose_spec) (S.get (i:=1) rfl).choose_spec) ?_;rintro e wz ⟨rfl,hE⟩;replace S:=S.ext (Keep.of_below hE);clear hE)
   go_ret
   exact ⟨ad,c,rfl,S.pick [0] rfl⟩
 · have HI : Hid (∀ (w : World) (F F2 : Nat → Prop) (h : (Sl true Event.cells 7 (.slice ad l.length c) l).at_ w F) (h2 : (Blk true b3 #[.int .i64 u] 3).at_ w F2),Calls Tryz.prog 66 #[.slice ad l.length c,.func (.func 42) #[] #[.pointer (some ⟨b3,0,none⟩)]] w fun e w'=>e = .returned (.int .i64 i) ∧ Below w.heap.size w w'):=Lib.hid fun w F F2 h h2=>(idxf_calls b3 u _ l w F F2 h h2 hn).mono fun e w' hp=>by
    rcases hp with ⟨⟨i2,x2,h0,h1,h2,h4⟩ | ⟨_,h1⟩,h3⟩
    · have : i2 = i:=by
       rcases Nat.lt_trichotomy i2 i with h | h | h
       · exact absurd (hfi i2 x2 h h1) h2
       · exact h
       · exact absurd (h4 i x h hx) hxu
      subst this
      exact ⟨h0,h3⟩
    · exact absurd (h1 x (List.mem_of_getElem? hx)) hxu
   have hil : i < l.length:=(List.getElem?_eq_some_iff.1 hx).1
   have hli : (i : Int) ≤ 4294967296:=by omega
   have hne : ((i : Int) == -1) = false:=by simp
   have HM0 : Hid (l.take i = due u (l.take (i + 1))):=Lib.hid (by
    rw [due_snoc hx,if_neg hxu,List.append_nil]
    refine (due_all fun y hy=>?_).symm
    obtain ⟨q,hq,e⟩:=List.mem_iff_getElem.1 hy
    rw [List.length_take] at hq
    exact hfi q y (by omega) (by rw [← e,List.getElem_take,List.getElem?_eq_getElem]))
   obtain ⟨R,c',e⟩:=own_hd 0 S rfl (by omega)
   simp only [Value.slice.injEq] at e
   obtain ⟨rfl,hq,rfl⟩:=e
   have hlc : l.length ≤ c:=by
    obtain ⟨F1,h1⟩:=S.get (i:=0) rfl
    obtain ⟨cur,hO,_⟩:=own_at h1
    exact hO.le
   clear hq hx hxu hfi
   go_enter Tryz.func41,Tryz.ntmps41
   go_wp2_with first | (go_at_call 66;refine Calls.mono (HI.out _ _ _ (own_sl (sh:=true) ecells (S.get (i:=0) rfl).choose_spec) (S.get (i:=1) rfl).choose_spec) ?_;rintro e wz ⟨rfl,hE⟩;replace S:=S.ext (Keep.of_below hE);clear hE)
   go_loopw [5,6] (fun i j wr=>DelRel R c b3 u l F w i j wr) (fun _ j _=>l.length - (intOf j).toNat)
   case atStart=>exact ⟨i,i + 1,l,rfl,by go_num,by omega,by omega,HM0,Lib.hid (fun _ _=>rfl),Lib.hid rfl,S⟩
   case round=>
    clear S
    clear HM0
    obtain ⟨k,n,m,rfl,rfl,hkn,hnl,HM,HJ,HML,S⟩:=hrel
    have hk6 : (k : Int) ≤ 4294967296:=by omega
    by_cases hlt : n < l.length
    · obtain ⟨x,hx⟩ : ∃ x,l[n]? = some x:=⟨_,List.getElem?_eq_getElem hlt⟩
      obtain ⟨y,hy⟩ : ∃ y,m[k]? = some y:=⟨_,List.getElem?_eq_getElem (by have:=HML.out;omega)⟩
      have hlt2 : (n : Int) < l.length:=by omega
      have hkl2 : (k : Int) < l.length:=by omega
      have HMX : Hid (m[n]? = some x):=Lib.hid ((HJ.out n (Nat.le_refl _)).trans hx)
      obtain ⟨q,hq⟩ : ∃ q,decide (x.key.at_ < u) = q:=⟨_,rfl⟩
      have HH:=Lib.hid fun w F h=>holds1_calls b3 u x q hq w F h
      have HY:=Lib.hid hy
      cases q with
      | true=>
        have HM2 : Hid ((m.set k x).take (k + 1) = due u (l.take (n + 1))):=Lib.hid (by
         rw [due_snoc hx,if_pos (of_decide_eq_true hq),← HM.out,take_snoc (x:=x) (List.getElem?_set_self (by have:=HML.out;omega)),List.take_set_of_le (Nat.le_refl _)])
        have HJ2 : Hid (∀ q : Nat,n + 1 ≤ q → (m.set k x)[q]? = l[q]?):=Lib.hid fun q hq=>by rw [List.getElem?_set_ne (by omega)];exact HJ.out q (by omega)
        have HML2 : Hid ((m.set k x).length = l.length):=Lib.hid (by rw [List.length_set];exact HML.out)
        clear hq hx hy
        go_wp2_with first | ((with_reducible apply wps_loada_own ecells S 0 (hj:=HMX.out) (q:=0) (vs:=[.int .i64 x.key.at_,.int .i64 x.key.src,.int .i64 x.key.sent,.int .i64 x.key.no,.int .i64 x.dst,.int .i64 x.kind,.int .i64 x.data]) (m:=7));(case hx|hi=>rfl);(case hn=>omega);(case hm|hv=>rfl);(case hT=>decide +kernel)) | ((with_reducible apply wps_alloca (E:=56) S);(case hz=>exact Tryz.zeroValue56);clear S;intro b7 wz S) | ((with_reducible apply wps_storea (T:=56) S 0 (vs:=[.int .i64 x.key.at_,.int .i64 x.key.src,.int .i64 x.key.sent,.int .i64 x.key.no,.int .i64 x.dst,.int .i64 x.kind,.int .i64 x.data]) (m:=7));(case hx|hy|hi|hm|h1=>rfl);(case hn=>exact nle rfl);(case hT=>decide +kernel);clear S;intro wz S;simp only [set_cons_zero,set_cons_succ,setAll,setIfInBounds_toArray] at S) | ((with_reducible apply wps_loada (T:=56) (k:=7) S 0);(case hx|hi=>rfl);(case hk=>exact nle rfl);(case hT=>decide +kernel)) | (go_at_call 42;refine Calls.mono (HH.out _ _ (S.get (i:=2) rfl).choose_spec) ?_;rintro e wz ⟨rfl,hE⟩;replace S:=S.ext (Keep.of_below hE);clear hE) | ((with_reducible apply wps_store_owna ecells S 1 (hj:=HY.out) (e':=x) (q:=0) (vs:=[.int .i64 x.key.at_,.int .i64 x.key.src,.int .i64 x.key.sent,.int .i64 x.key.no,.int .i64 x.dst,.int .i64 x.kind,.int .i64 x.data]) (m:=7));(case hx=>rfl);(case hn=>omega);(case hi|hy|hm|h1|he=>rfl);(case hq=>exact nle rfl);(case hT=>decide +kernel);clear S;intro wz S;simp only [set_cons_succ,set_cons_zero] at S)
        go_roundw
        case rel=>exact ⟨k + 1,n + 1,m.set k x,by go_num,by go_num,by omega,by omega,HM2,HJ2,HML2,S.pick [1,2] rfl⟩
        case measure=>simp [intOf];omega
      | false=>
        have HM2 : Hid (m.take k = due u (l.take (n + 1))):=Lib.hid (by rw [due_snoc hx,if_neg (of_decide_eq_false hq),List.append_nil];exact HM.out)
        have HJ2 : Hid (∀ q : Nat,n + 1 ≤ q → m[q]? = l[q]?):=Lib.hid fun q hq=>HJ.out q (by omega)
        clear hq hx hy
        go_wp2_with first | ((with_reducible apply wps_loada_own ecells S 0 (hj:=HMX.out) (q:=0) (vs:=[.int .i64 x.key.at_,.int .i64 x.key.src,.int .i64 x.key.sent,.int .i64 x.key.no,.int .i64 x.dst,.int .i64 x.kind,.int .i64 x.data]) (m:=7));(case hx|hi=>rfl);(case hn=>omega);(case hm|hv=>rfl);(case hT=>decide +kernel)) | ((with_reducible apply wps_alloca (E:=56) S);(case hz=>exact Tryz.zeroValue56);clear S;intro b7 wz S) | ((with_reducible apply wps_storea (T:=56) S 0 (vs:=[.int .i64 x.key.at_,.int .i64 x.key.src,.int .i64 x.key.sent,.int .i64 x.key.no,.int .i64 x.dst,.int .i64 x.kind,.int .i64 x.data]) (m:=7));(case hx|hy|hi|hm|h1=>rfl);(case hn=>exact nle rfl);(case hT=>decide +kernel);clear S;intro wz S;simp only [set_cons_zero,set_cons_succ,setAll,setIfInBounds_toArray] at S) | ((with_reducible apply wps_loada (T:=56) (k:=7) S 0);(case hx|hi=>rfl);(case hk=>exact nle rfl);(case hT=>decide +kernel)) | (go_at_call 42;refine Calls.mono (HH.out _ _ (S.get (i:=2) rfl).choose_spec) ?_;rintro e wz ⟨rfl,hE⟩;replace S:=S.ext (Keep.of_below hE);clear hE)
        go_roundw
        case rel=>exact ⟨k,n + 1,m,rfl,by go_num,by omega,by omega,HM2,HJ2,HML,S.pick [1,2] rfl⟩
        case measure=>simp [intOf];omega
    · obtain rfl : n = l.length:=by omega
      obtain ⟨q2,HQ2⟩ : ∃ q,Hid (l.length = k + q):=⟨l.length - k,Lib.hid (by omega)⟩
      have hq20 : 0 < q2:=by have:=HQ2.out;omega
      have HMQ : Hid (m.length = k + q2):=Lib.hid (HML.out.trans HQ2.out)
      have HO : Hid (due u l = m.take k):=Lib.hid (by rw [HM.out,List.take_length])
      have HOL : Hid ((due u l).length = k):=Lib.hid (by rw [HO.out,List.length_take,HMQ.out];omega)
      have HTT : Hid ((m.take k ++ List.replicate q2 (⟨⟨0,0,0,0⟩,0,0,0⟩ : Event)).take k = due u l):=Lib.hid (by
       rw [HO.out,List.take_left' (by rw [List.length_take,HMQ.out];omega)])
      have hkc : k ≤ l.length:=by omega
      clear hlt hnl
      go_wp2_with first | ((with_reducible apply wps_tail Tryz.underlying48 sizeEv (m:=q2) (l:=k));(case hx|hlo=>rfl);(case hm=>exact HQ2.out);(case h1=>exact hq20);(case h2=>exact hlc)) | ((with_reducible apply wps_clearTail elem_Ev ecells eone ⟨⟨0,0,0,0⟩,0,0,0⟩ zero_Ev S 0 (m:=k) (q:=q2));(case hx|hi|ho=>rfl);(case hm=>exact HMQ.out);(case h0=>exact hq20);clear S;intro wz S;simp only [set_cons_zero] at S) | ((with_reducible apply wps_cutown ecells Tryz.underlying48 sizeEv S 0 (u:=k));(case hx|hi|hu=>rfl);(case h1=>rw [List.length_append,List.length_take,HMQ.out];omega);clear S;intro S;simp only [set_cons_zero] at S)
      go_ret
      refine ⟨_,_,by rw [HOL.out];rfl,?_⟩
      rw [HOL.out]
      rw [HTT.out] at S
      exact S.pick [0] rfl
end Go.Proofs.YtcnfionnnpnplaaGreatDoor
/- The walk of a list's ahead: the batches ahead of a time, in their place. -/
namespace Go.Proofs.YtcnfionnnpnplaaGreatDoor
open Go Go.RowKit Reg Mem
open List (set_cons_succ set_cons_zero setIfInBounds_toArray cons_append nil_append)
section
variable {P : Program} {ops : Array Oper} {rest : List Oper} {a : Act} {Q : Exit → Act → World → Prop} {d : Option Tmp} {tt : TypeId} {p : String} {af : Array Edge} {gd : Option (Nat × Bool)} {x : Operand} {w : World}
theorem Mem.wps_cut0 {T E : TypeId} {k : Nat} {ad : Option Addr} {n c : Nat} (u : Nat) {hi' : Option Operand}
 (hT : P.underlying T = some (.slice E)) (hE : ∀ w,(sizeOf E).run P w = .ok k w) (hx : a.eval x = .slice ad n c) (hhi : hi'.map a.eval = some (.int .i64 u)) (h2 : u ≤ c)
 (next : wpList P ops Q rest (a.put d (.slice (if c = 0 then ad else ad.map (·.add (0 * k))) u c)) w) (hgd : gOk gd ops a = true:=by with_unfolding_all rfl) :
 wpList P ops Q ({ dst:=d,op:=.slice T x none hi' none,type:=tt,pos:=p,after:=af,guard:=gd } :: rest) a w:=
 wpList_ok hgd fun K hK=>by
  unfold Oper.wp execOp
  simp only [Option.map_none,hx,run_sliceAt_sl hT (hE w) ad n c 0 u none _ (.inl ⟨rfl,rfl⟩) (.inr hhi) (Nat.zero_le _) h2,Sem.run_bind,Sem.run_pure,Result.andThen_ok]
  exact hK _ _ next
end
theorem cutA (ad : Option Addr) (c : Nat) : (if c = 0 then ad else ad.map (·.add (0 * 8))) = ad:=by
 cases ad with
 | none=>simp
 | some a=>obtain ⟨b,o,v⟩:=a;cases v <;> simp [Addr.add]
def aheadV (u : Int) (l : List BatV) : List BatV:=l.takeWhile fun x=>decide (x.b.at_ < u)
theorem aheadV_e (u : Int) (l : List BatV) : (aheadV u l).map (·.b) = aheadE u (l.map (·.b)):=by
 unfold aheadV aheadE
 rw [List.takeWhile_map];rfl
theorem aheadV_take (u : Int) (l : List BatV) : aheadV u l = l.take (aheadV u l).length:=by
 unfold aheadV
 exact (List.prefix_iff_eq_take.1 (List.takeWhile_prefix _))
theorem aheadV_le (u : Int) (l : List BatV) : (aheadV u l).length ≤ l.length:=(List.takeWhile_prefix _).length_le
theorem aheadV_mem {u : Int} {l : List BatV} {x : BatV} (h : x ∈ aheadV u l) : x ∈ l:=(List.takeWhile_prefix _).subset h
theorem sl_cut {ad : Option Addr} {c : Nat} {l : List BatV} {u : Int} {w : World} {F : Nat → Prop} (h : (Sl true BatV.cells 8 (.slice ad l.length c) l).at_ w F) : (Sl true BatV.cells 8 (.slice ad (aheadV u l).length c) (aheadV u l)).at_ w F:=by
 have h2:=h.1.sub (l:=0) (u:=(aheadV u l).length) (Nat.zero_le _) (aheadV_le u l)
 rw [List.drop_zero,← aheadV_take,cutA,Nat.sub_zero,Nat.sub_zero] at h2
 exact ⟨h2,h.2⟩
theorem ahead_at {u : Int} : ∀ {l : List BatV} {j : Nat},(∀ (q : Nat) x,q < j → l[q]? = some x → x.b.at_ < u) → j ≤ l.length → (j = l.length ∨ ∃ x,l[j]? = some x ∧ ¬ x.b.at_ < u) → (aheadV u l).length = j
 | [],j,_,hj,_=>by simp at hj;subst hj;rfl
 | z :: l,0,_,_,h=>by
   rcases h with h | ⟨x,hx,hxu⟩
   · simp at h
   · simp at hx;subst hx
     unfold aheadV;rw [List.takeWhile_cons_of_neg (by simpa using hxu)];rfl
 | z :: l,j + 1,h,hj,he=>by
   have hz:=h 0 z (by omega) rfl
   have:=ahead_at (u:=u) (l:=l) (j:=j) (fun q x hq hx=>h (q + 1) x (by omega) (by simpa using hx)) (by simpa using hj) (by
    rcases he with he | ⟨x,hx,hxu⟩
    · exact .inl (by simpa using he)
    · exact .inr ⟨x,by simpa using hx,hxu⟩)
   unfold aheadV at *
   rw [List.takeWhile_cons_of_pos (by simpa using hz),List.length_cons,this]
theorem sizeBt (w : World) : (Go.sizeOf 52).run Tryz.prog w = .ok 8 w:=by kernel_rfl
def AhRel (L : List Asn) (l : List BatV) (u : Int) (w : World) (i : Value) (wr : World) : Prop:=
 ∃ j : Nat,j ≤ l.length ∧ i = .int .i64 j ∧ Hid (∀ (q : Nat) x,q < j → l[q]? = some x → x.b.at_ < u) ∧ St (fun _=>False) w wr L
theorem tahead_calls (ad : Option Addr) (c : Nat) (l : List BatV) (u : Int) (w : World) (F : Nat → Prop) (h : (Sl true BatV.cells 8 (.slice ad l.length c) l).at_ w F) (hn : l.length ≤ 4294967296) :
 Calls Tryz.prog 39 #[.agg #[.slice ad l.length c],.int .i64 u] w fun e w'=>e = .returned (.slice ad (aheadV u l).length c) ∧ Below w.heap.size w w':=by
 have S : St (fun _=>False) w w [Sl true BatV.cells 8 (.slice ad l.length c) l]:=(St.init _ w).share (A:=Sl true BatV.cells 8 (.slice ad l.length c) l) rfl rfl h
 have hlc : l.length ≤ c:=by obtain ⟨a',c',e,h3,_⟩:=h.1;simp only [Value.slice.injEq] at e;omega
 clear h
 have hn2 : (l.length : Int) ≤ 4294967296:=by omega
 go_enter Tryz.func39,Tryz.ntmps39
 go_wp2_with first | ((with_reducible apply wps_boxa (E:=92) S);(case hx=>rfl);clear S;intro b2 wz S)
 go_loopw [5] (fun i wr=>AhRel _ l u w i wr) (fun i _=>l.length - (intOf i).toNat)
 case atStart=>exact ⟨0,Nat.zero_le _,rfl,Lib.hid (fun q x h=>by omega),S⟩
 case round=>
  clear S
  obtain ⟨j,hj,rfl,HL,S⟩:=hrel
  by_cases hlt : j < l.length
  · obtain ⟨x,hx⟩ : ∃ x,l[j]? = some x:=⟨_,List.getElem?_eq_getElem hlt⟩
    obtain ⟨R,o,rfl⟩ : ∃ R o,ad = some ⟨R,o,none⟩:=(S.sl 1 rfl).elim fun F h=>h.head (by omega)
    have hlt2 : (j : Int) < l.length:=by omega
    have HX:=Lib.hid hx
    obtain ⟨⟨xat,xlp,xins,xthn,xsent⟩,xai,xci,xao,xco⟩:=x
    by_cases hxu : xat < u
    · have f1 : decide (xat < u) = true:=decide_eq_true hxu
      have HL2 : Hid (∀ (q : Nat) x,q < j + 1 → l[q]? = some x → x.b.at_ < u):=Lib.hid fun q y hq2 hy=>by
       rcases Nat.lt_or_ge q j with h | h
       · exact HL.out q y h hy
       · obtain rfl : q = j:=by omega
         rw [HX.out] at hy;cases hy;exact hxu
      clear hxu hx
      go_wp2_with first | ((with_reducible apply wps_load_el S 1 (hj:=HX.out) (q:=0) (u:=.int .i64 (⟨⟨xat,xlp,xins,xthn,xsent⟩,xai,xci,xao,xco⟩:BatV).b.at_));(case hx|hi=>rfl);(case hn=>omega);(case hu=>rfl);(case hT=>decide +kernel)) | ((with_reducible apply wps_load S 0);(case hx|hi|hu=>rfl);(case hT=>decide +kernel))
      go_roundw
      case rel=>exact ⟨j + 1,by omega,by go_num,HL2,S⟩
      case measure=>simp [intOf];omega
    · have f1 : decide (xat < u) = false:=decide_eq_false hxu
      have HA:=Lib.hid (ahead_at HL.out (Nat.le_of_lt hlt) (.inr ⟨_,hx,hxu⟩))
      have hjc : j ≤ c:=by omega
      clear hxu hx
      go_wp2_with first | ((with_reducible apply wps_load_el S 1 (hj:=HX.out) (q:=0) (u:=.int .i64 (⟨⟨xat,xlp,xins,xthn,xsent⟩,xai,xci,xao,xco⟩:BatV).b.at_));(case hx|hi=>rfl);(case hn=>omega);(case hu=>rfl);(case hT=>decide +kernel)) | ((with_reducible apply Mem.wps_cut0 (u:=j) Tryz.underlying27 sizeBt);(case hx|hhi=>rfl);(case h2=>exact hjc)) | ((with_reducible apply wps_load S 0);(case hx|hi|hu=>rfl);(case hT=>decide +kernel))
      go_ret
      refine ⟨?_,S.below⟩
      rw [HA.out];rfl
  · obtain rfl : j = l.length:=by omega
    have HA:=Lib.hid (ahead_at HL.out (Nat.le_refl _) (.inl rfl))
    clear hlt hj
    go_wp2_with first | ((with_reducible refine wpList_skip ?hw ?_);(case hw=>with_unfolding_all rfl);simp only [Act.put,setIfInBounds_toArray,set_cons_succ,set_cons_zero]) | ((with_reducible apply Mem.wps_cut0 (u:=l.length) Tryz.underlying27 sizeBt);(case hx|hhi=>rfl);(case h2=>exact hlc)) | ((with_reducible apply wps_load S 0);(case hx|hi|hu=>rfl);(case hT=>decide +kernel))
    go_ret
    refine ⟨?_,S.below⟩
    rw [HA.out];rfl
end Go.Proofs.YtcnfionnnpnplaaGreatDoor
