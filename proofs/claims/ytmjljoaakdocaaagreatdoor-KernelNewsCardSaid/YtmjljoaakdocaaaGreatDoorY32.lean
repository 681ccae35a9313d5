import Derived.Test.YtmjljoaakdocaaaGreatDoorY24
import Derived.Test.YtmjljoaakdocaaaGreatDoorY04
/- The walk of a log's wrong. -/
set_option maxHeartbeats 16000000
set_option maxRecDepth 100000
namespace Go.Proofs.YtmjljoaakdocaaaGreatDoor
open Go Go.RowKit Reg Mem
open List (set_cons_succ set_cons_zero setIfInBounds_toArray cons_append nil_append)
def LWrRel (P : Event → Prop) (v v1 : Value) (ss : List State) (X : Nat) (cs : Array Value) (l : List Event) (w : World) (i : Value) (wr : World) : Prop:=
 ∃ j : Nat,j ≤ l.length ∧ i = .int .i64 j ∧ Hid (∀ x ∈ l.take j,P x) ∧ St (fun _=>False) w wr [Sl true Event.cells 7 v l,Sl true State.cells 4 v1 ss,Blk true X cs 119]
def LWrRel3 (v v1 : Value) (ss : List State) (X : Nat) (cs : Array Value) (l : List Event) (w : World) (i : Value) (wr : World) : Prop:=
 ∃ j : Nat,(j < l.length ∨ (j = 0 ∧ l.length = 0)) ∧ i = .int .i64 ((j : Int) + 1) ∧ Hid (∀ (q : Nat) x y,q < j → l[q]? = some x → l[q + 1]? = some y → ¬ (x.key = y.key ∧ x.dst = y.dst)) ∧ St (fun _=>False) w wr [Sl true Event.cells 7 v l,Sl true State.cells 4 v1 ss,Blk true X cs 119]
theorem all_snoc {P : Event → Prop} {l : List Event} {j : Nat} {x : Event} (h : ∀ y ∈ l.take j,P y) (hx : l[j]? = some x) (hp : P x) : ∀ y ∈ l.take (j + 1),P y:=by
 rw [take_snoc hx]
 intro y hy
 rcases List.mem_append.1 hy with hy | hy
 · exact h y hy
 · rw [List.mem_singleton] at hy;subst hy;exact hp
theorem lwrong_calls (X R : Nat) (g : LogE) (below : Int) (v : Value) (l : List Event) (w : World) (F F2 : Nat → Prop) (h : (logA X R g).at_ w F) (h2 : (Sl true Event.cells 7 v l).at_ w F2) (hu : UpT l) (hn : l.length ≤ 65536) :
 Calls Tryz.prog 179 #[.pointer (some ⟨X,0,none⟩),.int .i64 below,v] w fun e w'=>e = .returned (.int .i64 (wrongL g.ss.length g.time below l)) ∧ Below w.heap.size w w':=by
 obtain ⟨v1,v2,lb,_,S0⟩:=logR_st h
 have S:=(S0.pick [3,4] rfl).share (A:=Sl true Event.cells 7 v l) rfl rfl h2
 simp only [pick,nth] at S
 clear S0 h h2
 obtain ⟨ad,cp,rfl,_⟩:=(S.sl 0 rfl).elim fun _ h=>h.form
 obtain ⟨a1,c1,rfl,_⟩:=(S.sl 1 rfl).elim fun _ h=>h.form
 generalize g.time = tm at *
 generalize g.ss = ss at *
 have HU:=Lib.hid hu
 clear hu
 by_cases h1 : below < tm
 · have f1 : decide (below < tm) = true:=decide_eq_true h1
   have HR:=Lib.hid (show 18 = wrongL ss.length tm below l by unfold wrongL;rw [if_pos (.inl h1)])
   go_enter Tryz.func179,Tryz.ntmps179
   go_wp2_with first | ((with_reducible apply wps_load S 2);(case hx|hi|hu=>rfl);(case hT=>decide +kernel))
   go_ret
   exact ⟨ret_int HR.out,S.below⟩
 have f1 : decide (below < tm) = false:=decide_eq_false h1
 by_cases h2 : 1073741825 < below
 · have f2 : decide (1073741825 < below) = true:=decide_eq_true h2
   have HR:=Lib.hid (show 18 = wrongL ss.length tm below l by unfold wrongL;rw [if_pos (.inr h2)])
   go_enter Tryz.func179,Tryz.ntmps179
   go_wp2_with first | ((with_reducible apply wps_load S 2);(case hx|hi|hu=>rfl);(case hT=>decide +kernel))
   go_ret
   exact ⟨ret_int HR.out,S.below⟩
 have f2 : decide (1073741825 < below) = false:=decide_eq_false h2
 have HW : Hid (wrongL ss.length tm below l = if ¬ (∀ x ∈ l,tm ≤ x.key.at_ ∧ x.key.at_ < below) then 18 else if ¬ (∀ x ∈ l,0 ≤ x.dst ∧ x.dst < ss.length) then 10 else if dupB l = true then 13 else 0):=Lib.hid (by
  unfold wrongL;rw [if_neg (by omega)])
 clear h1 h2
 have hnl : (l.length : Int) ≤ 65536:=by omega
 go_enter Tryz.func179,Tryz.ntmps179
 go_wp2_with first | ((with_reducible apply wps_load S 2);(case hx|hi|hu=>rfl);(case hT=>decide +kernel))
 go_loopw [24] (fun i wr=>LWrRel (fun x=>tm ≤ x.key.at_ ∧ x.key.at_ < below) (.slice ad l.length cp) (.slice a1 ss.length c1) ss X #[.pointer (some ⟨R,0,none⟩),.slice a1 ss.length c1,.int .i64 tm,v2] l w i wr) (fun i _=>l.length - (intOf i).toNat)
 case atStart=>exact ⟨0,Nat.zero_le _,rfl,Lib.hid (by simp),S⟩
 case round=>
  clear S f1 f2
  obtain ⟨j,hj,rfl,HA,S⟩:=hrel
  by_cases hlt : j < l.length
  · obtain ⟨x,hx⟩ : ∃ x,l[j]? = some x:=⟨_,List.getElem?_eq_getElem hlt⟩
    obtain ⟨R1,o1,rfl⟩ : ∃ R o,ad = some ⟨R,o,none⟩:=(S.sl 0 rfl).elim fun F h=>h.head (by omega)
    have hlt2 : (j : Int) < l.length:=by omega
    by_cases h1 : x.key.at_ < tm
    · have f1 : decide (x.key.at_ < tm) = true:=decide_eq_true h1
      have HR : Hid (18 = wrongL ss.length tm below l):=Lib.hid (by rw [HW.out,if_pos (fun g=>by have:=g x (List.mem_of_getElem? hx);omega)])
      clear h1
      have Hx:=Lib.hid hx
      clear hx
      go_wp2_with first | ((with_reducible apply wps_alloca (E:=58) S);(case hz=>exact Tryz.zeroValue58);clear S;intro bx wz S) | ((with_reducible apply wps_loada_el S 0 (hj:=Hx.out) (q:=0) (vs:=[.int .i64 x.key.at_,.int .i64 x.key.src,.int .i64 x.key.sent,.int .i64 x.key.no,.int .i64 x.dst,.int .i64 x.kind,.int .i64 x.data]) (m:=7));(case hx|hi=>rfl);(case hn=>omega);(case hm|hv=>rfl);(case hT=>decide +kernel)) | ((with_reducible apply wps_storea (T:=58) S 0 (vs:=[.int .i64 x.key.at_,.int .i64 x.key.src,.int .i64 x.key.sent,.int .i64 x.key.no,.int .i64 x.dst,.int .i64 x.kind,.int .i64 x.data]) (m:=7));(case hx|hy|hi|hm|h1=>rfl);(case hn=>exact nle rfl);(case hT=>decide +kernel);clear S;intro wz S;simp only [set_cons_zero,set_cons_succ,setAll,setIfInBounds_toArray] at S)
      (refine wp_region_w (soft:=[0,1,2,3,4,5,6,7,8,9,10,11,12,13,14]) S ?hm ?hB ?_);(case hm=>kernel_rfl);(case hB=>decide +kernel);clear S
      iterate 15
       (with_reducible apply softs_cons)
       (case hw=>
         (with_reducible apply soft_of);(case hi=>rfl)
         intro T wz S
         simp only [cons_append,nil_append] at S
         go_wp2_with first | ((with_reducible refine tot_done ?ht ?_);(case ht=>kernel_rfl)) | ((with_reducible apply wps_load S 0);(case hx|hi|hu=>rfl);(case hT=>decide +kernel)) | ((with_reducible apply wps_load S 3);(case hx|hi|hu=>rfl);(case hT=>decide +kernel))
         exact ⟨rfl,S⟩)
       (case hs=>exact ⟨_,rfl,by kernel_rfl⟩)
      refine softs_nil ?_
      (with_reducible apply W_done);(case hn=>rfl);(case hr=>decide +kernel)
      intro wz S
      simp only [List.append_nil] at S
      go_wp2_with first | ((with_reducible apply wps_loada (T:=58) (k:=7) S 3);(case hx|hi=>rfl);(case hk=>exact nle rfl);(case hT=>decide +kernel))
      go_ret
      exact ⟨ret_int HR.out,S.below⟩
    · have f1 : decide (x.key.at_ < tm) = false:=decide_eq_false h1
      by_cases h2 : below ≤ x.key.at_
      · have f2 : decide (below ≤ x.key.at_) = true:=decide_eq_true h2
        have HR : Hid (18 = wrongL ss.length tm below l):=Lib.hid (by rw [HW.out,if_pos (fun g=>by have:=g x (List.mem_of_getElem? hx);omega)])
        clear h1 h2
        have Hx:=Lib.hid hx
        clear hx
        go_wp2_with first | ((with_reducible apply wps_alloca (E:=58) S);(case hz=>exact Tryz.zeroValue58);clear S;intro bx wz S) | ((with_reducible apply wps_loada_el S 0 (hj:=Hx.out) (q:=0) (vs:=[.int .i64 x.key.at_,.int .i64 x.key.src,.int .i64 x.key.sent,.int .i64 x.key.no,.int .i64 x.dst,.int .i64 x.kind,.int .i64 x.data]) (m:=7));(case hx|hi=>rfl);(case hn=>omega);(case hm|hv=>rfl);(case hT=>decide +kernel)) | ((with_reducible apply wps_storea (T:=58) S 0 (vs:=[.int .i64 x.key.at_,.int .i64 x.key.src,.int .i64 x.key.sent,.int .i64 x.key.no,.int .i64 x.dst,.int .i64 x.kind,.int .i64 x.data]) (m:=7));(case hx|hy|hi|hm|h1=>rfl);(case hn=>exact nle rfl);(case hT=>decide +kernel);clear S;intro wz S;simp only [set_cons_zero,set_cons_succ,setAll,setIfInBounds_toArray] at S)
        (refine wp_region_w (soft:=[0,1,2,3,4,5,6,7,8,9,10,11,12,13,14]) S ?hm ?hB ?_);(case hm=>kernel_rfl);(case hB=>decide +kernel);clear S
        iterate 15
         (with_reducible apply softs_cons)
         (case hw=>
           (with_reducible apply soft_of);(case hi=>rfl)
           intro T wz S
           simp only [cons_append,nil_append] at S
           go_wp2_with first | ((with_reducible refine tot_done ?ht ?_);(case ht=>kernel_rfl)) | ((with_reducible apply wps_load S 0);(case hx|hi|hu=>rfl);(case hT=>decide +kernel)) | ((with_reducible apply wps_load S 3);(case hx|hi|hu=>rfl);(case hT=>decide +kernel))
           exact ⟨rfl,S⟩)
         (case hs=>exact ⟨_,rfl,by kernel_rfl⟩)
        refine softs_nil ?_
        (with_reducible apply W_done);(case hn=>rfl);(case hr=>decide +kernel)
        intro wz S
        simp only [List.append_nil] at S
        go_wp2_with first | ((with_reducible apply wps_loada (T:=58) (k:=7) S 3);(case hx|hi=>rfl);(case hk=>exact nle rfl);(case hT=>decide +kernel))
        go_ret
        exact ⟨ret_int HR.out,S.below⟩
      · have f2 : decide (below ≤ x.key.at_) = false:=decide_eq_false h2
        have HA2:=Lib.hid (all_snoc HA.out hx ⟨by omega,by omega⟩)
        clear h1 h2
        have Hx:=Lib.hid hx
        clear hx
        go_wp2_with first | ((with_reducible apply wps_alloca (E:=58) S);(case hz=>exact Tryz.zeroValue58);clear S;intro bx wz S) | ((with_reducible apply wps_loada_el S 0 (hj:=Hx.out) (q:=0) (vs:=[.int .i64 x.key.at_,.int .i64 x.key.src,.int .i64 x.key.sent,.int .i64 x.key.no,.int .i64 x.dst,.int .i64 x.kind,.int .i64 x.data]) (m:=7));(case hx|hi=>rfl);(case hn=>omega);(case hm|hv=>rfl);(case hT=>decide +kernel)) | ((with_reducible apply wps_storea (T:=58) S 0 (vs:=[.int .i64 x.key.at_,.int .i64 x.key.src,.int .i64 x.key.sent,.int .i64 x.key.no,.int .i64 x.dst,.int .i64 x.kind,.int .i64 x.data]) (m:=7));(case hx|hy|hi|hm|h1=>rfl);(case hn=>exact nle rfl);(case hT=>decide +kernel);clear S;intro wz S;simp only [set_cons_zero,set_cons_succ,setAll,setIfInBounds_toArray] at S)
        (refine wp_region_w (soft:=[0,1,2,3,4,5,6,7,8,9,10,11,12,13,14]) S ?hm ?hB ?_);(case hm=>kernel_rfl);(case hB=>decide +kernel);clear S
        iterate 15
         (with_reducible apply softs_cons)
         (case hw=>
           (with_reducible apply soft_of);(case hi=>rfl)
           intro T wz S
           simp only [cons_append,nil_append] at S
           go_wp2_with first | ((with_reducible refine tot_done ?ht ?_);(case ht=>kernel_rfl)) | ((with_reducible apply wps_load S 0);(case hx|hi|hu=>rfl);(case hT=>decide +kernel)) | ((with_reducible apply wps_load S 3);(case hx|hi|hu=>rfl);(case hT=>decide +kernel))
           exact ⟨rfl,S⟩)
         (case hs=>exact ⟨_,rfl,by kernel_rfl⟩)
        refine softs_nil ?_
        (with_reducible apply W_done);(case hn=>rfl);(case hr=>decide +kernel)
        intro wz S
        simp only [List.append_nil] at S
        go_wp2_with first | ((with_reducible apply wps_loada (T:=58) (k:=7) S 3);(case hx|hi=>rfl);(case hk=>exact nle rfl);(case hT=>decide +kernel))
        go_roundw
        case rel=>exact ⟨j + 1,by omega,by go_num,HA2,S.pick [1,2,3] rfl⟩
        case measure=>first | (simp [intOf];done) | (simp [intOf];omega)
  · obtain rfl : j = l.length:=by omega
    have HW2 : Hid (wrongL ss.length tm below l = if ¬ (∀ x ∈ l,0 ≤ x.dst ∧ x.dst < ss.length) then 10 else if dupB l = true then 13 else 0):=Lib.hid (by
     have:=HA.out
     rw [List.take_length] at this
     rw [HW.out,if_neg (fun g=>g this)])
    clear HA HW
    go_wp2_with first | ((with_reducible apply wps_loada (T:=58) (k:=7) S 3);(case hx|hi=>rfl);(case hk=>exact nle rfl);(case hT=>decide +kernel))
    go_loopw [46] (fun i wr=>LWrRel (fun x=>0 ≤ x.dst ∧ x.dst < ss.length) (.slice ad l.length cp) (.slice a1 ss.length c1) ss X #[.pointer (some ⟨R,0,none⟩),.slice a1 ss.length c1,.int .i64 tm,v2] l w i wr) (fun i _=>l.length - (intOf i).toNat)
    case atStart=>exact ⟨0,Nat.zero_le _,rfl,Lib.hid (by simp),S⟩
    case round=>
     clear S
     obtain ⟨j,hj,rfl,HA,S⟩:=hrel
     by_cases hlt : j < l.length
     · obtain ⟨x,hx⟩ : ∃ x,l[j]? = some x:=⟨_,List.getElem?_eq_getElem hlt⟩
       obtain ⟨R1,o1,rfl⟩ : ∃ R o,ad = some ⟨R,o,none⟩:=(S.sl 0 rfl).elim fun F h=>h.head (by omega)
       have hlt2 : (j : Int) < l.length:=by omega
       by_cases h1 : x.dst < 0
       · have f1 : decide (x.dst < 0) = true:=decide_eq_true h1
         have HR : Hid (10 = wrongL ss.length tm below l):=Lib.hid (by rw [HW2.out,if_pos (fun g=>by have:=g x (List.mem_of_getElem? hx);omega)])
         clear h1
         have Hx:=Lib.hid hx
         clear hx
         go_wp2_with first | ((with_reducible apply wps_alloca (E:=58) S);(case hz=>exact Tryz.zeroValue58);clear S;intro bx wz S) | ((with_reducible apply wps_loada_el S 0 (hj:=Hx.out) (q:=0) (vs:=[.int .i64 x.key.at_,.int .i64 x.key.src,.int .i64 x.key.sent,.int .i64 x.key.no,.int .i64 x.dst,.int .i64 x.kind,.int .i64 x.data]) (m:=7));(case hx|hi=>rfl);(case hn=>omega);(case hm|hv=>rfl);(case hT=>decide +kernel)) | ((with_reducible apply wps_storea (T:=58) S 0 (vs:=[.int .i64 x.key.at_,.int .i64 x.key.src,.int .i64 x.key.sent,.int .i64 x.key.no,.int .i64 x.dst,.int .i64 x.kind,.int .i64 x.data]) (m:=7));(case hx|hy|hi|hm|h1=>rfl);(case hn=>exact nle rfl);(case hT=>decide +kernel);clear S;intro wz S;simp only [set_cons_zero,set_cons_succ,setAll,setIfInBounds_toArray] at S)
         (refine wp_region_w (soft:=[0,1,2,3,4,5,6,7,8,9,10,11,12]) S ?hm ?hB ?_);(case hm=>kernel_rfl);(case hB=>decide +kernel);clear S
         iterate 13
          (with_reducible apply softs_cons)
          (case hw=>
            (with_reducible apply soft_of);(case hi=>rfl)
            intro T wz S
            simp only [cons_append,nil_append] at S
            go_wp2_with first | ((with_reducible refine tot_done ?ht ?_);(case ht=>kernel_rfl)) | ((with_reducible apply wps_load S 0);(case hx|hi|hu=>rfl);(case hT=>decide +kernel))
            exact ⟨rfl,S⟩)
          (case hs=>exact ⟨_,rfl,by kernel_rfl⟩)
         refine softs_nil ?_
         (with_reducible apply W_done);(case hn=>rfl);(case hr=>decide +kernel)
         intro wz S
         simp only [List.append_nil] at S
         go_wp2_with first | ((with_reducible apply wps_loada (T:=58) (k:=7) S 3);(case hx|hi=>rfl);(case hk=>exact nle rfl);(case hT=>decide +kernel))
         go_ret
         exact ⟨ret_int HR.out,S.below⟩
       · have f1 : decide (x.dst < 0) = false:=decide_eq_false h1
         by_cases h2 : (ss.length : Int) ≤ x.dst
         · have f2 : decide ((ss.length : Int) ≤ x.dst) = true:=decide_eq_true h2
           have HR : Hid (10 = wrongL ss.length tm below l):=Lib.hid (by rw [HW2.out,if_pos (fun g=>by have:=g x (List.mem_of_getElem? hx);omega)])
           clear h1 h2
           have Hx:=Lib.hid hx
           clear hx
           go_wp2_with first | ((with_reducible apply wps_alloca (E:=58) S);(case hz=>exact Tryz.zeroValue58);clear S;intro bx wz S) | ((with_reducible apply wps_loada_el S 0 (hj:=Hx.out) (q:=0) (vs:=[.int .i64 x.key.at_,.int .i64 x.key.src,.int .i64 x.key.sent,.int .i64 x.key.no,.int .i64 x.dst,.int .i64 x.kind,.int .i64 x.data]) (m:=7));(case hx|hi=>rfl);(case hn=>omega);(case hm|hv=>rfl);(case hT=>decide +kernel)) | ((with_reducible apply wps_storea (T:=58) S 0 (vs:=[.int .i64 x.key.at_,.int .i64 x.key.src,.int .i64 x.key.sent,.int .i64 x.key.no,.int .i64 x.dst,.int .i64 x.kind,.int .i64 x.data]) (m:=7));(case hx|hy|hi|hm|h1=>rfl);(case hn=>exact nle rfl);(case hT=>decide +kernel);clear S;intro wz S;simp only [set_cons_zero,set_cons_succ,setAll,setIfInBounds_toArray] at S)
           (refine wp_region_w (soft:=[0,1,2,3,4,5,6,7,8,9,10,11,12]) S ?hm ?hB ?_);(case hm=>kernel_rfl);(case hB=>decide +kernel);clear S
           iterate 13
            (with_reducible apply softs_cons)
            (case hw=>
              (with_reducible apply soft_of);(case hi=>rfl)
              intro T wz S
              simp only [cons_append,nil_append] at S
              go_wp2_with first | ((with_reducible refine tot_done ?ht ?_);(case ht=>kernel_rfl)) | ((with_reducible apply wps_load S 0);(case hx|hi|hu=>rfl);(case hT=>decide +kernel)) | ((with_reducible apply wps_load S 3);(case hx|hi|hu=>rfl);(case hT=>decide +kernel))
              exact ⟨rfl,S⟩)
            (case hs=>exact ⟨_,rfl,by kernel_rfl⟩)
           refine softs_nil ?_
           (with_reducible apply W_done);(case hn=>rfl);(case hr=>decide +kernel)
           intro wz S
           simp only [List.append_nil] at S
           go_wp2_with first | ((with_reducible apply wps_loada (T:=58) (k:=7) S 3);(case hx|hi=>rfl);(case hk=>exact nle rfl);(case hT=>decide +kernel))
           go_ret
           exact ⟨ret_int HR.out,S.below⟩
         · have f2 : decide ((ss.length : Int) ≤ x.dst) = false:=decide_eq_false h2
           have HA2:=Lib.hid (all_snoc HA.out hx ⟨by omega,by omega⟩)
           clear h1 h2
           have Hx:=Lib.hid hx
           clear hx
           go_wp2_with first | ((with_reducible apply wps_alloca (E:=58) S);(case hz=>exact Tryz.zeroValue58);clear S;intro bx wz S) | ((with_reducible apply wps_loada_el S 0 (hj:=Hx.out) (q:=0) (vs:=[.int .i64 x.key.at_,.int .i64 x.key.src,.int .i64 x.key.sent,.int .i64 x.key.no,.int .i64 x.dst,.int .i64 x.kind,.int .i64 x.data]) (m:=7));(case hx|hi=>rfl);(case hn=>omega);(case hm|hv=>rfl);(case hT=>decide +kernel)) | ((with_reducible apply wps_storea (T:=58) S 0 (vs:=[.int .i64 x.key.at_,.int .i64 x.key.src,.int .i64 x.key.sent,.int .i64 x.key.no,.int .i64 x.dst,.int .i64 x.kind,.int .i64 x.data]) (m:=7));(case hx|hy|hi|hm|h1=>rfl);(case hn=>exact nle rfl);(case hT=>decide +kernel);clear S;intro wz S;simp only [set_cons_zero,set_cons_succ,setAll,setIfInBounds_toArray] at S)
           (refine wp_region_w (soft:=[0,1,2,3,4,5,6,7,8,9,10,11,12]) S ?hm ?hB ?_);(case hm=>kernel_rfl);(case hB=>decide +kernel);clear S
           iterate 13
            (with_reducible apply softs_cons)
            (case hw=>
              (with_reducible apply soft_of);(case hi=>rfl)
              intro T wz S
              simp only [cons_append,nil_append] at S
              go_wp2_with first | ((with_reducible refine tot_done ?ht ?_);(case ht=>kernel_rfl)) | ((with_reducible apply wps_load S 0);(case hx|hi|hu=>rfl);(case hT=>decide +kernel)) | ((with_reducible apply wps_load S 3);(case hx|hi|hu=>rfl);(case hT=>decide +kernel))
              exact ⟨rfl,S⟩)
            (case hs=>exact ⟨_,rfl,by kernel_rfl⟩)
           refine softs_nil ?_
           (with_reducible apply W_done);(case hn=>rfl);(case hr=>decide +kernel)
           intro wz S
           simp only [List.append_nil] at S
           go_wp2_with first | ((with_reducible apply wps_loada (T:=58) (k:=7) S 3);(case hx|hi=>rfl);(case hk=>exact nle rfl);(case hT=>decide +kernel))
           go_roundw
           case rel=>exact ⟨j + 1,by omega,by go_num,HA2,S.pick [1,2,3] rfl⟩
           case measure=>first | (simp [intOf];done) | (simp [intOf];omega)
     · obtain rfl : j = l.length:=by omega
       have HW3 : Hid (wrongL ss.length tm below l = if dupB l = true then 13 else 0):=Lib.hid (by
        have:=HA.out
        rw [List.take_length] at this
        rw [HW2.out,if_neg (fun g=>g this)])
       clear HA HW2
       go_wp2_with first | ((with_reducible apply wps_loada (T:=58) (k:=7) S 3);(case hx|hi=>rfl);(case hk=>exact nle rfl);(case hT=>decide +kernel))
       go_loopw [11] (fun i wr=>LWrRel3 (.slice ad l.length cp) (.slice a1 ss.length c1) ss X #[.pointer (some ⟨R,0,none⟩),.slice a1 ss.length c1,.int .i64 tm,v2] l w i wr) (fun i _=>l.length + 1 - (intOf i).toNat)
       case atStart=>exact ⟨0,by omega,rfl,Lib.hid (fun q x y h=>by omega),S⟩
       case round=>
        clear S
        obtain ⟨j,hj,rfl,HA,S⟩:=hrel
        by_cases hlt : j + 1 < l.length
        · obtain ⟨x,hx⟩ : ∃ x,l[j + 1]? = some x:=⟨_,List.getElem?_eq_getElem hlt⟩
          obtain ⟨y,hy⟩ : ∃ x,l[j]? = some x:=⟨_,List.getElem?_eq_getElem (by omega)⟩
          obtain ⟨R1,o1,rfl⟩ : ∃ R o,ad = some ⟨R,o,none⟩:=(S.sl 0 rfl).elim fun F h=>h.head (by omega)
          have hlt2 : (j : Int) + 1 < l.length:=by omega
          have hlt3 : (j : Int) < l.length:=by omega
          by_cases h1 : x.key = y.key
          · have HE:=Lib.hid ((key_ceqs x.key y.key).trans (show _ = true by simp [h1]))
            by_cases h2 : x.dst = y.dst
            · have f2 : (x.dst == y.dst) = true:=by simp [h2]
              have HR : Hid (13 = wrongL ss.length tm below l):=Lib.hid (by rw [HW3.out,if_pos (dup_yes hx hy (by omega) h1 h2)])
              clear h1 h2
              have Hx:=Lib.hid hx
              have Hy:=Lib.hid hy
              clear hx hy
              go_wp2_with first | ((with_reducible apply wps_loada (T:=58) (k:=7) S 3);(case hx|hi=>rfl);(case hk=>exact nle rfl);(case hT=>decide +kernel))
              (refine wp_region_w (soft:=[0,1,2,3,4,5,6,7,8,9,10,11,12,13,14,15,16,17,18,19,20,21,22,23,24,25]) S ?hm ?hB ?_);(case hm=>kernel_rfl);(case hB=>decide +kernel);clear S
              iterate 26
               (with_reducible apply softs_cons)
               (case hw=>
                 (with_reducible apply soft_of);(case hi=>rfl)
                 intro T wz S
                 simp only [cons_append,nil_append] at S
                 go_wp2_with first | ((with_reducible apply wps_loada_el S 0 (hj:=Hx.out) (q:=0) (vs:=[.int .i64 x.key.at_,.int .i64 x.key.src,.int .i64 x.key.sent,.int .i64 x.key.no]) (m:=4));(case hx|hi=>rfl);(case hn=>omega);(case hm|hv=>rfl);(case hT=>decide +kernel)) | ((with_reducible apply wps_load_el S 0 (hj:=Hx.out) (q:=4) (u:=.int .i64 x.dst));(case hx|hi=>rfl);(case hn=>omega);(case hu=>rfl);(case hT=>decide +kernel)) | ((with_reducible apply wps_loada_el S 0 (hj:=Hy.out) (q:=0) (vs:=[.int .i64 y.key.at_,.int .i64 y.key.src,.int .i64 y.key.sent,.int .i64 y.key.no]) (m:=4));(case hx|hi=>rfl);(case hn=>omega);(case hm|hv=>rfl);(case hT=>decide +kernel)) | ((with_reducible apply wps_load_el S 0 (hj:=Hy.out) (q:=4) (u:=.int .i64 y.dst));(case hx|hi=>rfl);(case hn=>omega);(case hu=>rfl);(case hT=>decide +kernel)) | ((with_reducible apply wpList_eql_agg (t:=56) (ks:=[.int .i64,.int .i64,.int .i64,.int .i64]) (b:=_));(case hx|hy=>rfl);(case hl|ha|hg=>kernel_rfl);(case hfx|hfy=>rfl);(case hb=>exact HE.out)) | ((with_reducible refine tot_done ?ht ?_);(case ht=>kernel_rfl))
                 exact ⟨rfl,S⟩)
               (case hs=>exact ⟨_,rfl,by kernel_rfl⟩)
              refine softs_nil ?_
              (with_reducible apply W_done);(case hn=>rfl);(case hr=>decide +kernel)
              intro wz S
              simp only [List.append_nil] at S
              go_wp2_with first | ((with_reducible apply wps_loada (T:=58) (k:=7) S 3);(case hx|hi=>rfl);(case hk=>exact nle rfl);(case hT=>decide +kernel))
              go_ret
              exact ⟨ret_int HR.out,S.below⟩
            · have f2 : (x.dst == y.dst) = false:=by simp [h2]
              have HA2 : Hid (∀ (q : Nat) x y,q < j + 1 → l[q]? = some x → l[q + 1]? = some y → ¬ (x.key = y.key ∧ x.dst = y.dst)):=Lib.hid fun q a b hq ha hb=>by
               by_cases e : q = j
               · subst e;rw [hy] at ha;cases ha;rw [hx] at hb;cases hb;exact fun g=>h2 g.2.symm
               · exact HA.out q a b (by omega) ha hb
              clear h1 h2
              have Hx:=Lib.hid hx
              have Hy:=Lib.hid hy
              clear hx hy
              go_wp2_with first | ((with_reducible apply wps_loada (T:=58) (k:=7) S 3);(case hx|hi=>rfl);(case hk=>exact nle rfl);(case hT=>decide +kernel))
              (refine wp_region_w (soft:=[0,1,2,3,4,5,6,7,8,9,10,11,12,13,14,15,16,17,18,19,20,21,22,23,24,25]) S ?hm ?hB ?_);(case hm=>kernel_rfl);(case hB=>decide +kernel);clear S
              iterate 26
               (with_reducible apply softs_cons)
               (case hw=>
                 (with_reducible apply soft_of);(case hi=>rfl)
                 intro T wz S
                 simp only [cons_append,nil_append] at S
                 go_wp2_with first | ((with_reducible apply wps_loada_el S 0 (hj:=Hx.out) (q:=0) (vs:=[.int .i64 x.key.at_,.int .i64 x.key.src,.int .i64 x.key.sent,.int .i64 x.key.no]) (m:=4));(case hx|hi=>rfl);(case hn=>omega);(case hm|hv=>rfl);(case hT=>decide +kernel)) | ((with_reducible apply wps_load_el S 0 (hj:=Hx.out) (q:=4) (u:=.int .i64 x.dst));(case hx|hi=>rfl);(case hn=>omega);(case hu=>rfl);(case hT=>decide +kernel)) | ((with_reducible apply wps_loada_el S 0 (hj:=Hy.out) (q:=0) (vs:=[.int .i64 y.key.at_,.int .i64 y.key.src,.int .i64 y.key.sent,.int .i64 y.key.no]) (m:=4));(case hx|hi=>rfl);(case hn=>omega);(case hm|hv=>rfl);(case hT=>decide +kernel)) | ((with_reducible apply wps_load_el S 0 (hj:=Hy.out) (q:=4) (u:=.int .i64 y.dst));(case hx|hi=>rfl);(case hn=>omega);(case hu=>rfl);(case hT=>decide +kernel)) | ((with_reducible apply wpList_eql_agg (t:=56) (ks:=[.int .i64,.int .i64,.int .i64,.int .i64]) (b:=_));(case hx|hy=>rfl);(case hl|ha|hg=>kernel_rfl);(case hfx|hfy=>rfl);(case hb=>exact HE.out)) | ((with_reducible refine tot_done ?ht ?_);(case ht=>kernel_rfl))
                 exact ⟨rfl,S⟩)
               (case hs=>exact ⟨_,rfl,by kernel_rfl⟩)
              refine softs_nil ?_
              (with_reducible apply W_done);(case hn=>rfl);(case hr=>decide +kernel)
              intro wz S
              simp only [List.append_nil] at S
              go_wp2_with first | ((with_reducible apply wps_loada (T:=58) (k:=7) S 3);(case hx|hi=>rfl);(case hk=>exact nle rfl);(case hT=>decide +kernel))
              go_roundw
              case rel=>exact ⟨j + 1,by omega,by go_num,HA2,S⟩
              case measure=>simp [intOf];omega
          · have HE:=Lib.hid ((key_ceqs x.key y.key).trans (show _ = false by simp [h1]))
            have HA2 : Hid (∀ (q : Nat) x y,q < j + 1 → l[q]? = some x → l[q + 1]? = some y → ¬ (x.key = y.key ∧ x.dst = y.dst)):=Lib.hid fun q a b hq ha hb=>by
             by_cases e : q = j
             · subst e;rw [hy] at ha;cases ha;rw [hx] at hb;cases hb;exact fun g=>h1 g.1.symm
             · exact HA.out q a b (by omega) ha hb
            clear h1
            have Hx:=Lib.hid hx
            have Hy:=Lib.hid hy
            clear hx hy
            go_wp2_with first | ((with_reducible apply wps_loada (T:=58) (k:=7) S 3);(case hx|hi=>rfl);(case hk=>exact nle rfl);(case hT=>decide +kernel))
            (refine wp_region_w (soft:=[0,1,2,3,4,5,6,7,8,9,10,11,12,13,14,15,16,17,18,19,20,21,22,23,24,25]) S ?hm ?hB ?_);(case hm=>kernel_rfl);(case hB=>decide +kernel);clear S
            iterate 26
             (with_reducible apply softs_cons)
             (case hw=>
               (with_reducible apply soft_of);(case hi=>rfl)
               intro T wz S
               simp only [cons_append,nil_append] at S
               go_wp2_with first | ((with_reducible apply wps_loada_el S 0 (hj:=Hx.out) (q:=0) (vs:=[.int .i64 x.key.at_,.int .i64 x.key.src,.int .i64 x.key.sent,.int .i64 x.key.no]) (m:=4));(case hx|hi=>rfl);(case hn=>omega);(case hm|hv=>rfl);(case hT=>decide +kernel)) | ((with_reducible apply wps_loada_el S 0 (hj:=Hy.out) (q:=0) (vs:=[.int .i64 y.key.at_,.int .i64 y.key.src,.int .i64 y.key.sent,.int .i64 y.key.no]) (m:=4));(case hx|hi=>rfl);(case hn=>omega);(case hm|hv=>rfl);(case hT=>decide +kernel)) | ((with_reducible apply wpList_eql_agg (t:=56) (ks:=[.int .i64,.int .i64,.int .i64,.int .i64]) (b:=_));(case hx|hy=>rfl);(case hl|ha|hg=>kernel_rfl);(case hfx|hfy=>rfl);(case hb=>exact HE.out)) | ((with_reducible refine tot_done ?ht ?_);(case ht=>kernel_rfl))
               exact ⟨rfl,S⟩)
             (case hs=>exact ⟨_,rfl,by kernel_rfl⟩)
            refine softs_nil ?_
            (with_reducible apply W_done);(case hn=>rfl);(case hr=>decide +kernel)
            intro wz S
            simp only [List.append_nil] at S
            go_wp2_with first | ((with_reducible apply wps_loada (T:=58) (k:=7) S 3);(case hx|hi=>rfl);(case hk=>exact nle rfl);(case hT=>decide +kernel))
            go_roundw
            case rel=>exact ⟨j + 1,by omega,by go_num,HA2,S⟩
            case measure=>simp [intOf];omega
        · have hge : ¬ (j : Int) + 1 < l.length:=by omega
          have HR : Hid (0 = wrongL ss.length tm below l):=Lib.hid (by
           rw [HW3.out,if_neg]
           rw [dup_no HU.out fun q x y hx hy=>HA.out q x y (by have:=(List.getElem?_eq_some_iff.1 hy).1;omega) hx hy]
           simp)
          go_wp2_with first | ((with_reducible apply wps_loada (T:=58) (k:=7) S 3);(case hx|hi=>rfl);(case hk=>exact nle rfl);(case hT=>decide +kernel))
          go_ret
          exact ⟨ret_int HR.out,S.below⟩
end Go.Proofs.YtmjljoaakdocaaaGreatDoor
