import Derived.Test.YtmjljoaakdocaaaGreatDoorY22
import Derived.Test.YtmjljoaakdocaaaGreatDoorY27
import Derived.Test.YtmjljoaakdocaaaGreatDoorY28
/- The walk of a process's Free. -/
set_option maxHeartbeats 16000000
set_option maxRecDepth 100000
namespace Go.Proofs.YtmjljoaakdocaaaGreatDoor
open Go Go.RowKit Reg Mem
open List (set_cons_succ set_cons_zero setIfInBounds_toArray cons_append nil_append)
section
variable {P : Program} {fn : Func} {R : Ending → World → Prop} {G : Nat → Prop} {w0 w : World} {L : List Asn} {a : Act}
theorem leaves_ret2 {D D2 : Nat} (S : St G w0 w (DefA D2 :: DefA D :: L)) (hd : a.defers = [{ target:=.collected D2,args:=#[] },{ target:=.collected D,args:=#[] }]) (h : ∀ w',St G w0 w' L → ∃ v,(results fn a.tmps).run P w' = .ok v w' ∧ R (.returned v) w') : bodyPostM Fence.wide 0 P fn R .ret a w:=by
 show LeavesInM _ _ _ _ _ _ a.defers _ _
 rw [hd]
 refine ⟨by simp,.inl ⟨D2,_,rfl,run_takeDeferred S.taken.1,?_⟩⟩
 exact ⟨by simp,.inl ⟨D,_,rfl,run_takeDeferred S.taken.2.taken.1,h _ S.taken.2.taken.2⟩⟩
end
theorem rallA_calls (Y : Nat) (l : List (Int × State)) (hn : l.length ≤ 65536) (w : World) (F : Nat → Prop) (h : (rowA Y l).at_ w F) : Calls Tryz.prog 213 #[.pointer (some ⟨Y,0,none⟩)] w (RAllPost l w):=by
 obtain ⟨v,F1,F2,h1,h2,_,_⟩:=h
 exact rall_calls Y v l hn w F1 F2 h1 (own_sl svcells h2)
def frB (freed below : Int) (x : Event) : Bool:=decide (x.key.at_ ≥ freed) && decide (x.key.at_ < below)
def freedL (below : Int) (p : LpE) : List Event:=p.evs.filter (frB p.freed below)
def evsFree (below : Int) (p : LpE) : List Event:=match rowFree below p.svs with | []=>p.evs | x :: _=>dropE (x.1 + 1) p.evs
def freeE (below : Int) (p : LpE) : LpE:={ p with evs:=evsFree below p,recs:=p.recs.filter fun r=>!dropB below r,svs:=rowFree below p.svs,freed:=below }
def LFreePost (X R : Nat) (p : LpE) (below : Int) (F : Nat → Prop) (w : World) (e : Ending) (w' : World) : Prop:=
 (below > lpLeast p ∧ e = .returned (.tuple #[.slice none 0 0,.int .i64 18]) ∧ St F w w' [lpA X R p]) ∨
 (¬ below > lpLeast p ∧ below ≤ p.freed ∧ e = .returned (.tuple #[.slice none 0 0,.int .i64 0]) ∧ St F w w' [lpA X R p]) ∨
 (¬ below > lpLeast p ∧ ¬ below ≤ p.freed ∧ ∃ v,e = .returned (.tuple #[v,.int .i64 0]) ∧ St F w w' [Mem.Own 58 Event.cells 7 v (freedL below p),lpA X R (freeE below p)])
def LfPhi (b2 b3 b6 X Q T Y R : Nat) (p : LpE) (below : Int) (j : Nat) (L : List Asn) : Prop:=
 ∃ (lv : Value) (lo : List Event),Hid (lo = (p.evs.take j).filter (frB p.freed below)) ∧ L = [Mem.Own 58 Event.cells 7 lv lo,Blk false b6 #[lv] 53,Blk false b3 #[.int .i64 below] 3,Blk false b2 #[.pointer (some ⟨X,0,none⟩)] 137,sentA T p.recs,rowA Y p.svs,queueA Q p.evs p.ans,lpB X Q T Y R p]
def Lf2 (D b2 b3 b6 X Q T Y : Nat) (p : LpE) (below : Int) (lv : Value) (lo : List Event) (sv2 : List (Int × State)) (BX : Asn) (l : List Event) : List Asn:=
 [DefA D,Mem.Own 58 Event.cells 7 lv lo,Blk false b6 #[lv] 53,Blk false b3 #[.int .i64 below] 3,Blk false b2 #[.pointer (some ⟨X,0,none⟩)] 137,sentA T p.recs,rowA Y sv2,queueA Q l p.ans,BX]
theorem rowFree_sub (below : Int) (l : List (Int × State)) : (rowFree below l).Sublist l:=by
 unfold rowFree
 split
 · exact List.Sublist.refl _
 · exact List.drop_sublist _ _
theorem rowFree_len (below : Int) (l : List (Int × State)) : (rowFree below l).length ≤ l.length:=(rowFree_sub below l).length_le
theorem rowFree_mem {below : Int} {l : List (Int × State)} {x : Int × State} (h : x ∈ rowFree below l) : x ∈ l:=(rowFree_sub below l).subset h
theorem lpfree_calls (X R : Nat) (p : LpE) (below : Int) (hk : LpOk p) (hs : ∀ x ∈ p.svs,-9223372036854775808 ≤ x.1 ∧ x.1 < 9223372036854775807) (w : World) (F : Nat → Prop) (S0 : St F w w [lpA X R p]) :
 Calls Tryz.prog 176 #[.pointer (some ⟨X,0,none⟩),.int .i64 below] w (LFreePost X R p below F w):=by
 have S:=S0
 clear S0
 have HL:=Lib.hid fun w F h=>lpleast_calls X R p hk w F h
 obtain ⟨V,hV⟩ : ∃ V,lpLeast p = V:=⟨_,rfl⟩
 rw [hV] at HL
 have HV:=Lib.hid hV
 clear hV
 have HE:=Lib.hid fun w F h=>lpevents_calls X R p hk.evs w F h
 have HK:=Lib.hid hk
 refine calls_marks Tryz.func176 rfl ?_
 simp only [Tryz.ntmps176,List.size_toArray,List.length_cons,List.length_nil,Nat.reduceAdd,Nat.reduceSub,Array.replicate_succ,Array.replicate_zero,List.push_toArray,List.append_toArray,nil_append,cons_append]
 clear hk
 go_upto_region 3 with first | ((with_reducible apply wps_box1 (v:=.pointer (some ⟨X,0,none⟩)) S);(case hx|h1=>rfl);clear S;intro b2 wz S) | ((with_reducible apply wps_box1 (v:=.int _ below) S);(case hx|h1=>rfl);clear S;intro b3 wz S) | ((with_reducible apply wps_load S 1);(case hx|hi|hu=>rfl);(case hT=>decide +kernel))
 (refine wp_region_w (soft:=[0,1]) S ?hm ?hB ?_);(case hm=>kernel_rfl);(case hB=>decide +kernel);clear S
 iterate 2
  (with_reducible apply softs_cons)
  (case hw=>
    (with_reducible apply soft_of);(case hi=>rfl)
    intro T wz S
    simp only [cons_append,nil_append] at S
    go_wp2_with first | ((with_reducible apply wps_load S 0);(case hx|hi|hu=>rfl);(case hT=>decide +kernel)) | ((with_reducible apply wps_load S 1);(case hx|hi|hu=>rfl);(case hT=>decide +kernel)) | ((with_reducible refine tot_done ?ht ?_);(case ht=>kernel_rfl))
    exact ⟨rfl,S⟩)
  (case hs=>exact ⟨_,rfl,by kernel_rfl⟩)
 refine softs_nil ?_
 (with_reducible apply W_hard1 (i:=2));(case hn=>rfl);(case hr=>decide +kernel)
 intro wz S
 (with_reducible apply hard_of);(case hi=>rfl)
 simp only [cons_append,nil_append] at S
 go_wp2_with first | (go_at_call 58;refine Calls.mono (HL.out _ _ (S.get (i:=2) rfl).choose_spec) ?_;rintro e wz ⟨rfl,hE⟩;replace S:=S.ext (Keep.of_below hE);clear hE) | ((with_reducible refine tot_done ?ht ?_);(case ht=>kernel_rfl))
 refine ⟨_,S,?_⟩
 clear S
 (refine W_mid (f:=0) (soft:=[3]) rfl ?hB ?_);(case hB=>decide +kernel)
 iterate 1
  (with_reducible apply softs_cons)
  (case hw=>
    (with_reducible apply soft_of);(case hi=>rfl)
    intro T wz S
    simp only [cons_append,nil_append] at S
    go_wp2_with first | ((with_reducible refine tot_done ?ht ?_);(case ht=>kernel_rfl))
    exact ⟨rfl,S⟩)
  (case hs=>exact ⟨_,rfl,by kernel_rfl⟩)
 refine softs_nil ?_
 (with_reducible apply W_done);(case hn=>rfl);(case hr=>decide +kernel)
 intro wz S
 repeat (first | simp only at S | simp only [pick] at S | simp only [nth] at S | simp only [set_cons_succ] at S | simp only [set_cons_zero] at S | simp only [setIfInBounds_toArray] at S | simp only [setAll] at S | simp only [cons_append] at S | simp only [nil_append] at S | simp only [List.append_nil] at S)
 all_goals
  by_cases hgt : V < below
  · have f1 : decide (V < below) = true:=decide_eq_true hgt
    have HGT:=Lib.hid hgt
    clear hgt
    go_wp2_with first | ((with_reducible refine wpList_skip ?hw ?_);(case hw=>with_unfolding_all rfl);simp only [Act.put,setIfInBounds_toArray,set_cons_succ,set_cons_zero])
    all_goals try (exfalso;have hq:=HGT.out;omega)
    refine leaves_ret rfl (results2 rfl (res_tmp rfl) (res_tmp rfl)) ?_
    exact .inl ⟨by rw [HV.out];exact HGT.out,rfl,S.pick [2] rfl⟩
  · have f1 : decide (V < below) = false:=decide_eq_false hgt
    have hgt : below ≤ V:=by omega
    have HGT:=Lib.hid hgt
    clear hgt
    have S2:=S.pick [2,0,1] rfl
    simp only [pick,nth] at S2
    obtain ⟨Q,T,Y,S3⟩:=lp_open S2
    clear S S2
    have S:=S3
    clear S3
    unfold lpB at S
    by_cases hfr : below ≤ p.freed
    · have f2 : decide (below ≤ p.freed) = true:=decide_eq_true hfr
      have HFR:=Lib.hid hfr
      clear hfr
      go_wp2_with first | ((with_reducible apply wps_load S 4);(case hx|hi|hu=>rfl);(case hT=>decide +kernel)) | ((with_reducible apply wps_load S 5);(case hx|hi|hu=>rfl);(case hT=>decide +kernel)) | ((with_reducible apply wps_load S 3);(case hx|hi|hu=>rfl);(case hT=>decide +kernel)) | ((with_reducible refine tot_done ?ht ?_);(case ht=>kernel_rfl)) | ((with_reducible apply wps_text S);(case hm=>kernel_rfl);(case hB=>decide +kernel);clear S;intro wz S)
      all_goals try (exfalso;have hq:=HGT.out;have hq2:=HFR.out;omega)
      refine leaves_ret rfl (results2 rfl (res_tmp rfl) (res_tmp rfl)) ?_
      exact .inr (.inl ⟨by rw [HV.out];have:=HGT.out;omega,HFR.out,rfl,(lp_close (p:=p) S).pick [0] rfl⟩)
    · have f2 : decide (below ≤ p.freed) = false:=decide_eq_false hfr
      have hfr : p.freed < below:=by omega
      have HFR:=Lib.hid hfr
      clear hfr
      go_upto_region 7 with first | ((with_reducible apply wps_load S 4);(case hx|hi|hu=>rfl);(case hT=>decide +kernel)) | ((with_reducible apply wps_load S 5);(case hx|hi|hu=>rfl);(case hT=>decide +kernel)) | ((with_reducible apply wps_load S 3);(case hx|hi|hu=>rfl);(case hT=>decide +kernel)) | ((with_reducible refine tot_done ?ht ?_);(case ht=>kernel_rfl)) | ((with_reducible apply wps_text S);(case hm=>kernel_rfl);(case hB=>decide +kernel);clear S;intro wz S)
      all_goals try (exfalso;have hq:=HGT.out;have hq2:=HFR.out;omega)
      replace S:=lp_close (p:=p) S
      clear hgt hfr f1 f2 Q T Y
      go_wp2_with first | ((with_reducible apply wps_alloc1 (E:=53) S);(case hz=>exact Tryz.zeroValue53);(case h1=>rfl);clear S;intro b6 wz S) | ((with_reducible apply wps_load S 3);(case hx|hi|hu=>rfl);(case hT=>decide +kernel)) | (go_at_call 125;refine Calls.mono (HE.out _ _ (S.get (i:=1) rfl).choose_spec) ?_;rintro rr wz ⟨bl,vl,rfl,T⟩;replace S:=S.join T rfl;clear T;simp only [cons_append,nil_append] at S)
      replace S:=S.weak (i:=0) (A':=Blk true bl #[vl] 53) rfl (fun e=>by cases e) (fun F h=>⟨F,fun _ hb=>hb,h⟩)
      simp only [set_cons_zero] at S
      replace S:=S.freeze true 1 ecells rfl
      simp only [set_cons_zero,set_cons_succ] at S
      replace S:=S.pick [3,0,1,2,4,5] rfl
      simp only [pick,nth] at S
      obtain ⟨Q,T,Y,S3⟩:=lp_open S
      clear S
      have S:=(S3.nil 58 Event.cells 7).pick [5,6,0,7,8,9,1,2,3,4] rfl
      clear S3
      simp only [pick,nth] at S
      refine wps_range (vals1_iter bl vl p.evs HK.out.evs) S rfl (calls_enter Tryz.func245 (by kernel_rfl) rfl) (LfPhi b2 b3 b6 X Q T Y R p below) (fun _ _ _=>False) ⟨.slice none 0 0,[],Lib.hid rfl,rfl⟩ (fun x args N h=>by obtain ⟨rfl,_⟩:=h;rfl) ?round ?done ?stop
      case stop=>intro _ _ _ _ _ _ h;exact h.elim
      case round=>
       rintro lp D r j x args N L W hx ⟨rfl,rfl⟩ ⟨lv,lo,HLO,rfl⟩ S
       unfold lpB at S
       simp only [zip_one9K,setIfInBounds_toArray,set_cons_succ,set_cons_zero,cons_append,nil_append] at S ⊢
       obtain ⟨a3,c3,rfl,_⟩:=(S.ownsl ecells 2 rfl).elim fun _ h=>h.form
       have HF2:=Lib.hid (filter_snocE (p:=frB p.freed below) hx)
       rw [← HLO.out] at HF2
       have hll : lo.length < 4294967296:=by rw [HLO.out];exact Nat.lt_of_le_of_lt (Nat.le_trans (List.length_filter_le ..) (List.length_take_le' ..)) (by have:=HK.out.evs;omega)
       by_cases hge : p.freed ≤ x.key.at_
       · by_cases hlt : x.key.at_ < below
         · rw [if_pos (by unfold frB;simp;omega)] at HF2
           have f1 : decide (p.freed ≤ x.key.at_) = true:=decide_eq_true hge
           have f2 : decide (x.key.at_ < below) = true:=decide_eq_true hlt
           clear hx hge hlt
           gi_wp2_with first
            | (refine wpi_at (.inr ⟨_,rfl⟩) rfl fun K hK=>?_
               go_wp2_with first | ((with_reducible apply wps_alloca (E:=58) S);(case hz=>exact Tryz.zeroValue58);clear S;intro b7 wz S) | ((with_reducible apply wps_storea (T:=58) S 0 (vs:=[.int .i64 x.key.at_,.int .i64 x.key.src,.int .i64 x.key.sent,.int .i64 x.key.no,.int .i64 x.dst,.int .i64 x.kind,.int .i64 x.data]) (m:=7));(case hx|hy|hi|hm|h1=>rfl);(case hn=>exact nle rfl);(case hT=>decide +kernel);clear S;intro wz S;simp only [set_cons_zero,set_cons_succ,setAll,setIfInBounds_toArray] at S)
               refine hK _ _ ?_
               (try simp only [Act.put]);(try simp only [setIfInBounds_toArray]);(try simp only [set_cons_succ]);(try simp only [set_cons_zero])
               clear hK K)
           refine ⟨_,S.lastSplit rfl,fun r' W2 S=>?_⟩
           simp only [List.dropLast,cons_append,nil_append] at S
           refine wpIn_block (wpIn_seq_nK fun K hK=>wpi_text_k S (.inr ⟨_,rfl⟩) rfl ?hm ?hB fun K2 hK2 wz S=>?_)
           case hm=>kernel_rfl
           case hB=>decide +kernel
           go_wp2_with first | ((with_reducible refine tot_done ?ht ?_);(case ht=>kernel_rfl)) | ((with_reducible apply wps_load S 0);(case hx|hi|hu=>rfl);(case hT=>decide +kernel)) | ((with_reducible apply wps_load S 6);(case hx|hi|hu=>rfl);(case hT=>decide +kernel)) | ((with_reducible apply wps_load S 10);(case hx|hi|hu=>rfl);(case hT=>decide +kernel)) | ((with_reducible apply wps_load S 5);(case hx|hi|hu=>rfl);(case hT=>decide +kernel))
           refine hK2 _ _ (hK _ _ ?_)
           clear hK hK2 K K2
           refine wpIn_cond_true (by first | rfl | (simp [Act.eval,f1,f2];done)) (wpi_list_k (.inr ⟨_,rfl⟩) rfl fun K2 hK2=>?_)
           go_wp2_with first | ((with_reducible apply wps_load S 4);(case hx|hi|hu=>rfl);(case hT=>decide +kernel)) | ((with_reducible apply wps_loada (T:=58) (k:=7) S 0);(case hx|hi=>rfl);(case hk=>exact nle rfl);(case hT=>decide +kernel)) | ((with_reducible apply wps_build1a (T:=53) (E:=58) S);(case hx=>rfl);(case hr=>intro w;kernel_rfl);clear S;intro bz wz S) | ((with_reducible apply wps_append1 elem_Ev ecells eone (by decide) S 4 (j:=0) (e:=x));(case hx|hy|hi|hj|he=>rfl);(case hl=>omega);clear S;intro az nz cz wz hnz S;simp only [set_cons_succ,set_cons_zero] at S) | ((with_reducible apply wps_store (u:=(.slice az nz cz)) S 5);(case hx|hy|hi|h1=>rfl);(case hn=>exact nle rfl);(case hT=>decide +kernel);clear S;intro wz S;simp only [set_cons_succ,set_cons_zero,setIfInBounds_toArray] at S)
           refine hK2 _ _ ?_
           clear hK2 K2
           exact ⟨_,⟨_,_,HF2.symm,rfl⟩,S.pick [2,3,4,5,6,7,8,9,10,11,12] rfl⟩
         · rw [if_neg (by unfold frB;simp;omega),List.append_nil] at HF2
           have f1 : decide (p.freed ≤ x.key.at_) = true:=decide_eq_true hge
           have f2 : decide (x.key.at_ < below) = false:=decide_eq_false hlt
           clear hx hge hlt
           gi_wp2_with first
            | (refine wpi_at (.inr ⟨_,rfl⟩) rfl fun K hK=>?_
               go_wp2_with first | ((with_reducible apply wps_alloca (E:=58) S);(case hz=>exact Tryz.zeroValue58);clear S;intro b7 wz S) | ((with_reducible apply wps_storea (T:=58) S 0 (vs:=[.int .i64 x.key.at_,.int .i64 x.key.src,.int .i64 x.key.sent,.int .i64 x.key.no,.int .i64 x.dst,.int .i64 x.kind,.int .i64 x.data]) (m:=7));(case hx|hy|hi|hm|h1=>rfl);(case hn=>exact nle rfl);(case hT=>decide +kernel);clear S;intro wz S;simp only [set_cons_zero,set_cons_succ,setAll,setIfInBounds_toArray] at S)
               refine hK _ _ ?_
               (try simp only [Act.put]);(try simp only [setIfInBounds_toArray]);(try simp only [set_cons_succ]);(try simp only [set_cons_zero])
               clear hK K)
           refine ⟨_,S.lastSplit rfl,fun r' W2 S=>?_⟩
           simp only [List.dropLast,cons_append,nil_append] at S
           refine wpIn_block (wpIn_seq_nK fun K hK=>wpi_text_k S (.inr ⟨_,rfl⟩) rfl ?hm ?hB fun K2 hK2 wz S=>?_)
           case hm=>kernel_rfl
           case hB=>decide +kernel
           go_wp2_with first | ((with_reducible refine tot_done ?ht ?_);(case ht=>kernel_rfl)) | ((with_reducible apply wps_load S 0);(case hx|hi|hu=>rfl);(case hT=>decide +kernel)) | ((with_reducible apply wps_load S 6);(case hx|hi|hu=>rfl);(case hT=>decide +kernel)) | ((with_reducible apply wps_load S 10);(case hx|hi|hu=>rfl);(case hT=>decide +kernel)) | ((with_reducible apply wps_load S 5);(case hx|hi|hu=>rfl);(case hT=>decide +kernel))
           refine hK2 _ _ (hK _ _ ?_)
           clear hK hK2 K K2
           refine wpIn_cond_false (by first | rfl | (simp [Act.eval,f1,f2];done)) (wpIn_skip ?_)
           exact ⟨_,⟨_,_,HF2.symm,rfl⟩,S.pick [1,2,3,4,5,6,7,8,9,10,11] rfl⟩
       · rw [if_neg (by unfold frB;simp;omega),List.append_nil] at HF2
         have f1 : decide (p.freed ≤ x.key.at_) = false:=decide_eq_false hge
         clear hx hge
         gi_wp2_with first
          | (refine wpi_at (.inr ⟨_,rfl⟩) rfl fun K hK=>?_
             go_wp2_with first | ((with_reducible apply wps_alloca (E:=58) S);(case hz=>exact Tryz.zeroValue58);clear S;intro b7 wz S) | ((with_reducible apply wps_storea (T:=58) S 0 (vs:=[.int .i64 x.key.at_,.int .i64 x.key.src,.int .i64 x.key.sent,.int .i64 x.key.no,.int .i64 x.dst,.int .i64 x.kind,.int .i64 x.data]) (m:=7));(case hx|hy|hi|hm|h1=>rfl);(case hn=>exact nle rfl);(case hT=>decide +kernel);clear S;intro wz S;simp only [set_cons_zero,set_cons_succ,setAll,setIfInBounds_toArray] at S)
             refine hK _ _ ?_
             (try simp only [Act.put]);(try simp only [setIfInBounds_toArray]);(try simp only [set_cons_succ]);(try simp only [set_cons_zero])
             clear hK K)
         refine ⟨_,S.lastSplit rfl,fun r' W2 S=>?_⟩
         simp only [List.dropLast,cons_append,nil_append] at S
         refine wpIn_block (wpIn_seq_nK fun K hK=>wpi_text_k S (.inr ⟨_,rfl⟩) rfl ?hm ?hB fun K2 hK2 wz S=>?_)
         case hm=>kernel_rfl
         case hB=>decide +kernel
         go_wp2_with first | go_skip | ((with_reducible refine tot_done ?ht ?_);(case ht=>kernel_rfl)) | ((with_reducible apply wps_load S 0);(case hx|hi|hu=>rfl);(case hT=>decide +kernel)) | ((with_reducible apply wps_load S 6);(case hx|hi|hu=>rfl);(case hT=>decide +kernel)) | ((with_reducible apply wps_load S 10);(case hx|hi|hu=>rfl);(case hT=>decide +kernel))
         refine hK2 _ _ (hK _ _ ?_)
         clear hK hK2 K K2
         refine wpIn_cond_false (by first | rfl | (simp [Act.eval,f1];done)) (wpIn_skip ?_)
         exact ⟨_,⟨_,_,HF2.symm,rfl⟩,S.pick [1,2,3,4,5,6,7,8,9,10,11] rfl⟩
      case done=>
       rintro D W L ⟨lv,lo,HLO,rfl⟩ S
       simp only [cons_append,nil_append] at S
       rw [List.take_length] at HLO
       obtain ⟨sv2,hsv⟩ : ∃ sv2,rowFree below p.svs = sv2:=⟨_,rfl⟩
       have hsl : sv2.length ≤ 65536:=by rw [← hsv];exact Nat.le_trans (rowFree_len ..) HK.out.svs
       have HSB : Hid (∀ x ∈ sv2,-9223372036854775808 ≤ x.1 ∧ x.1 < 9223372036854775807):=Lib.hid fun x hx=>hs x (rowFree_mem (by rw [hsv];exact hx))
       have HRF:=Lib.hid fun w F S0=>rfree_calls Y p.svs below HK.out.svs w F S0
       rw [hsv] at HRF
       have HRA:=Lib.hid fun w F h=>rallA_calls Y sv2 hsl w F h
       have HSV:=Lib.hid hsv
       clear hsv
       unfold lpB at S
       replace S:=S.pick [0,3,4,5,6,7,8,9,10] rfl
       simp only [pick,nth] at S
       go_wp2_with first | ((with_reducible refine tot_done ?ht ?_);(case ht=>kernel_rfl)) | ((with_reducible apply wps_text S);(case hm=>kernel_rfl);(case hB=>decide +kernel);clear S;intro wz S) | ((with_reducible apply wps_load S 4);(case hx|hi|hu=>rfl);(case hT=>decide +kernel)) | ((with_reducible apply wps_load S 3);(case hx|hi|hu=>rfl);(case hT=>decide +kernel)) | ((with_reducible apply wps_store (u:=(.int .i64 below)) S 8);(case hx|hy|hi|h1=>rfl);(case hn=>exact nle rfl);(case hT=>decide +kernel);clear S;intro wz S;simp only [set_cons_succ,set_cons_zero,setIfInBounds_toArray] at S) | ((with_reducible apply wps_load S 8);(case hx|hi|hu=>rfl);(case hT=>decide +kernel)) | (go_at_call 212;obtain ⟨Fz,hF,hBk⟩:=S.lend [6] [] [0,1,2,3,4,5,7,8] rfl rfl rfl;simp only [cons_append,nil_append,pick,nth] at hF hBk;refine Calls.mono (HRF.out _ _ hF) ?_;rintro rr wz ⟨nz,rfl,T⟩;replace S:=(hBk _ _ T rfl).pick [1,2,3,4,5,6,0,7,8] rfl;clear hBk hF T;simp only [cons_append,nil_append,pick,nth] at S) | (go_at_call 213;refine Calls.mono (HRA.out _ _ (S.get (i:=6) rfl).choose_spec) ?_;rintro rr wz ⟨bs,vs,rfl,T⟩;replace S:=S.join T rfl;clear T;simp only [cons_append,nil_append] at S)
       replace S:=S.weak (i:=0) (A':=Blk true bs #[vs] 249) rfl (fun e=>by cases e) (fun F h=>⟨F,fun _ hb=>hb,h⟩)
       simp only [set_cons_zero] at S
       replace S:=S.freeze true 1 svcells rfl
       simp only [set_cons_zero,set_cons_succ] at S
       obtain ⟨BX,hBX⟩ : ∃ B,B = Blk false X #[.pointer (some ⟨Q,0,none⟩),.iface 115 (.agg #[.pointer (some ⟨R,0,none⟩)]),.int .i64 p.id,.int .i64 p.every,.bool p.lazy,.pointer (some ⟨T,0,none⟩),.pointer (some ⟨Y,0,none⟩),.int .i64 p.now,.int .i64 p.st.n0,.int .i64 p.st.n1,.int .i64 p.st.n2,.int .i64 p.st.n3,.int .i64 p.since,.int .i64 below,.int .i64 p.steps,.int .i64 p.coasted] 190:=⟨_,rfl⟩
       rw [← hBX] at S
       refine wps_range (rall1_iter bs vs sv2 hsl) S rfl (calls_enter Tryz.func258 (by kernel_rfl) rfl) (fun j L=>j = 0 ∧ L = Lf2 D b2 b3 b6 X Q T Y p below lv lo sv2 BX p.evs) (fun c _ L=>c = .exit 2 ∧ ∃ x,Hid (sv2[0]? = some x) ∧ L = Lf2 D b2 b3 b6 X Q T Y p below lv lo sv2 BX (dropE (x.1 + 1) p.evs)) ⟨rfl,rfl⟩ (fun x args N h=>by obtain ⟨rfl,_⟩:=h;rfl) ?round ?done ?stop
       case round=>
        rintro lp D3 r j x args N L W hx ⟨rfl,rfl⟩ ⟨rfl,rfl⟩ S
        unfold Lf2 at S
        simp only [zip_two2,setIfInBounds_toArray,set_cons_succ,set_cons_zero,cons_append,nil_append] at S ⊢
        subst hBX
        gi_wp2_with first
         | (refine wpi_at (.inr ⟨_,rfl⟩) rfl fun K hK=>?_
            go_wp2_with first | ((with_reducible refine tot_done ?ht ?_);(case ht=>kernel_rfl))
            refine hK _ _ ?_
            (try simp only [Act.put]);(try simp only [setIfInBounds_toArray]);(try simp only [set_cons_succ]);(try simp only [set_cons_zero])
            clear hK K)
        refine ⟨_,S.lastSplit rfl,fun r' W2 S=>?_⟩
        simp only [List.dropLast,cons_append,nil_append] at S
        obtain ⟨hb1,hb2⟩:=HSB.out x (List.mem_of_getElem? hx)
        have HX:=Lib.hid hx
        have HQD:=Lib.hid fun w F S0=>qdrop_calls Q p.evs p.ans (x.1 + 1) HK.out.evs w F S0
        clear hx
        refine wpIn_block (wpIn_seq_nK fun K hK=>wpi_list_k (.inr ⟨_,rfl⟩) rfl fun K2 hK2=>?_)
        go_wp2_with first | ((with_reducible apply wps_load S 6);(case hx|hi|hu=>rfl);(case hT=>decide +kernel)) | ((with_reducible apply wps_load S 10);(case hx|hi|hu=>rfl);(case hT=>decide +kernel)) | (go_at_call 214;obtain ⟨Fz,hF,hBk⟩:=S.lend [9] [] [0,1,2,3,4,5,6,7,8,10,11] rfl rfl rfl;simp only [cons_append,nil_append,pick,nth] at hF hBk;refine Calls.mono (HQD.out _ _ hF) ?_;rintro rr wz ⟨vz,rfl,T⟩;replace S:=(hBk _ _ T rfl).pick [1,2,3,4,5,6,7,8,9,0,10,11] rfl;clear hBk hF T;simp only [cons_append,nil_append,pick,nth] at S)
        refine hK2 _ _ (hK _ _ ?_)
        clear hK hK2 K K2
        refine wpIn_exit ?_
        exact ⟨_,⟨rfl,x,HX,rfl⟩,S⟩
       case stop=>
        rintro D3 c j W L hj ⟨rfl,x,HX,rfl⟩ S
        unfold Lf2 at S
        simp only [cons_append,nil_append] at S
        have HEV : Hid (evsFree below p = dropE (x.1 + 1) p.evs):=Lib.hid (by
         unfold evsFree
         rw [HSV.out]
         cases sv2 with
         | nil=>have:=HX.out;simp at this
         | cons y l=>have:=HX.out;simp only [List.getElem?_cons_zero,Option.some.injEq] at this;rw [this])
        subst hBX
        refine wp_exit ?_
        have HRD:=Lib.hid fun w F S0=>odrop_calls T below p.recs HK.out.recs w F S0
        replace S:=S.pick [0,3,4,5,6,7,8,9,10,11] rfl
        simp only [pick,nth] at S
        go_wp2_with first | ((with_reducible refine tot_done ?ht ?_);(case ht=>kernel_rfl)) | ((with_reducible apply wps_text S);(case hm=>kernel_rfl);(case hB=>decide +kernel);clear S;intro wz S) | ((with_reducible apply wps_load S 5);(case hx|hi|hu=>rfl);(case hT=>decide +kernel)) | ((with_reducible apply wps_load S 9);(case hx|hi|hu=>rfl);(case hT=>decide +kernel)) | ((with_reducible apply wps_load S 4);(case hx|hi|hu=>rfl);(case hT=>decide +kernel)) | (go_at_call 215;obtain ⟨Fz,hF,hBk⟩:=S.lend [6] [] [0,1,2,3,4,5,7,8,9] rfl rfl rfl;simp only [cons_append,nil_append,pick,nth] at hF hBk;refine Calls.mono (HRD.out _ _ hF) ?_;rintro rr wz ⟨nz2,rfl,T⟩;replace S:=(hBk _ _ T rfl).pick [1,2,3,4,5,6,0,7,8,9] rfl;clear hBk hF T;simp only [cons_append,nil_append,pick,nth] at S) | ((with_reducible apply wps_load S 3);(case hx|hi|hu=>rfl);(case hT=>decide +kernel))
        refine leaves_ret2 S rfl fun w' S=>⟨_,results2 rfl (res_tmp rfl) (res_tmp rfl),.inr (.inr ⟨by rw [HV.out];have:=HGT.out;omega,by have:=HFR.out;omega,lv,rfl,?_⟩)⟩
        have S2:=S.pick [4,5,6,7,0] rfl
        simp only [pick,nth] at S2
        have S3 : St F w w' [lpA X R (freeE below p),Mem.Own 58 Event.cells 7 lv lo]:=lp_close (p:=freeE below p) (Q:=Q) (T:=T) (Y:=Y) (by
         show St F w w' [sentA T (p.recs.filter fun r=>!dropB below r),rowA Y (rowFree below p.svs),queueA Q (evsFree below p) p.ans,lpB X Q T Y R (freeE below p),Mem.Own 58 Event.cells 7 lv lo]
         rw [HEV.out,HSV.out]
         exact S2)
        rw [show freedL below p = lo from HLO.out.symm]
        exact S3.pick [1,0] rfl
       case done=>
        rintro D3 W L ⟨h0,rfl⟩ S
        unfold Lf2 at S
        simp only [cons_append,nil_append] at S
        have HEV : Hid (evsFree below p = p.evs):=Lib.hid (by
         unfold evsFree
         rw [HSV.out,List.length_eq_zero_iff.1 h0])
        subst hBX
        have HRD:=Lib.hid fun w F S0=>odrop_calls T below p.recs HK.out.recs w F S0
        replace S:=S.pick [0,3,4,5,6,7,8,9,10,11] rfl
        simp only [pick,nth] at S
        go_wp2_with first | ((with_reducible refine tot_done ?ht ?_);(case ht=>kernel_rfl)) | ((with_reducible apply wps_text S);(case hm=>kernel_rfl);(case hB=>decide +kernel);clear S;intro wz S) | ((with_reducible apply wps_load S 5);(case hx|hi|hu=>rfl);(case hT=>decide +kernel)) | ((with_reducible apply wps_load S 9);(case hx|hi|hu=>rfl);(case hT=>decide +kernel)) | ((with_reducible apply wps_load S 4);(case hx|hi|hu=>rfl);(case hT=>decide +kernel)) | (go_at_call 215;obtain ⟨Fz,hF,hBk⟩:=S.lend [6] [] [0,1,2,3,4,5,7,8,9] rfl rfl rfl;simp only [cons_append,nil_append,pick,nth] at hF hBk;refine Calls.mono (HRD.out _ _ hF) ?_;rintro rr wz ⟨nz2,rfl,T⟩;replace S:=(hBk _ _ T rfl).pick [1,2,3,4,5,6,0,7,8,9] rfl;clear hBk hF T;simp only [cons_append,nil_append,pick,nth] at S) | ((with_reducible apply wps_load S 3);(case hx|hi|hu=>rfl);(case hT=>decide +kernel))
        refine leaves_ret2 S rfl fun w' S=>⟨_,results2 rfl (res_tmp rfl) (res_tmp rfl),.inr (.inr ⟨by rw [HV.out];have:=HGT.out;omega,by have:=HFR.out;omega,lv,rfl,?_⟩)⟩
        have S2:=S.pick [4,5,6,7,0] rfl
        simp only [pick,nth] at S2
        have S3 : St F w w' [lpA X R (freeE below p),Mem.Own 58 Event.cells 7 lv lo]:=lp_close (p:=freeE below p) (Q:=Q) (T:=T) (Y:=Y) (by
         show St F w w' [sentA T (p.recs.filter fun r=>!dropB below r),rowA Y (rowFree below p.svs),queueA Q (evsFree below p) p.ans,lpB X Q T Y R (freeE below p),Mem.Own 58 Event.cells 7 lv lo]
         rw [HEV.out,HSV.out]
         exact S2)
        rw [show freedL below p = lo from HLO.out.symm]
        exact S3.pick [1,0] rfl
end Go.Proofs.YtmjljoaakdocaaaGreatDoor
