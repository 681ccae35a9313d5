import Derived.Test.YtmjljoaakdocaaaGreatDoorY07
/- The walks of slices.Contains and Min of ints, and of a master's Report. -/
set_option maxHeartbeats 16000000
set_option maxRecDepth 100000
namespace Go.Proofs.YtmjljoaakdocaaaGreatDoor
open Go Go.RowKit Reg Mem
open List (set_cons_succ set_cons_zero setIfInBounds_toArray cons_append nil_append)
def SiGRel (v : Value) (l : List Int) (x : Int) (w : World) (i : Value) (wr : World) : Prop:=
 ∃ j : Nat,j ≤ l.length ∧ i = .int .i64 j ∧ Hid (∀ (q : Nat) y,q < j → l[q]? = some y → y ≠ x) ∧ St (fun _=>False) w wr [Sl true intE 1 v l]
theorem sindex_calls (v : Value) (l : List Int) (x : Int) (hn : l.length ≤ 65536) (w : World) (F : Nat → Prop) (h : (Sl true intE 1 v l).at_ w F) :
 Calls Tryz.prog 175 #[v,.int .i64 x] w fun e w'=>∃ r : Int,e = .returned (.int .i64 r) ∧ decide (r ≥ 0) = decide (x ∈ l) ∧ Below w.heap.size w w':=by
 have S : St (fun _=>False) w w [Sl true intE 1 v l]:=(St.init _ w).share rfl rfl h
 clear h
 obtain ⟨ad,c,rfl,_⟩:=(S.sl 0 rfl).elim fun _ h=>h.form
 go_enter Tryz.func175,Tryz.ntmps175
 go_wp2_with first | ((with_reducible apply wps_load S 0);(case hx|hi|hu=>rfl);(case hT=>decide +kernel))
 go_loopw [8] (fun i wr=>SiGRel (.slice ad l.length c) l x w i wr) (fun i _=>l.length - (intOf i).toNat)
 case atStart=>exact ⟨0,Nat.zero_le _,rfl,Lib.hid fun q y h=>by omega,S⟩
 case round=>
  clear S
  obtain ⟨j,hj,rfl,HJ,S⟩:=hrel
  by_cases hlt : j < l.length
  · obtain ⟨y,hy⟩ : ∃ y,l[j]? = some y:=⟨_,List.getElem?_eq_getElem hlt⟩
    obtain ⟨R,o,rfl⟩ : ∃ R o,ad = some ⟨R,o,none⟩:=(S.sl 0 rfl).elim fun F h=>h.head (by omega)
    have hlt2 : (j : Int) < l.length:=by omega
    have HY:=Lib.hid hy
    by_cases hxy : x = y
    · have f1 : (x == y) = true:=by simpa using hxy
      have HM : Hid (x ∈ l):=Lib.hid (by rw [hxy];exact List.mem_of_getElem? hy)
      clear hxy hy
      go_wp2_with first | ((with_reducible apply wps_load_el S 0 (hj:=HY.out) (q:=0) (u:=(.int .i64 y)));(case hx|hi=>rfl);(case hn=>omega);(case hu=>rfl);(case hT=>decide +kernel))
      go_ret
      exact ⟨j,rfl,by rw [decide_eq_true HM.out,decide_eq_true (by omega)],S.below⟩
    · have f1 : (x == y) = false:=by simpa using hxy
      have HJ2 : Hid (∀ (q : Nat) z,q < j + 1 → l[q]? = some z → z ≠ x):=Lib.hid fun q z hq hz=>by
       rcases Nat.lt_or_eq_of_le (Nat.le_of_lt_succ hq) with h | rfl
       · exact HJ.out q z h hz
       · rw [hy] at hz;cases hz;exact fun e=>hxy e.symm
      clear hxy hy
      go_wp2_with first | ((with_reducible apply wps_load_el S 0 (hj:=HY.out) (q:=0) (u:=(.int .i64 y)));(case hx|hi=>rfl);(case hn=>omega);(case hu=>rfl);(case hT=>decide +kernel))
      go_roundw
      case rel=>exact ⟨j + 1,by omega,by go_num,HJ2,S⟩
      case measure=>first | (simp [intOf];done) | (simp [intOf];omega)
  · obtain rfl : j = l.length:=by omega
    have HM : Hid (x ∉ l):=Lib.hid fun hm=>by
     obtain ⟨q,hq,e⟩:=List.mem_iff_getElem.1 hm
     exact HJ.out q x hq (by rw [List.getElem?_eq_getElem hq,e]) rfl
    go_wp2_with first | ((with_reducible apply wps_load S 0);(case hx|hi|hu=>rfl);(case hT=>decide +kernel))
    go_ret
    exact ⟨-1,rfl,by rw [decide_eq_false HM.out];rfl,S.below⟩
theorem scontains_calls (v : Value) (l : List Int) (x : Int) (hn : l.length ≤ 65536) (w : World) (F : Nat → Prop) (h : (Sl true intE 1 v l).at_ w F) :
 Calls Tryz.prog 136 #[v,.int .i64 x] w fun e w'=>e = .returned (.bool (decide (x ∈ l))) ∧ Below w.heap.size w w':=by
 have S : St (fun _=>False) w w [Sl true intE 1 v l]:=(St.init _ w).share rfl rfl h
 clear h
 have HS:=Lib.hid fun w F h=>sindex_calls v l x hn w F h
 generalize decide (x ∈ l) = b at *
 go_enter Tryz.func136,Tryz.ntmps136
 go_wp2_with first | (go_at_call 175;refine Calls.mono (HS.out _ _ (S.get (i:=0) rfl).choose_spec) ?_;rintro e wz ⟨r,rfl,hr,hE⟩;have HR:=Lib.hid hr;clear hr;replace S:=S.ext (Keep.of_below hE);clear hE)
 go_ret
 exact ⟨ret_bool HR.out,S.below⟩
def minL : List Int → Int
 | []=>0
 | x :: l=>l.foldl min x
def SmRel (v : Value) (l : List Int) (x : Int) (w : World) (m i : Value) (wr : World) : Prop:=
 ∃ (j : Nat) (z : Int),1 ≤ j ∧ j ≤ l.length + 1 ∧ i = .int .i64 j ∧ m = .int .i64 z ∧ Hid ((l.take (j - 1)).foldl min x = z) ∧ St (fun _=>False) w wr [Sl true intE 1 v (x :: l)]
theorem smin_calls (v : Value) (x : Int) (l : List Int) (hn : l.length ≤ 65536) (w : World) (F : Nat → Prop) (h : (Sl true intE 1 v (x :: l)).at_ w F) :
 Calls Tryz.prog 137 #[v] w fun e w'=>e = .returned (.int .i64 (minL (x :: l))) ∧ Below w.heap.size w w':=by
 have S : St (fun _=>False) w w [Sl true intE 1 v (x :: l)]:=(St.init _ w).share rfl rfl h
 clear h
 obtain ⟨ad,c,rfl,_⟩:=(S.sl 0 rfl).elim fun _ h=>h.form
 obtain ⟨R,o,rfl⟩ : ∃ R o,ad = some ⟨R,o,none⟩:=(S.sl 0 rfl).elim fun F h=>h.head (by simp)
 have HX : Hid ((x :: l)[0]? = some x):=Lib.hid rfl
 have hl1 : (x :: l).length = l.length + 1:=rfl
 have HL:=Lib.hid hl1
 obtain ⟨V,hV⟩ : ∃ V,minL (x :: l) = V:=⟨_,rfl⟩
 rw [hV]
 have HV:=Lib.hid hV
 clear hV
 rw [hl1] at S ⊢
 clear hl1
 go_enter Tryz.func137,Tryz.ntmps137
 go_wp2_with first | ((with_reducible apply wps_load_el S 0 (hj:=HX.out) (q:=0) (u:=(.int .i64 x)));(case hx|hi=>rfl);(case hn=>omega);(case hu=>rfl);(case hT=>decide +kernel))
 go_loopw [3,4] (fun m i wr=>SmRel (.slice (some ⟨R,o,none⟩) (l.length + 1) c) l x w m i wr) (fun _ i _=>l.length + 1 - (intOf i).toNat)
 case atStart=>exact ⟨1,x,Nat.le_refl _,by omega,rfl,rfl,Lib.hid rfl,S⟩
 case round=>
  clear S
  obtain ⟨j,z,hj1,hj,rfl,rfl,HJ,S⟩:=hrel
  by_cases hlt : j < l.length + 1
  · obtain ⟨y,hy⟩ : ∃ y,l[j - 1]? = some y:=⟨_,List.getElem?_eq_getElem (by omega)⟩
    have HY : Hid ((x :: l)[j]? = some y):=Lib.hid (by rw [show j = (j - 1) + 1 by omega,List.getElem?_cons_succ];exact hy)
    have HJ2 : Hid ((l.take (j + 1 - 1)).foldl min x = min z y):=Lib.hid (by
     rw [show j + 1 - 1 = (j - 1) + 1 by omega,List.take_add_one,hy,Option.toList_some,List.foldl_append,HJ.out];rfl)
    have hlt2 : (j : Int) < (l.length : Int) + 1:=by omega
    clear hy
    go_wp2_with first | ((with_reducible apply wps_load_el S 0 (hj:=HY.out) (q:=0) (u:=(.int .i64 y)));(case hx|hi=>rfl);(case hn=>omega);(case hu=>rfl);(case hT=>decide +kernel))
    go_roundw
    case rel=>exact ⟨j + 1,_,by omega,by omega,by go_num,rfl,Lib.hid (by rw [HJ2.out,Int.min_def];split <;> split <;> omega),S⟩
    case measure=>first | (simp [intOf];done) | (simp [intOf];omega)
  · obtain rfl : j = l.length + 1:=by omega
    rw [show l.length + 1 - 1 = l.length by omega,List.take_length] at HJ
    have HZ : Hid (z = V):=Lib.hid (HJ.out.symm.trans HV.out)
    go_wp2_with first | ((with_reducible apply wps_load S 0);(case hx|hi|hu=>rfl);(case hT=>decide +kernel))
    go_ret
    exact ⟨ret_int HZ.out,S.below⟩
def repM (m : MaE) (n : Nat) (t : Int) : MaE:=if -1 ∈ m.reps.set n t then { m with reps:=m.reps.set n t } else ⟨m.no,false,max m.time (minL (m.reps.set n t)),m.reps.set n t⟩
def repAll (m : MaE) (n : Nat) (t : Int) : Bool:=decide (-1 ∉ m.reps.set n t)
theorem mreport_calls (X : Nat) (m : MaE) (n : Nat) (t z : Int) (w : World) (F : Nat → Prop) (S0 : St F w w [masterA X m]) (hn : m.reps.length ≤ 8) (hz : m.reps[n]? = some z) (hz0 : z < 0) (ht : timeB t = true) (hr : m.runs = true) :
 Calls Tryz.prog 92 #[.pointer (some ⟨X,0,none⟩),.int .i64 n,.int .i64 m.no,.int .i64 t] w fun e w'=>e = .returned (.tuple #[.bool (repAll m n t),.int .i64 0]) ∧ St F w w' [masterA X (repM m n t)]:=by
 obtain ⟨v,S⟩:=master_open S0
 clear S0
 have hnl:=(List.getElem?_eq_some_iff.1 hz).1
 have HT:=Lib.hid fun w=>isTime_calls t w
 rw [ht] at HT
 rw [hr] at S
 obtain ⟨ad,c,rfl,_⟩:=(S.ownsl intE_len 1 rfl).elim fun _ h=>h.form
 obtain ⟨R,rfl⟩ : ∃ R,ad = some ⟨R,0,none⟩:=by obtain ⟨R,c2,e1⟩:=own_hdE 1 S rfl (by omega);simp only [Value.slice.injEq] at e1;exact ⟨R,e1.1⟩
 obtain ⟨no,runs,time,l⟩:=m
 simp only at *
 subst hr
 have HZ:=Lib.hid hz
 have f1 : decide ((n : Int) < 0) = false:=decide_eq_false (by omega)
 have f2 : decide ((n : Int) ≥ (l.length : Int)) = false:=decide_eq_false (by omega)
 have f2' : decide (l.length ≤ n) = false:=decide_eq_false (by omega)
 have f3 : decide (z ≥ 0) = false:=decide_eq_false (by omega)
 have f4 : (no != no) = false:=by simp
 have hn2 : (n : Int) < l.length:=by omega
 obtain ⟨r,hrr⟩ : ∃ r,l.set n t = r:=⟨_,rfl⟩
 have HR:=Lib.hid hrr
 have hrl : r.length ≤ 65536:=by rw [← hrr,List.length_set];omega
 have hrl2 : r.length = l.length:=by rw [← hrr,List.length_set]
 have HRL:=Lib.hid hrl2
 have HC:=Lib.hid fun w F h=>scontains_calls (.slice (some ⟨R,0,none⟩) l.length c) r (-1) hrl w F h
 obtain ⟨x,r2,hx⟩ : ∃ x r2,r = x :: r2:=by cases r with
  | nil=>simp at hrl2;omega
  | cons x r2=>exact ⟨x,r2,rfl⟩
 have HM:=Lib.hid fun w F h=>smin_calls (.slice (some ⟨R,0,none⟩) l.length c) x r2 (by rw [hx] at hrl;simp at hrl;omega) w F h
 rw [← hx] at HM
 unfold repM repAll
 simp only [hrr]
 clear hz hz0 ht hrr hx hrl hrl2
 by_cases hm : -1 ∈ r
 · rw [decide_eq_true hm] at HC
   rw [if_pos hm,decide_eq_false (fun h=>h hm)]
   clear hm
   go_enter Tryz.func92,Tryz.ntmps92
   go_wp2_with first | ((with_reducible apply wps_load S 0);(case hx|hi|hu=>rfl);(case hT=>decide +kernel)) | (go_at_call 135;refine Calls.mono (HT.out _) ?_;rintro e wz ⟨rfl,hE⟩;replace S:=S.ext (Keep.of_below hE);clear hE) | ((with_reducible apply wps_load_own intE_len S 1 (hj:=HZ.out) (q:=0) (u:=(.int .i64 z)));(case hx|hi=>rfl);(case hn=>omega);(case hu=>rfl);(case hT=>decide +kernel)) | ((with_reducible apply wps_store_own intE_len S 1 (hj:=HZ.out) (e':=t) (q:=0));(case hx=>rfl);(case hn=>omega);(case hi|hy|h1|he=>rfl);(case hq=>decide);(case hT=>decide +kernel);clear S;intro wz S;simp only [set_cons_succ,set_cons_zero] at S;rw [HR.out] at S) | (go_at_call 136;refine Calls.mono (HC.out _ _ (own_sl (sh:=true) intE_len (S.get (i:=1) rfl).choose_spec)) ?_;rintro e wz ⟨rfl,hE⟩;replace S:=S.ext (Keep.of_below hE);clear hE)
   (try simp only [Exit.inBlock,Exit.then]);refine bodyPost_ret (results2 rfl (res_tmp rfl) (res_tmp rfl)) rfl ?_
   exact ⟨rfl,master_close S⟩
 · rw [decide_eq_false hm] at HC
   rw [if_neg hm,decide_eq_true hm]
   clear hm
   have hmx : max time (minL r) = if minL r ≤ time then time else minL r:=by split <;> omega
   rw [hmx]
   clear hmx
   by_cases hmt : minL r ≤ time
   · rw [if_pos hmt]
     go_enter Tryz.func92,Tryz.ntmps92
     go_wp2_with first | ((with_reducible apply wps_load S 0);(case hx|hi|hu=>rfl);(case hT=>decide +kernel)) | (go_at_call 135;refine Calls.mono (HT.out _) ?_;rintro e wz ⟨rfl,hE⟩;replace S:=S.ext (Keep.of_below hE);clear hE) | ((with_reducible apply wps_load_own intE_len S 1 (hj:=HZ.out) (q:=0) (u:=(.int .i64 z)));(case hx|hi=>rfl);(case hn=>omega);(case hu=>rfl);(case hT=>decide +kernel)) | ((with_reducible apply wps_store_own intE_len S 1 (hj:=HZ.out) (e':=t) (q:=0));(case hx=>rfl);(case hn=>omega);(case hi|hy|h1|he=>rfl);(case hq=>decide);(case hT=>decide +kernel);clear S;intro wz S;simp only [set_cons_succ,set_cons_zero] at S;rw [HR.out] at S) | (go_at_call 136;refine Calls.mono (HC.out _ _ (own_sl (sh:=true) intE_len (S.get (i:=1) rfl).choose_spec)) ?_;rintro e wz ⟨rfl,hE⟩;replace S:=S.ext (Keep.of_below hE);clear hE) | ((with_reducible apply wps_store (u:=(.bool false)) S 0);(case hx|hy|hi|h1=>rfl);(case hn=>exact nle rfl);(case hT=>decide +kernel);clear S;intro wz S;simp only [set_cons_succ,set_cons_zero,setIfInBounds_toArray] at S)
     replace S:=S.pick [1,0] rfl
     simp only [pick,nth] at S
     (refine wp_region_wt (soft:=[0,1,2,3,5,6,7]) (L:=[_]) (T:=[_]) S ?hm ?hB ?_);(case hm=>kernel_rfl);(case hB=>decide +kernel);clear S
     iterate 7
      (with_reducible apply softs_cons)
      (case hw=>
        (with_reducible apply soft_of);(case hi=>rfl)
        intro T wz S
        simp only [cons_append,nil_append] at S
        go_wp2_with first | ((with_reducible refine tot_done ?ht ?_);(case ht=>kernel_rfl))
        exact ⟨rfl,S⟩)
      (case hs=>exact ⟨_,rfl,by kernel_rfl⟩)
     refine softs_nil ?_
     (with_reducible apply W_hard2 (i:=4) (i':=8));(case hn=>rfl);(case hr=>decide +kernel)
     focus
      intro wz S
      (with_reducible apply hard_of);(case hi=>rfl)
      simp only [cons_append,nil_append] at S
      go_wp2_with first | ((with_reducible apply wps_load S 1);(case hx|hi|hu=>rfl);(case hT=>decide +kernel)) | ((with_reducible refine tot_done ?ht ?_);(case ht=>kernel_rfl))
      refine ⟨_,S,?_⟩
      clear S
      (with_reducible apply W_hard1 (i:=8));(case hn=>rfl);(case hr=>decide +kernel)
      intro wz S
      (with_reducible apply hard_of);(case hi=>rfl)
      simp only [cons_append,nil_append] at S
      go_wp2_with first | ((with_reducible apply wps_load S 1);(case hx|hi|hu=>rfl);(case hT=>decide +kernel)) | ((with_reducible refine tot_done ?ht ?_);(case ht=>kernel_rfl))
      refine ⟨_,S,?_⟩
      clear S
      (refine W_mid (f:=1) (soft:=[9,10,11,12]) rfl ?hB ?_);(case hB=>decide +kernel)
      iterate 4
       (with_reducible apply softs_cons)
       (case hw=>
         (with_reducible apply soft_of);(case hi=>rfl)
         intro T wz S
         simp only [cons_append,nil_append] at S
         go_wp2_with first | (go_at_call 137;refine Calls.mono (HM.out _ _ (own_sl (sh:=true) intE_len (S.get (i:=0) rfl).choose_spec)) ?_;rintro e wz ⟨rfl,hE⟩;replace S:=S.ext (Keep.of_below hE);clear hE) | ((with_reducible refine tot_done ?ht ?_);(case ht=>kernel_rfl))
         exact ⟨rfl,S⟩)
       (case hs=>exact ⟨_,rfl,by kernel_rfl⟩)
      refine softs_nil ?_
      (with_reducible apply W_hard1 (i:=13));(case hn=>rfl);(case hr=>decide +kernel)
      intro wz S
      (with_reducible apply hard_of);(case hi=>rfl)
      simp only [cons_append,nil_append] at S
      go_wp2_with first | ((with_reducible apply wps_store (u:=(.int .i64 time)) S 1);(case hx|hy|hi|h1=>rfl);(case hn=>exact nle rfl);(case hT=>decide +kernel);clear S;intro wz S;simp only [set_cons_succ,set_cons_zero,setIfInBounds_toArray] at S) | ((with_reducible refine tot_done ?ht ?_);(case ht=>kernel_rfl))
      refine ⟨_,S,?_⟩
      clear S
      (with_reducible apply W_done);(case hn=>rfl);(case hr=>decide +kernel)
      intro wz S
      repeat (first | simp only at S | simp only [pick] at S | simp only [nth] at S | simp only [set_cons_succ] at S | simp only [set_cons_zero] at S | simp only [setIfInBounds_toArray] at S | simp only [setAll] at S | simp only [cons_append] at S | simp only [nil_append] at S | simp only [List.append_nil] at S)
     rotate_left 1
     focus
      intro wz S
      (with_reducible apply hard_of);(case hi=>rfl)
      simp only [cons_append,nil_append] at S
      go_wp2_with first | ((with_reducible apply wps_load S 1);(case hx|hi|hu=>rfl);(case hT=>decide +kernel)) | ((with_reducible refine tot_done ?ht ?_);(case ht=>kernel_rfl))
      refine ⟨_,S,?_⟩
      clear S
      (refine W_mid (f:=5) (soft:=[9]) rfl ?hB ?_);(case hB=>decide +kernel)
      iterate 1
       (with_reducible apply softs_cons)
       (case hw=>
         (with_reducible apply soft_of);(case hi=>rfl)
         intro T wz S
         simp only [cons_append,nil_append] at S
         go_wp2_with first | (go_at_call 137;refine Calls.mono (HM.out _ _ (own_sl (sh:=true) intE_len (S.get (i:=0) rfl).choose_spec)) ?_;rintro e wz ⟨rfl,hE⟩;replace S:=S.ext (Keep.of_below hE);clear hE) | ((with_reducible refine tot_done ?ht ?_);(case ht=>kernel_rfl))
         exact ⟨rfl,S⟩)
       (case hs=>exact ⟨_,rfl,by kernel_rfl⟩)
      refine softs_nil ?_
      (with_reducible apply W_hard1 (i:=4));(case hn=>rfl);(case hr=>decide +kernel)
      intro wz S
      (with_reducible apply hard_of);(case hi=>rfl)
      simp only [cons_append,nil_append] at S
      go_wp2_with first | ((with_reducible apply wps_load S 1);(case hx|hi|hu=>rfl);(case hT=>decide +kernel)) | ((with_reducible refine tot_done ?ht ?_);(case ht=>kernel_rfl))
      refine ⟨_,S,?_⟩
      clear S
      (refine W_mid (f:=1) (soft:=[10,11,12]) rfl ?hB ?_);(case hB=>decide +kernel)
      iterate 3
       (with_reducible apply softs_cons)
       (case hw=>
         (with_reducible apply soft_of);(case hi=>rfl)
         intro T wz S
         simp only [cons_append,nil_append] at S
         go_wp2_with first | ((with_reducible refine tot_done ?ht ?_);(case ht=>kernel_rfl))
         exact ⟨rfl,S⟩)
       (case hs=>exact ⟨_,rfl,by kernel_rfl⟩)
      refine softs_nil ?_
      (with_reducible apply W_hard1 (i:=13));(case hn=>rfl);(case hr=>decide +kernel)
      intro wz S
      (with_reducible apply hard_of);(case hi=>rfl)
      simp only [cons_append,nil_append] at S
      go_wp2_with first | ((with_reducible apply wps_store (u:=(.int .i64 time)) S 1);(case hx|hy|hi|h1=>rfl);(case hn=>exact nle rfl);(case hT=>decide +kernel);clear S;intro wz S;simp only [set_cons_succ,set_cons_zero,setIfInBounds_toArray] at S) | ((with_reducible refine tot_done ?ht ?_);(case ht=>kernel_rfl))
      refine ⟨_,S,?_⟩
      clear S
      (with_reducible apply W_done);(case hn=>rfl);(case hr=>decide +kernel)
      intro wz S
      repeat (first | simp only at S | simp only [pick] at S | simp only [nth] at S | simp only [set_cons_succ] at S | simp only [set_cons_zero] at S | simp only [setIfInBounds_toArray] at S | simp only [setAll] at S | simp only [cons_append] at S | simp only [nil_append] at S | simp only [List.append_nil] at S)
     all_goals
      go_wp2_with first | ((with_reducible apply wps_load S 0);(case hx|hi|hu=>rfl);(case hT=>decide +kernel))
      (try simp only [Exit.inBlock,Exit.then]);refine bodyPost_ret (results2 rfl (res_tmp rfl) (res_tmp rfl)) rfl ?_
      exact ⟨rfl,master_close (S.pick [1,0] rfl)⟩
   · rw [if_neg hmt]
     go_enter Tryz.func92,Tryz.ntmps92
     go_wp2_with first | ((with_reducible apply wps_load S 0);(case hx|hi|hu=>rfl);(case hT=>decide +kernel)) | (go_at_call 135;refine Calls.mono (HT.out _) ?_;rintro e wz ⟨rfl,hE⟩;replace S:=S.ext (Keep.of_below hE);clear hE) | ((with_reducible apply wps_load_own intE_len S 1 (hj:=HZ.out) (q:=0) (u:=(.int .i64 z)));(case hx|hi=>rfl);(case hn=>omega);(case hu=>rfl);(case hT=>decide +kernel)) | ((with_reducible apply wps_store_own intE_len S 1 (hj:=HZ.out) (e':=t) (q:=0));(case hx=>rfl);(case hn=>omega);(case hi|hy|h1|he=>rfl);(case hq=>decide);(case hT=>decide +kernel);clear S;intro wz S;simp only [set_cons_succ,set_cons_zero] at S;rw [HR.out] at S) | (go_at_call 136;refine Calls.mono (HC.out _ _ (own_sl (sh:=true) intE_len (S.get (i:=1) rfl).choose_spec)) ?_;rintro e wz ⟨rfl,hE⟩;replace S:=S.ext (Keep.of_below hE);clear hE) | ((with_reducible apply wps_store (u:=(.bool false)) S 0);(case hx|hy|hi|h1=>rfl);(case hn=>exact nle rfl);(case hT=>decide +kernel);clear S;intro wz S;simp only [set_cons_succ,set_cons_zero,setIfInBounds_toArray] at S)
     replace S:=S.pick [1,0] rfl
     simp only [pick,nth] at S
     (refine wp_region_wt (soft:=[0,1,2,3,5,6,7]) (L:=[_]) (T:=[_]) S ?hm ?hB ?_);(case hm=>kernel_rfl);(case hB=>decide +kernel);clear S
     iterate 7
      (with_reducible apply softs_cons)
      (case hw=>
        (with_reducible apply soft_of);(case hi=>rfl)
        intro T wz S
        simp only [cons_append,nil_append] at S
        go_wp2_with first | ((with_reducible refine tot_done ?ht ?_);(case ht=>kernel_rfl))
        exact ⟨rfl,S⟩)
      (case hs=>exact ⟨_,rfl,by kernel_rfl⟩)
     refine softs_nil ?_
     (with_reducible apply W_hard2 (i:=4) (i':=8));(case hn=>rfl);(case hr=>decide +kernel)
     focus
      intro wz S
      (with_reducible apply hard_of);(case hi=>rfl)
      simp only [cons_append,nil_append] at S
      go_wp2_with first | ((with_reducible apply wps_load S 1);(case hx|hi|hu=>rfl);(case hT=>decide +kernel)) | ((with_reducible refine tot_done ?ht ?_);(case ht=>kernel_rfl))
      refine ⟨_,S,?_⟩
      clear S
      (with_reducible apply W_hard1 (i:=8));(case hn=>rfl);(case hr=>decide +kernel)
      intro wz S
      (with_reducible apply hard_of);(case hi=>rfl)
      simp only [cons_append,nil_append] at S
      go_wp2_with first | ((with_reducible apply wps_load S 1);(case hx|hi|hu=>rfl);(case hT=>decide +kernel)) | ((with_reducible refine tot_done ?ht ?_);(case ht=>kernel_rfl))
      refine ⟨_,S,?_⟩
      clear S
      (refine W_mid (f:=1) (soft:=[9,10,11,12]) rfl ?hB ?_);(case hB=>decide +kernel)
      iterate 4
       (with_reducible apply softs_cons)
       (case hw=>
         (with_reducible apply soft_of);(case hi=>rfl)
         intro T wz S
         simp only [cons_append,nil_append] at S
         go_wp2_with first | (go_at_call 137;refine Calls.mono (HM.out _ _ (own_sl (sh:=true) intE_len (S.get (i:=0) rfl).choose_spec)) ?_;rintro e wz ⟨rfl,hE⟩;replace S:=S.ext (Keep.of_below hE);clear hE) | ((with_reducible refine tot_done ?ht ?_);(case ht=>kernel_rfl))
         exact ⟨rfl,S⟩)
       (case hs=>exact ⟨_,rfl,by kernel_rfl⟩)
      refine softs_nil ?_
      (with_reducible apply W_hard1 (i:=13));(case hn=>rfl);(case hr=>decide +kernel)
      intro wz S
      (with_reducible apply hard_of);(case hi=>rfl)
      simp only [cons_append,nil_append] at S
      go_wp2_with first | ((with_reducible apply wps_store (u:=(.int .i64 (minL r))) S 1);(case hx|hy|hi|h1=>rfl);(case hn=>exact nle rfl);(case hT=>decide +kernel);clear S;intro wz S;simp only [set_cons_succ,set_cons_zero,setIfInBounds_toArray] at S) | ((with_reducible refine tot_done ?ht ?_);(case ht=>kernel_rfl))
      refine ⟨_,S,?_⟩
      clear S
      (with_reducible apply W_done);(case hn=>rfl);(case hr=>decide +kernel)
      intro wz S
      repeat (first | simp only at S | simp only [pick] at S | simp only [nth] at S | simp only [set_cons_succ] at S | simp only [set_cons_zero] at S | simp only [setIfInBounds_toArray] at S | simp only [setAll] at S | simp only [cons_append] at S | simp only [nil_append] at S | simp only [List.append_nil] at S)
     rotate_left 1
     focus
      intro wz S
      (with_reducible apply hard_of);(case hi=>rfl)
      simp only [cons_append,nil_append] at S
      go_wp2_with first | ((with_reducible apply wps_load S 1);(case hx|hi|hu=>rfl);(case hT=>decide +kernel)) | ((with_reducible refine tot_done ?ht ?_);(case ht=>kernel_rfl))
      refine ⟨_,S,?_⟩
      clear S
      (refine W_mid (f:=5) (soft:=[9]) rfl ?hB ?_);(case hB=>decide +kernel)
      iterate 1
       (with_reducible apply softs_cons)
       (case hw=>
         (with_reducible apply soft_of);(case hi=>rfl)
         intro T wz S
         simp only [cons_append,nil_append] at S
         go_wp2_with first | (go_at_call 137;refine Calls.mono (HM.out _ _ (own_sl (sh:=true) intE_len (S.get (i:=0) rfl).choose_spec)) ?_;rintro e wz ⟨rfl,hE⟩;replace S:=S.ext (Keep.of_below hE);clear hE) | ((with_reducible refine tot_done ?ht ?_);(case ht=>kernel_rfl))
         exact ⟨rfl,S⟩)
       (case hs=>exact ⟨_,rfl,by kernel_rfl⟩)
      refine softs_nil ?_
      (with_reducible apply W_hard1 (i:=4));(case hn=>rfl);(case hr=>decide +kernel)
      intro wz S
      (with_reducible apply hard_of);(case hi=>rfl)
      simp only [cons_append,nil_append] at S
      go_wp2_with first | ((with_reducible apply wps_load S 1);(case hx|hi|hu=>rfl);(case hT=>decide +kernel)) | ((with_reducible refine tot_done ?ht ?_);(case ht=>kernel_rfl))
      refine ⟨_,S,?_⟩
      clear S
      (refine W_mid (f:=1) (soft:=[10,11,12]) rfl ?hB ?_);(case hB=>decide +kernel)
      iterate 3
       (with_reducible apply softs_cons)
       (case hw=>
         (with_reducible apply soft_of);(case hi=>rfl)
         intro T wz S
         simp only [cons_append,nil_append] at S
         go_wp2_with first | ((with_reducible refine tot_done ?ht ?_);(case ht=>kernel_rfl))
         exact ⟨rfl,S⟩)
       (case hs=>exact ⟨_,rfl,by kernel_rfl⟩)
      refine softs_nil ?_
      (with_reducible apply W_hard1 (i:=13));(case hn=>rfl);(case hr=>decide +kernel)
      intro wz S
      (with_reducible apply hard_of);(case hi=>rfl)
      simp only [cons_append,nil_append] at S
      go_wp2_with first | ((with_reducible apply wps_store (u:=(.int .i64 (minL r))) S 1);(case hx|hy|hi|h1=>rfl);(case hn=>exact nle rfl);(case hT=>decide +kernel);clear S;intro wz S;simp only [set_cons_succ,set_cons_zero,setIfInBounds_toArray] at S) | ((with_reducible refine tot_done ?ht ?_);(case ht=>kernel_rfl))
      refine ⟨_,S,?_⟩
      clear S
      (with_reducible apply W_done);(case hn=>rfl);(case hr=>decide +kernel)
      intro wz S
      repeat (first | simp only at S | simp only [pick] at S | simp only [nth] at S | simp only [set_cons_succ] at S | simp only [set_cons_zero] at S | simp only [setIfInBounds_toArray] at S | simp only [setAll] at S | simp only [cons_append] at S | simp only [nil_append] at S | simp only [List.append_nil] at S)
     all_goals
      go_wp2_with first | ((with_reducible apply wps_load S 0);(case hx|hi|hu=>rfl);(case hT=>decide +kernel))
      (try simp only [Exit.inBlock,Exit.then]);refine bodyPost_ret (results2 rfl (res_tmp rfl) (res_tmp rfl)) rfl ?_
      exact ⟨rfl,master_close (S.pick [1,0] rfl)⟩
end Go.Proofs.YtmjljoaakdocaaaGreatDoor
