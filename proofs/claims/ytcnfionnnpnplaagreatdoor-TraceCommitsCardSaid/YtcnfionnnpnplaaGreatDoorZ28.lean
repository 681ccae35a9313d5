import Derived.Test.YtcnfionnnpnplaaGreatDoorZ21
import Derived.Test.YtcnfionnnpnplaaGreatDoorZ26
/- The walk of a trace's right: whether a batch is what its process makes of it. -/
set_option maxHeartbeats 16000000
set_option maxRecDepth 100000
namespace Go.Proofs.YtcnfionnnpnplaaGreatDoor
open Go Go.RowKit Reg Mem
open List (set_cons_succ set_cons_zero setIfInBounds_toArray cons_append nil_append)
theorem adjUp_get : ∀ {l : List Event},adjUp l = true ↔ ∀ (i : Nat) x y,l[i]? = some x → l[i + 1]? = some y → x.key.cmp y.key < 0
 | []=>by simp [adjUp]
 | [x]=>by simp [adjUp]
 | x :: y :: l=>by
   unfold adjUp
   rw [Bool.and_eq_true,decide_eq_true_eq,adjUp_get]
   constructor
   · rintro ⟨h1,h2⟩ i a b ha hb
     cases i with
     | zero=>simp at ha hb;subst ha;subst hb;exact h1
     | succ i=>exact h2 i a b (by simpa using ha) (by simpa using hb)
   · intro h
     exact ⟨h 0 x y rfl rfl,fun i a b ha hb=>h (i + 1) a b (by simpa using ha) (by simpa using hb)⟩
def OkTo (b : BatE) (j : Nat) : Prop:=(∀ (i : Nat) x,i < j → b.ins[i]? = some x → x.key.at_ = b.at_) ∧ ∀ (i : Nat) x y,i + 1 < j → b.ins[i]? = some x → b.ins[i + 1]? = some y → x.key.cmp y.key < 0
theorem ok_all {b : BatE} (h : OkTo b b.ins.length) : (b.ins.all fun x=>decide (x.key.at_ = b.at_)) = true ∧ adjUp b.ins = true:=by
 refine ⟨List.all_eq_true.2 fun x hx=>?_,adjUp_get.2 fun i x y hx hy=>h.2 i x y (List.getElem?_eq_some_iff.1 hy).1 hx hy⟩
 obtain ⟨i,hi,e⟩:=List.mem_iff_getElem.1 hx
 exact decide_eq_true (h.1 i x hi (by rw [List.getElem?_eq_getElem hi,e]))
def TRightRel (L : List Asn) (b : BatE) (w : World) (i : Value) (wr : World) : Prop:=
 ∃ j : Nat,j ≤ b.ins.length ∧ i = .int .i64 j ∧ Hid (OkTo b j) ∧ St (fun _=>False) w wr L
theorem right_calls (X R : Nat) (v : Value) (vs hs : List Value) (c : Cfg) (x : BatV) (s : State) (w : World) (F1 F2 F3 F4 F5 : Nat → Prop) (h1 : (Blk true X #[.pointer (some ⟨R,0,none⟩),v] 89).at_ w F1) (h2 : (ModA true 128 R vs hs c).at_ w F2)
 (h3 : (Sl true Event.cells 7 x.vi x.b.ins).at_ w F3) (h4 : (Sl true Event.cells 7 x.vo x.b.sent).at_ w F4) (ht : Tab.at_ w F5) (hc : cfgE c = 0) (hn1 : x.b.ins.length ≤ 65536) (hat : ∀ e ∈ x.b.ins,-9223372036854775808 ≤ e.key.at_) :
 Calls Tryz.prog 40 #[.pointer (some ⟨X,0,none⟩),.agg #[.int .i64 x.b.at_,.int .i64 x.b.lp,.slice x.ai x.b.ins.length x.ci,.int .i64 x.b.thn.n0,.int .i64 x.b.thn.n1,.int .i64 x.b.thn.n2,.int .i64 x.b.thn.n3,.slice x.ao x.b.sent.length x.co],.agg #[.int .i64 s.n0,.int .i64 s.n1,.int .i64 s.n2,.int .i64 s.n3]] w fun e w'=>e = .returned (.bool (rightE c x.b s)) ∧ Below w.heap.size w w':=by
 have S : St (fun _=>False) w w [Blk true X #[.pointer (some ⟨R,0,none⟩),v] 89,ModA true 128 R vs hs c,Sl true Event.cells 7 x.vi x.b.ins,Sl true Event.cells 7 x.vo x.b.sent,Tab]:=
  (((((St.init _ w).share rfl rfl ht).share (A:=Sl true Event.cells 7 x.vo x.b.sent) rfl rfl h4).share (A:=Sl true Event.cells 7 x.vi x.b.ins) rfl rfl h3).share rfl rfl h2).share (A:=Blk true X #[.pointer (some ⟨R,0,none⟩),v] 89) rfl rfl h1
 clear h1 h2 h3 h4 ht
 obtain ⟨⟨xat,xlp,xins,xthn,xsent⟩,xai,xci,xao,xco⟩:=x
 simp only [BatV.vi,BatV.vo] at *
 have HW:=Lib.hid fun w F F2 h h2=>bwrong_calls R vs hs c xlp (.slice xai xins.length xci) xins w F F2 h h2 hn1
 by_cases hw : wrongE c.lps.length xlp xins = 0
 case neg=>
  have HR : Hid (rightE c ⟨xat,xlp,xins,xthn,xsent⟩ s = false):=Lib.hid (by unfold rightE;simp only [decide_eq_false hw,Bool.false_and])
  rw [HR.out]
  obtain ⟨e0,he0⟩ : ∃ e,wrongE c.lps.length xlp xins = e:=⟨_,rfl⟩
  rw [he0] at HW hw
  have f1 : (e0 != 0) = true:=by simpa using hw
  clear he0 hw hat hn1 hc
  go_enter Tryz.func40,Tryz.ntmps40
  go_wp2_with first | ((with_reducible apply wps_boxa (E:=52) S);(case hx=>rfl);clear S;intro b4 wz S) | ((with_reducible apply wps_boxa (E:=50) S);(case hx=>rfl);clear S;intro b5 wz S)
  (refine wp_region_w (soft:=[0,1,2,3,4,5,6,7,8,9]) S ?hm ?hB ?_);(case hm=>kernel_rfl);(case hB=>decide +kernel);clear S
  iterate 10
   (with_reducible apply softs_cons)
   (case hw=>
     (with_reducible apply soft_of);(case hi=>rfl)
     intro T wz S
     simp only [cons_append,nil_append] at S
     go_wp2_with first | ((with_reducible apply wps_load S 2);(case hx|hi|hu=>rfl);(case hT=>decide +kernel)) | ((with_reducible apply wps_load S 1);(case hx|hi|hu=>rfl);(case hT=>decide +kernel)) | (go_at_call 63;refine Calls.mono (HW.out _ _ _ (S.get (i:=3) rfl).choose_spec (S.get (i:=4) rfl).choose_spec) ?_;rintro e wz ⟨rfl,hE⟩;replace S:=S.ext (Keep.of_below hE);clear hE) | ((with_reducible refine tot_done ?ht ?_);(case ht=>kernel_rfl))
     exact ⟨rfl,S⟩)
   (case hs=>exact ⟨_,rfl,by kernel_rfl⟩)
  refine softs_nil ?_
  (with_reducible apply W_done);(case hn=>rfl);(case hr=>decide +kernel)
  intro wz S
  simp only [List.append_nil] at S
  go_wp2_with first | ((with_reducible apply wps_loada (T:=56) (k:=7) S 0);(case hx|hi=>rfl);(case hk=>exact nle rfl);(case hT=>decide +kernel))
  go_ret
  exact ⟨rfl,S.below⟩
 rw [hw] at HW
 have HB:=Lib.hid fun (w : World) (F F2 F3 : Nat → Prop) h h2 ht=>brun_callsW R vs hs c xlp s (.slice xai xins.length xci) xins w F F2 F3 h h2 ht hn1 hc (fun _=>by
  cases xins with
  | nil=>decide
  | cons y l=>exact hat y (by simp))
 have hbl:=batch_len c xlp s xins (cfg_isfine hc).sizes.2.2.2.2.1
 have hfan:=(cfg_isfine hc).sizes.2.2.2.2.2
 obtain ⟨s2,out,hq⟩ : ∃ a b,batchC c xlp s xins = (a,b):=⟨_,_,rfl⟩
 have HRI : Hid (∀ q : Bool,OkTo ⟨xat,xlp,xins,xthn,xsent⟩ xins.length → q = decide (s2 = xthn ∧ out = xsent) → rightE c ⟨xat,xlp,xins,xthn,xsent⟩ s = q):=Lib.hid fun q h1 h2=>by
  obtain ⟨g1,g2⟩:=ok_all h1
  simp only at g1 g2
  unfold rightE
  simp only [hw,g1,g2,hq,decide_true,Bool.true_and,h2,Prod.mk.injEq]
 have HR1 : Hid (∀ (i : Nat) y,xins[i]? = some y → y.key.at_ ≠ xat → rightE c ⟨xat,xlp,xins,xthn,xsent⟩ s = false):=Lib.hid fun i y hy hn=>by
  have : (xins.all fun z=>decide (z.key.at_ = xat)) = false:=by
   rw [← Bool.not_eq_true,List.all_eq_true]
   intro g
   have:=g y (List.mem_of_getElem? hy)
   simp at this;exact hn this
  unfold rightE
  simp only [this,Bool.and_false,Bool.false_and]
 have HR2 : Hid (∀ (i : Nat) y z,xins[i]? = some y → xins[i + 1]? = some z → ¬ y.key.cmp z.key < 0 → rightE c ⟨xat,xlp,xins,xthn,xsent⟩ s = false):=Lib.hid fun i y z hy hz hn=>by
  have : adjUp xins = false:=by
   rw [← Bool.not_eq_true,adjUp_get]
   intro g
   exact hn (g i y z hy hz)
  unfold rightE
  simp only [this,Bool.and_false,Bool.false_and]
 rw [hq] at hbl
 have hout : out.length ≤ 4294967296:=by
  have g3 : c.fan * (xins.length : Int) ≤ 8 * (xins.length : Int):=Int.mul_le_mul_of_nonneg_right hfan (by omega)
  have g4 : (out.length : Int) ≤ 8 * (xins.length : Int):=Int.le_trans hbl g3
  omega
 have HB2 : Hid (∀ (w : World) (F F2 F3 : Nat → Prop) (h : (ModA true 128 R vs hs c).at_ w F) (h2 : (Sl true Event.cells 7 (.slice xai xins.length xci) xins).at_ w F2) (ht : Tab.at_ w F3),Calls Tryz.prog 65 #[.pointer (some ⟨R,0,none⟩),.int .i64 xlp,.agg #[.int .i64 s.n0,.int .i64 s.n1,.int .i64 s.n2,.int .i64 s.n3],.slice xai xins.length xci] w fun e w'=>
  ∃ ad cp,e = .returned (.tuple #[.agg #[.int .i64 s2.n0,.int .i64 s2.n1,.int .i64 s2.n2,.int .i64 s2.n3],.slice ad out.length cp,.int .i64 0]) ∧ St (fun _=>False) w w' [Mem.Own 56 Event.cells 7 (.slice ad out.length cp) out]):=Lib.hid fun w F F2 F3 h h2 ht=>(HB.out w F F2 F3 h h2 ht).mono fun e w' hp=>by
   rcases hp with ⟨h1,_⟩ | ⟨_,v,he,S⟩
   · exact absurd hw h1
   · rw [hq] at he S
     obtain ⟨ad,cp,rfl,_⟩:=(S.ownsl ecells 0 rfl).elim fun _ h=>h.form
     exact ⟨ad,cp,he,S⟩
 have HSQ:=Lib.hid fun (v1 v2 : Value) (w : World) (F1 F2 : Nat → Prop) h1 h2=>equal_calls v1 v2 out xsent w F1 F2 h1 h2 hout
 clear hw hat hc HB hbl hfan hq hout
 generalize rightE c ⟨xat,xlp,xins,xthn,xsent⟩ s = RES at *
 go_enter Tryz.func40,Tryz.ntmps40
 go_wp2_with first | ((with_reducible apply wps_boxa (E:=52) S);(case hx=>rfl);clear S;intro b4 wz S) | ((with_reducible apply wps_boxa (E:=50) S);(case hx=>rfl);clear S;intro b5 wz S)
 (refine wp_region_w (soft:=[0,1,2,3,4,5,6,7,8,9]) S ?hm ?hB ?_);(case hm=>kernel_rfl);(case hB=>decide +kernel);clear S
 iterate 10
  (with_reducible apply softs_cons)
  (case hw=>
    (with_reducible apply soft_of);(case hi=>rfl)
    intro T wz S
    simp only [cons_append,nil_append] at S
    go_wp2_with first | ((with_reducible apply wps_load S 2);(case hx|hi|hu=>rfl);(case hT=>decide +kernel)) | ((with_reducible apply wps_load S 1);(case hx|hi|hu=>rfl);(case hT=>decide +kernel)) | (go_at_call 63;refine Calls.mono (HW.out _ _ _ (S.get (i:=3) rfl).choose_spec (S.get (i:=4) rfl).choose_spec) ?_;rintro e wz ⟨rfl,hE⟩;replace S:=S.ext (Keep.of_below hE);clear hE) | ((with_reducible refine tot_done ?ht ?_);(case ht=>kernel_rfl))
    exact ⟨rfl,S⟩)
  (case hs=>exact ⟨_,rfl,by kernel_rfl⟩)
 refine softs_nil ?_
 (with_reducible apply W_done);(case hn=>rfl);(case hr=>decide +kernel)
 intro wz S
 simp only [List.append_nil] at S
 go_wp2_with first | ((with_reducible apply wps_load S 1);(case hx|hi|hu=>rfl);(case hT=>decide +kernel))
 go_loopw [25] (fun i wr=>TRightRel _ ⟨xat,xlp,xins,xthn,xsent⟩ w i wr) (fun i _=>xins.length - (intOf i).toNat)
 case atStart=>exact ⟨0,Nat.zero_le _,rfl,Lib.hid ⟨fun i x h=>by omega,fun i x y h=>by omega⟩,S⟩
 case round=>
  clear S
  obtain ⟨j,hj,rfl,HOK,S⟩:=hrel
  simp only at hj
  by_cases hlt : j < xins.length
  · obtain ⟨y,hy⟩ : ∃ y,xins[j]? = some y:=⟨_,List.getElem?_eq_getElem hlt⟩
    obtain ⟨R0,o0,rfl⟩ : ∃ R o,xai = some ⟨R,o,none⟩:=(S.sl 4 rfl).elim fun F h=>h.head (by omega)
    have hlt2 : (j : Int) < xins.length:=by omega
    have HY:=Lib.hid hy
    by_cases hat : y.key.at_ = xat
    · have f1 : (y.key.at_ != xat) = false:=by simpa using hat
      have hat2:=hat
      clear hat hy
      rcases j with _ | m
      · have HOK2 : Hid (OkTo ⟨xat,xlp,xins,xthn,xsent⟩ 1):=Lib.hid ⟨fun i z hi hz=>by
         obtain rfl : i = 0:=by omega
         simp only at hz
         rw [HY.out] at hz;cases hz;exact hat2,fun i z z2 hi=>by omega⟩
        clear hat2
        go_wp2_with first | ((with_reducible apply wps_loada_el S 4 (hj:=HY.out) (q:=0) (vs:=[.int .i64 y.key.at_,.int .i64 y.key.src,.int .i64 y.key.sent,.int .i64 y.key.no,.int .i64 y.dst,.int .i64 y.kind,.int .i64 y.data]) (m:=7));(case hx|hi=>rfl);(case hn=>omega);(case hm|hv=>rfl);(case hT=>decide +kernel)) | ((with_reducible apply wps_alloca (E:=56) S);(case hz=>exact Tryz.zeroValue56);clear S;intro b8 wz S) | ((with_reducible apply wps_storea (T:=56) S 0 (vs:=[.int .i64 y.key.at_,.int .i64 y.key.src,.int .i64 y.key.sent,.int .i64 y.key.no,.int .i64 y.dst,.int .i64 y.kind,.int .i64 y.data]) (m:=7));(case hx|hy|hi|hm|h1=>rfl);(case hn=>exact nle rfl);(case hT=>decide +kernel);clear S;intro wz S;simp only [set_cons_zero,set_cons_succ,setAll,setIfInBounds_toArray] at S)
        (refine wp_region_w (soft:=[0,1,2,3,4,5,6,7,8,9,10,11,12,13,14,15,16,17,18,19,20,21,22]) S ?hm ?hB ?_);(case hm=>kernel_rfl);(case hB=>decide +kernel);clear S
        iterate 23
         (with_reducible apply softs_cons)
         (case hw=>
           (with_reducible apply soft_of);(case hi=>rfl)
           intro T wz S
           simp only [cons_append,nil_append] at S
           go_wp2_with first | ((with_reducible apply wps_load S 2);(case hx|hi|hu=>rfl);(case hT=>decide +kernel)) | ((with_reducible refine tot_done ?ht ?_);(case ht=>kernel_rfl)) | ((with_reducible apply wps_load S 0);(case hx|hi|hu=>rfl);(case hT=>decide +kernel))
           exact ⟨rfl,S⟩)
         (case hs=>exact ⟨_,rfl,by kernel_rfl⟩)
        refine softs_nil ?_
        (with_reducible apply W_done);(case hn=>rfl);(case hr=>decide +kernel)
        intro wz S
        simp only [List.append_nil] at S
        go_wp2_with first | ((with_reducible apply wps_loada (T:=56) (k:=7) S 0);(case hx|hi=>rfl);(case hk=>exact nle rfl);(case hT=>decide +kernel))
        go_roundw
        case rel=>exact ⟨1,by simp only;omega,by go_num,HOK2,S.pick [1,2,3,4,5,6,7] rfl⟩
        case measure=>simp [intOf];omega
      · obtain ⟨p,hp⟩ : ∃ p,xins[m]? = some p:=⟨_,List.getElem?_eq_getElem (by omega)⟩
        have HP:=Lib.hid hp
        obtain ⟨kq,hkq⟩ : ∃ k,p.key.cmp y.key = k:=⟨_,rfl⟩
        have HCM : Hid (∀ w,Calls Tryz.prog 64 #[.agg #[.int .i64 p.key.at_,.int .i64 p.key.src,.int .i64 p.key.sent,.int .i64 p.key.no],.agg #[.int .i64 y.key.at_,.int .i64 y.key.src,.int .i64 y.key.sent,.int .i64 y.key.no]] w fun e w'=>e = .returned (.int .i64 kq) ∧ Below w.heap.size w w'):=Lib.hid fun w=>by
         rw [← hkq]
         exact compare_calls p.key.at_ p.key.src p.key.sent p.key.no y.key.at_ y.key.src y.key.sent y.key.no w
        have hm0 : (0 : Int) < (m : Int) + 1:=by omega
        have hm6 : (m : Int) ≤ 65536:=by omega
        clear hp
        by_cases hk : kq < 0
        · have f2 : decide (kq ≥ 0) = false:=decide_eq_false (by omega)
          have f3 : decide (0 ≤ kq) = false:=decide_eq_false (by omega)
          have HOK2 : Hid (OkTo ⟨xat,xlp,xins,xthn,xsent⟩ (m + 1 + 1)):=Lib.hid ⟨fun i z hi hz=>by
           rcases Nat.lt_or_ge i (m + 1) with h | h
           · exact HOK.out.1 i z h hz
           · obtain rfl : i = m + 1:=by omega
             simp only at hz
             rw [HY.out] at hz;cases hz;exact hat2,fun i z z2 hi hz hz2=>by
           rcases Nat.lt_or_ge (i + 1) (m + 1) with h | h
           · exact HOK.out.2 i z z2 h hz hz2
           · obtain rfl : i = m:=by omega
             simp only at hz hz2
             rw [HP.out] at hz;cases hz
             rw [HY.out] at hz2;cases hz2
             rw [hkq];exact hk⟩
          clear hat2 hkq hk
          go_wp2_with first | ((with_reducible apply wps_loada_el S 4 (hj:=HY.out) (q:=0) (vs:=[.int .i64 y.key.at_,.int .i64 y.key.src,.int .i64 y.key.sent,.int .i64 y.key.no,.int .i64 y.dst,.int .i64 y.kind,.int .i64 y.data]) (m:=7));(case hx|hi=>rfl);(case hn=>omega);(case hm|hv=>rfl);(case hT=>decide +kernel)) | ((with_reducible apply wps_alloca (E:=56) S);(case hz=>exact Tryz.zeroValue56);clear S;intro b8 wz S) | ((with_reducible apply wps_storea (T:=56) S 0 (vs:=[.int .i64 y.key.at_,.int .i64 y.key.src,.int .i64 y.key.sent,.int .i64 y.key.no,.int .i64 y.dst,.int .i64 y.kind,.int .i64 y.data]) (m:=7));(case hx|hy|hi|hm|h1=>rfl);(case hn=>exact nle rfl);(case hT=>decide +kernel);clear S;intro wz S;simp only [set_cons_zero,set_cons_succ,setAll,setIfInBounds_toArray] at S)
          (refine wp_region_w (soft:=[0,1,2,3,4,5,6,7,8,9,10,11,12,13,14,15,16,17,18,19,20,21,22]) S ?hm ?hB ?_);(case hm=>kernel_rfl);(case hB=>decide +kernel);clear S
          iterate 23
           (with_reducible apply softs_cons)
           (case hw=>
             (with_reducible apply soft_of);(case hi=>rfl)
             intro T wz S
             simp only [cons_append,nil_append] at S
             go_wp2_with first | ((with_reducible apply wps_load S 2);(case hx|hi|hu=>rfl);(case hT=>decide +kernel)) | ((with_reducible apply wps_loada_el S 5 (hj:=HP.out) (q:=0) (vs:=[.int .i64 p.key.at_,.int .i64 p.key.src,.int .i64 p.key.sent,.int .i64 p.key.no]) (m:=4));(case hx|hi=>rfl);(case hn=>omega);(case hm|hv=>rfl);(case hT=>decide +kernel)) | (go_at_call 64;refine Calls.mono (HCM.out _) ?_;rintro e wz ⟨rfl,hE⟩;replace S:=S.ext (Keep.of_below hE);clear hE) | ((with_reducible refine tot_done ?ht ?_);(case ht=>kernel_rfl)) | ((with_reducible apply wps_load S 0);(case hx|hi|hu=>rfl);(case hT=>decide +kernel)) | ((with_reducible apply wps_loada (T:=54) (k:=4) S 0);(case hx|hi=>rfl);(case hk=>exact nle rfl);(case hT=>decide +kernel))
             exact ⟨rfl,S⟩)
           (case hs=>exact ⟨_,rfl,by kernel_rfl⟩)
          refine softs_nil ?_
          (with_reducible apply W_done);(case hn=>rfl);(case hr=>decide +kernel)
          intro wz S
          simp only [List.append_nil] at S
          go_wp2_with first | ((with_reducible apply wps_loada (T:=56) (k:=7) S 0);(case hx|hi=>rfl);(case hk=>exact nle rfl);(case hT=>decide +kernel))
          go_roundw
          case rel=>exact ⟨m + 1 + 1,by simp only;omega,by go_num,HOK2,S.pick [1,2,3,4,5,6,7] rfl⟩
          case measure=>simp [intOf];omega
        · have f2 : decide (kq ≥ 0) = true:=decide_eq_true (by omega)
          have f3 : decide (0 ≤ kq) = true:=decide_eq_true (by omega)
          have HRF:=Lib.hid (HR2.out m p y HP.out HY.out (by rw [hkq];omega))
          clear hat2 hkq hk
          go_wp2_with first | ((with_reducible apply wps_loada_el S 4 (hj:=HY.out) (q:=0) (vs:=[.int .i64 y.key.at_,.int .i64 y.key.src,.int .i64 y.key.sent,.int .i64 y.key.no,.int .i64 y.dst,.int .i64 y.kind,.int .i64 y.data]) (m:=7));(case hx|hi=>rfl);(case hn=>omega);(case hm|hv=>rfl);(case hT=>decide +kernel)) | ((with_reducible apply wps_alloca (E:=56) S);(case hz=>exact Tryz.zeroValue56);clear S;intro b8 wz S) | ((with_reducible apply wps_storea (T:=56) S 0 (vs:=[.int .i64 y.key.at_,.int .i64 y.key.src,.int .i64 y.key.sent,.int .i64 y.key.no,.int .i64 y.dst,.int .i64 y.kind,.int .i64 y.data]) (m:=7));(case hx|hy|hi|hm|h1=>rfl);(case hn=>exact nle rfl);(case hT=>decide +kernel);clear S;intro wz S;simp only [set_cons_zero,set_cons_succ,setAll,setIfInBounds_toArray] at S)
          (refine wp_region_w (soft:=[0,1,2,3,4,5,6,7,8,9,10,11,12,13,14,15,16,17,18,19,20,21,22]) S ?hm ?hB ?_);(case hm=>kernel_rfl);(case hB=>decide +kernel);clear S
          iterate 23
           (with_reducible apply softs_cons)
           (case hw=>
             (with_reducible apply soft_of);(case hi=>rfl)
             intro T wz S
             simp only [cons_append,nil_append] at S
             go_wp2_with first | ((with_reducible apply wps_load S 2);(case hx|hi|hu=>rfl);(case hT=>decide +kernel)) | ((with_reducible apply wps_loada_el S 5 (hj:=HP.out) (q:=0) (vs:=[.int .i64 p.key.at_,.int .i64 p.key.src,.int .i64 p.key.sent,.int .i64 p.key.no]) (m:=4));(case hx|hi=>rfl);(case hn=>omega);(case hm|hv=>rfl);(case hT=>decide +kernel)) | (go_at_call 64;refine Calls.mono (HCM.out _) ?_;rintro e wz ⟨rfl,hE⟩;replace S:=S.ext (Keep.of_below hE);clear hE) | ((with_reducible refine tot_done ?ht ?_);(case ht=>kernel_rfl)) | ((with_reducible apply wps_load S 0);(case hx|hi|hu=>rfl);(case hT=>decide +kernel)) | ((with_reducible apply wps_loada (T:=54) (k:=4) S 0);(case hx|hi=>rfl);(case hk=>exact nle rfl);(case hT=>decide +kernel))
             exact ⟨rfl,S⟩)
           (case hs=>exact ⟨_,rfl,by kernel_rfl⟩)
          refine softs_nil ?_
          (with_reducible apply W_done);(case hn=>rfl);(case hr=>decide +kernel)
          intro wz S
          simp only [List.append_nil] at S
          go_wp2_with first | ((with_reducible apply wps_loada (T:=56) (k:=7) S 0);(case hx|hi=>rfl);(case hk=>exact nle rfl);(case hT=>decide +kernel))
          go_ret
          exact ⟨ret_bool HRF.out.symm,S.below⟩
    · have f1 : (y.key.at_ != xat) = true:=by simpa using hat
      have HRF:=Lib.hid (HR1.out j y hy hat)
      clear hat hy
      go_wp2_with first | ((with_reducible apply wps_loada_el S 4 (hj:=HY.out) (q:=0) (vs:=[.int .i64 y.key.at_,.int .i64 y.key.src,.int .i64 y.key.sent,.int .i64 y.key.no,.int .i64 y.dst,.int .i64 y.kind,.int .i64 y.data]) (m:=7));(case hx|hi=>rfl);(case hn=>omega);(case hm|hv=>rfl);(case hT=>decide +kernel)) | ((with_reducible apply wps_alloca (E:=56) S);(case hz=>exact Tryz.zeroValue56);clear S;intro b8 wz S) | ((with_reducible apply wps_storea (T:=56) S 0 (vs:=[.int .i64 y.key.at_,.int .i64 y.key.src,.int .i64 y.key.sent,.int .i64 y.key.no,.int .i64 y.dst,.int .i64 y.kind,.int .i64 y.data]) (m:=7));(case hx|hy|hi|hm|h1=>rfl);(case hn=>exact nle rfl);(case hT=>decide +kernel);clear S;intro wz S;simp only [set_cons_zero,set_cons_succ,setAll,setIfInBounds_toArray] at S)
      (refine wp_region_w (soft:=[0,1,2,3,4,5,6,7,8,9,10,11,12,13,14,15,16,17,18,19,20,21,22]) S ?hm ?hB ?_);(case hm=>kernel_rfl);(case hB=>decide +kernel);clear S
      iterate 23
       (with_reducible apply softs_cons)
       (case hw=>
         (with_reducible apply soft_of);(case hi=>rfl)
         intro T wz S
         simp only [cons_append,nil_append] at S
         go_wp2_with first | ((with_reducible apply wps_load S 2);(case hx|hi|hu=>rfl);(case hT=>decide +kernel)) | ((with_reducible refine tot_done ?ht ?_);(case ht=>kernel_rfl)) | ((with_reducible apply wps_load S 0);(case hx|hi|hu=>rfl);(case hT=>decide +kernel))
         exact ⟨rfl,S⟩)
       (case hs=>exact ⟨_,rfl,by kernel_rfl⟩)
      refine softs_nil ?_
      (with_reducible apply W_done);(case hn=>rfl);(case hr=>decide +kernel)
      intro wz S
      simp only [List.append_nil] at S
      go_wp2_with first | ((with_reducible apply wps_loada (T:=56) (k:=7) S 0);(case hx|hi=>rfl);(case hk=>exact nle rfl);(case hT=>decide +kernel))
      go_ret
      exact ⟨ret_bool HRF.out.symm,S.below⟩
  · obtain rfl : j = xins.length:=by omega
    go_upto_region 9 with first | ((with_reducible apply wps_loada (T:=56) (k:=7) S 0);(case hx|hi=>rfl);(case hk=>exact nle rfl);(case hT=>decide +kernel))
    replace S:=S.pick [2,3,4,5,6,0,1] rfl
    simp only [pick,nth] at S
    clear hlt hj
    (refine wp_region_w (soft:=[0,1,2,3,4,5,6,7,8]) S ?hm ?hB ?_);(case hm=>kernel_rfl);(case hB=>decide +kernel);clear S
    iterate 9
     (with_reducible apply softs_cons)
     (case hw=>
       (with_reducible apply soft_of);(case hi=>rfl)
       intro T wz S
       simp only [cons_append,nil_append] at S
       go_wp2_with first | ((with_reducible apply wps_load S 0);(case hx|hi|hu=>rfl);(case hT=>decide +kernel)) | ((with_reducible apply wps_load S 6);(case hx|hi|hu=>rfl);(case hT=>decide +kernel)) | ((with_reducible apply wps_loada (T:=50) (k:=4) S 5);(case hx|hi=>rfl);(case hk=>exact nle rfl);(case hT=>decide +kernel)) | ((with_reducible refine tot_done ?ht ?_);(case ht=>kernel_rfl))
       exact ⟨rfl,S⟩)
     (case hs=>exact ⟨_,rfl,by kernel_rfl⟩)
    refine softs_nil ?_
    (with_reducible apply W_hard2 (i:=9) (i':=14));(case hn=>rfl);(case hr=>decide +kernel)
    focus
     intro wz S
     (with_reducible apply hard_of);(case hi=>rfl)
     simp only [cons_append,nil_append] at S
     go_wp2_with first | (go_at_call 65;refine Calls.mono (HB2.out _ _ _ _ (S.get (i:=1) rfl).choose_spec (S.get (i:=2) rfl).choose_spec (S.get (i:=4) rfl).choose_spec) ?_;rintro e wz ⟨ado,cpo,rfl,T⟩;replace S:=S.join T rfl;clear T;simp only [cons_append,nil_append] at S) | ((with_reducible refine tot_done ?ht ?_);(case ht=>kernel_rfl))
     refine ⟨_,S.pick [1,2,3,4,5,6,7,0] rfl,?_⟩
     clear S
     (refine W_mid (f:=4) (soft:=[10,11,12,13]) rfl ?hB ?_);(case hB=>decide +kernel)
     iterate 4
      (with_reducible apply softs_cons)
      (case hw=>
        (with_reducible apply soft_of);(case hi=>rfl)
        intro T wz S
        simp only [cons_append,nil_append] at S
        go_wp2_with first | ((with_reducible refine tot_done ?ht ?_);(case ht=>kernel_rfl))
        exact ⟨rfl,S⟩)
      (case hs=>exact ⟨_,rfl,by kernel_rfl⟩)
     refine softs_nil ?_
     (with_reducible apply W_hard1 (i:=14));(case hn=>rfl);(case hr=>decide +kernel)
     intro wz S
     (with_reducible apply hard_of);(case hi=>rfl)
     simp only [cons_append,nil_append] at S
     go_wp2_with first | ((with_reducible apply wps_alloca (E:=50) S);(case hz=>exact Tryz.zeroValue50);clear S;intro b9 wz S) | ((with_reducible refine tot_done ?ht ?_);(case ht=>kernel_rfl))
     refine ⟨_,S.pick [1,2,3,4,5,6,7,8,0] rfl,?_⟩
     clear S
     (with_reducible apply W_hard1 (i:=15));(case hn=>rfl);(case hr=>decide +kernel)
     intro wz S
     (with_reducible apply hard_of);(case hi=>rfl)
     simp only [cons_append,nil_append] at S
     go_wp2_with first | ((with_reducible apply wps_storea (T:=50) S 8 (vs:=[.int .i64 s2.n0,.int .i64 s2.n1,.int .i64 s2.n2,.int .i64 s2.n3]) (m:=4));(case hx|hy|hi|hm|h1=>rfl);(case hn=>exact nle rfl);(case hT=>decide +kernel);clear S;intro wz S;simp only [set_cons_zero,set_cons_succ,setAll,setIfInBounds_toArray] at S) | ((with_reducible refine tot_done ?ht ?_);(case ht=>kernel_rfl))
     refine ⟨_,S,?_⟩
     clear S
     (refine W_mid (f:=0) (soft:=[16,17]) rfl ?hB ?_);(case hB=>decide +kernel)
     iterate 2
      (with_reducible apply softs_cons)
      (case hw=>
        (with_reducible apply soft_of);(case hi=>rfl)
        intro T wz S
        simp only [cons_append,nil_append] at S
        go_wp2_with first | ((with_reducible refine tot_done ?ht ?_);(case ht=>kernel_rfl))
        exact ⟨rfl,S⟩)
      (case hs=>exact ⟨_,rfl,by kernel_rfl⟩)
     refine softs_nil ?_
     (with_reducible apply W_done);(case hn=>rfl);(case hr=>decide +kernel)
     intro wz S
     repeat (first | simp only at S | simp only [pick] at S | simp only [nth] at S | simp only [set_cons_succ] at S | simp only [set_cons_zero] at S | simp only [setIfInBounds_toArray] at S | simp only [setAll] at S | simp only [cons_append] at S | simp only [nil_append] at S | simp only [List.append_nil] at S)
    rotate_left 1
    focus
     intro wz S
     (with_reducible apply hard_of);(case hi=>rfl)
     simp only [cons_append,nil_append] at S
     go_wp2_with first | ((with_reducible apply wps_alloca (E:=50) S);(case hz=>exact Tryz.zeroValue50);clear S;intro b9 wz S) | ((with_reducible refine tot_done ?ht ?_);(case ht=>kernel_rfl))
     refine ⟨_,S.pick [1,2,3,4,5,6,7,0] rfl,?_⟩
     clear S
     (with_reducible apply W_hard1 (i:=9));(case hn=>rfl);(case hr=>decide +kernel)
     intro wz S
     (with_reducible apply hard_of);(case hi=>rfl)
     simp only [cons_append,nil_append] at S
     go_wp2_with first | (go_at_call 65;refine Calls.mono (HB2.out _ _ _ _ (S.get (i:=1) rfl).choose_spec (S.get (i:=2) rfl).choose_spec (S.get (i:=4) rfl).choose_spec) ?_;rintro e wz ⟨ado,cpo,rfl,T⟩;replace S:=S.join T rfl;clear T;simp only [cons_append,nil_append] at S) | ((with_reducible refine tot_done ?ht ?_);(case ht=>kernel_rfl))
     refine ⟨_,S.pick [1,2,3,4,5,6,7,0,8] rfl,?_⟩
     clear S
     (refine W_mid (f:=3) (soft:=[10,11,12,13]) rfl ?hB ?_);(case hB=>decide +kernel)
     iterate 4
      (with_reducible apply softs_cons)
      (case hw=>
        (with_reducible apply soft_of);(case hi=>rfl)
        intro T wz S
        simp only [cons_append,nil_append] at S
        go_wp2_with first | ((with_reducible refine tot_done ?ht ?_);(case ht=>kernel_rfl))
        exact ⟨rfl,S⟩)
      (case hs=>exact ⟨_,rfl,by kernel_rfl⟩)
     refine softs_nil ?_
     (with_reducible apply W_hard1 (i:=15));(case hn=>rfl);(case hr=>decide +kernel)
     intro wz S
     (with_reducible apply hard_of);(case hi=>rfl)
     simp only [cons_append,nil_append] at S
     go_wp2_with first | ((with_reducible apply wps_storea (T:=50) S 8 (vs:=[.int .i64 s2.n0,.int .i64 s2.n1,.int .i64 s2.n2,.int .i64 s2.n3]) (m:=4));(case hx|hy|hi|hm|h1=>rfl);(case hn=>exact nle rfl);(case hT=>decide +kernel);clear S;intro wz S;simp only [set_cons_zero,set_cons_succ,setAll,setIfInBounds_toArray] at S) | ((with_reducible refine tot_done ?ht ?_);(case ht=>kernel_rfl))
     refine ⟨_,S,?_⟩
     clear S
     (refine W_mid (f:=0) (soft:=[16,17]) rfl ?hB ?_);(case hB=>decide +kernel)
     iterate 2
      (with_reducible apply softs_cons)
      (case hw=>
        (with_reducible apply soft_of);(case hi=>rfl)
        intro T wz S
        simp only [cons_append,nil_append] at S
        go_wp2_with first | ((with_reducible refine tot_done ?ht ?_);(case ht=>kernel_rfl))
        exact ⟨rfl,S⟩)
      (case hs=>exact ⟨_,rfl,by kernel_rfl⟩)
     refine softs_nil ?_
     (with_reducible apply W_done);(case hn=>rfl);(case hr=>decide +kernel)
     intro wz S
     repeat (first | simp only at S | simp only [pick] at S | simp only [nth] at S | simp only [set_cons_succ] at S | simp only [set_cons_zero] at S | simp only [setIfInBounds_toArray] at S | simp only [setAll] at S | simp only [cons_append] at S | simp only [nil_append] at S | simp only [List.append_nil] at S)
    all_goals
     have HT:=Lib.hid (sa_ceqs s2 xthn)
     by_cases e1 : s2 = xthn
     · have HRF:=Lib.hid (HRI.out (decide (out = xsent)) HOK.out (by simp [e1]))
       rw [decide_eq_true e1] at HT
       clear e1
       go_wp2_with first | ((with_reducible apply wps_loada (T:=50) (k:=4) S 8);(case hx|hi=>rfl);(case hk=>exact nle rfl);(case hT=>decide +kernel)) | ((with_reducible apply wps_loada (T:=50) (k:=4) S 6);(case hx|hi=>rfl);(case hk=>exact nle rfl);(case hT=>decide +kernel)) | ((with_reducible apply wpList_eql_agg (t:=50) (ks:=[.int .i64,.int .i64,.int .i64,.int .i64]) (b:=_));(case hx|hy=>rfl);(case hl|ha|hg=>kernel_rfl);(case hfx|hfy=>rfl);(case hb=>exact HT.out)) | ((with_reducible apply wps_load S 6);(case hx|hi|hu=>rfl);(case hT=>decide +kernel)) | (go_at_call 43;have hcz:=(HSQ.out _ _ _ _ _ (own_sl (sh:=true) ecells (S.get (i:=7) rfl).choose_spec) (S.get (i:=3) rfl).choose_spec);(with_reducible refine Calls.mono hcz ?_);clear hcz;rintro e wz ⟨rfl,hE⟩;replace S:=S.ext (Keep.of_below hE);clear hE)
       go_ret
       exact ⟨ret_bool HRF.out.symm,S.below⟩
     · have HRF:=Lib.hid (HRI.out false HOK.out (by simp [e1]))
       rw [decide_eq_false e1] at HT
       clear e1
       go_wp2_with first | ((with_reducible apply wps_loada (T:=50) (k:=4) S 8);(case hx|hi=>rfl);(case hk=>exact nle rfl);(case hT=>decide +kernel)) | ((with_reducible apply wps_loada (T:=50) (k:=4) S 6);(case hx|hi=>rfl);(case hk=>exact nle rfl);(case hT=>decide +kernel)) | ((with_reducible apply wpList_eql_agg (t:=50) (ks:=[.int .i64,.int .i64,.int .i64,.int .i64]) (b:=_));(case hx|hy=>rfl);(case hl|ha|hg=>kernel_rfl);(case hfx|hfy=>rfl);(case hb=>exact HT.out))
       go_ret
       exact ⟨ret_bool HRF.out.symm,S.below⟩
end Go.Proofs.YtcnfionnnpnplaaGreatDoor
