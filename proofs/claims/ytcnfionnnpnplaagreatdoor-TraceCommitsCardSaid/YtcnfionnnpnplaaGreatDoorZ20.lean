import Derived.Test.YtcnfionnnpnplaaGreatDoorZ19
/- The walks of a list's last and of a trace's Commit. -/
set_option maxHeartbeats 16000000
set_option maxRecDepth 100000
namespace Go.Proofs.YtcnfionnnpnplaaGreatDoor
open Go Go.RowKit Reg Mem
open List (set_cons_succ set_cons_zero setIfInBounds_toArray cons_append nil_append)
def zeroB : BatV:=⟨⟨0,0,[],⟨0,0,0,0⟩,[]⟩,none,0,none,0⟩
def lastV (l : List BatV) : BatV × Bool:=match l.getLast? with
 | none=>(zeroB,false)
 | some y=>(y,true)
theorem tlast_calls (ad : Option Addr) (c : Nat) (l : List BatV) (y : BatV) (q : Bool) (hy : lastV l = (y,q)) (w : World) (F : Nat → Prop) (h : (Sl true BatV.cells 8 (.slice ad l.length c) l).at_ w F) (hn : l.length ≤ 4294967296) :
 Calls Tryz.prog 32 #[.agg #[.slice ad l.length c]] w fun e w'=>e = .returned (.tuple #[.agg #[.int .i64 y.b.at_,.int .i64 y.b.lp,.slice y.ai y.b.ins.length y.ci,.int .i64 y.b.thn.n0,.int .i64 y.b.thn.n1,.int .i64 y.b.thn.n2,.int .i64 y.b.thn.n3,.slice y.ao y.b.sent.length y.co],.bool q]) ∧ Below w.heap.size w w':=by
 have S : St (fun _=>False) w w [Sl true BatV.cells 8 (.slice ad l.length c) l]:=(St.init _ w).share (A:=Sl true BatV.cells 8 (.slice ad l.length c) l) rfl rfl h
 clear h
 unfold lastV at hy
 cases hl : l.getLast? with
 | none=>
   rw [hl] at hy
   simp only [Prod.mk.injEq] at hy
   obtain ⟨rfl,rfl⟩:=hy
   obtain rfl : l = []:=List.getLast?_eq_none_iff.1 hl
   clear hl
   go_enter Tryz.func32,Tryz.ntmps32
   go_wp2_with first | ((with_reducible apply wps_boxa (E:=92) S);(case hx=>rfl);clear S;intro b1 wz S) | ((with_reducible apply wps_alloca (E:=52) S);(case hz=>exact Tryz.zeroValue52);clear S;intro b2 wz S) | ((with_reducible apply wps_storea (T:=52) S 0 (vs:=[.int .i64 0,.int .i64 0,.slice none 0 0,.int .i64 0,.int .i64 0,.int .i64 0,.int .i64 0,.slice none 0 0]) (m:=8));(case hx|hy|hi|hm|h1=>rfl);(case hn=>exact nle rfl);(case hT=>decide +kernel);clear S;intro wz S;simp only [set_cons_zero,set_cons_succ,setAll,setIfInBounds_toArray] at S) | ((with_reducible apply wps_load S 1);(case hx|hi|hu=>rfl);(case hT=>decide +kernel))
   (try simp only [Exit.inBlock,Exit.then]);refine bodyPost_ret (results2 rfl (S.resA 0 rfl rfl (by kernel_rfl)) (res_tmp rfl)) rfl ?_
   exact ⟨rfl,S.below⟩
 | some z=>
   rw [hl] at hy
   simp only [Prod.mk.injEq] at hy
   obtain ⟨rfl,rfl⟩:=hy
   obtain ⟨m,hm⟩ : ∃ m,l.length = m + 1:=⟨l.length - 1,by have:=List.getLast?_eq_some_iff.1 hl;obtain ⟨ys,rfl⟩:=this;simp⟩
   have HY : Hid (l[m]? = some z):=Lib.hid (by rw [List.getLast?_eq_getElem?,hm] at hl;exact hl)
   have hm2 : (m : Int) ≤ 4294967296:=by omega
   rw [hm] at S ⊢
   clear hl hm hn
   obtain ⟨⟨yat,ylp,yins,ythn,ysent⟩,yai,yci,yao,yco⟩:=z
   obtain ⟨R0,o0,rfl⟩ : ∃ R o,ad = some ⟨R,o,none⟩:=(S.sl 0 rfl).elim fun F h=>h.head (by have:=(List.getElem?_eq_some_iff.1 HY.out).1;omega)
   go_enter Tryz.func32,Tryz.ntmps32
   go_wp2_with first | ((with_reducible apply wps_boxa (E:=92) S);(case hx=>rfl);clear S;intro b1 wz S) | ((with_reducible apply wps_alloca (E:=52) S);(case hz=>exact Tryz.zeroValue52);clear S;intro b2 wz S) | ((with_reducible apply wps_loada_el S 2 (hj:=HY.out) (q:=0) (vs:=[.int .i64 (⟨⟨yat,ylp,yins,ythn,ysent⟩,yai,yci,yao,yco⟩:BatV).b.at_,.int .i64 (⟨⟨yat,ylp,yins,ythn,ysent⟩,yai,yci,yao,yco⟩:BatV).b.lp,(⟨⟨yat,ylp,yins,ythn,ysent⟩,yai,yci,yao,yco⟩:BatV).vi,.int .i64 (⟨⟨yat,ylp,yins,ythn,ysent⟩,yai,yci,yao,yco⟩:BatV).b.thn.n0,.int .i64 (⟨⟨yat,ylp,yins,ythn,ysent⟩,yai,yci,yao,yco⟩:BatV).b.thn.n1,.int .i64 (⟨⟨yat,ylp,yins,ythn,ysent⟩,yai,yci,yao,yco⟩:BatV).b.thn.n2,.int .i64 (⟨⟨yat,ylp,yins,ythn,ysent⟩,yai,yci,yao,yco⟩:BatV).b.thn.n3,(⟨⟨yat,ylp,yins,ythn,ysent⟩,yai,yci,yao,yco⟩:BatV).vo]) (m:=8));(case hx|hi=>rfl);(case hn=>omega);(case hm|hv=>rfl);(case hT=>decide +kernel)) | ((with_reducible apply wps_storea (T:=52) S 0 (vs:=[.int .i64 yat,.int .i64 ylp,.slice yai yins.length yci,.int .i64 ythn.n0,.int .i64 ythn.n1,.int .i64 ythn.n2,.int .i64 ythn.n3,.slice yao ysent.length yco]) (m:=8));(case hx|hy|hi|hm|h1=>rfl);(case hn=>exact nle rfl);(case hT=>decide +kernel);clear S;intro wz S;simp only [set_cons_zero,set_cons_succ,setAll,setIfInBounds_toArray] at S) | ((with_reducible apply wps_load S 1);(case hx|hi|hu=>rfl);(case hT=>decide +kernel))
   (try simp only [Exit.inBlock,Exit.then]);refine bodyPost_ret (results2 rfl (S.resA 0 rfl rfl (by kernel_rfl)) (res_tmp rfl)) rfl ?_
   exact ⟨rfl,S.below⟩
theorem puts_append : ∀ (a b : List BatE) (t : TrE),putsT t (a ++ b) = (putsT t a).bind fun t'=>putsT t' b
 | [],b,t=>rfl
 | x :: a,b,t=>by
   simp only [cons_append,putsT]
   cases putT t x with
   | none=>rfl
   | some t'=>exact puts_append a b t'
theorem star_sl {ps : List ProcV} {w : World} {F : Nat → Prop} (h : (stars (ps.map ProcV.own)).at_ w F) {j : Nat} {p : ProcV} (hp : ps[j]? = some p) : ∃ F2,(Sl true BatV.cells 8 p.v p.l).at_ w F2:=
 ⟨F,(stars_read ps w F h).1.2 j _ _ (by rw [List.getElem?_map,hp];rfl) (by rw [List.getElem?_map,hp];rfl),(stars _).lt h⟩
def Com1 (L : List Asn) (F : Nat → Prop) (l : List BatV) (n : Nat) (w : World) (i : Value) (wr : World) : Prop:=
 ∃ j : Nat,j ≤ l.length ∧ i = .int .i64 j ∧ Hid (∀ x ∈ l.take j,0 ≤ x.b.lp ∧ x.b.lp < n) ∧ St F w wr L
def Com2 (L : List Asn) (F : Nat → Prop) (ps : List ProcV) (v1 : Value) (w : World) (i : Value) (wr : World) : Prop:=
 ∃ (j : Nat) (qs : List ProcV),j ≤ ps.length ∧ i = .int .i64 j ∧ qs.length = j ∧ Hid (qs.map ProcV.e = (ps.take j).map ProcV.e) ∧ Hid (qs.map (·.l) = (ps.take j).map (·.l)) ∧
  St F w wr (Mem.Own 94 ProcV.cells 5 v1 (qs ++ ps.drop j) :: stars (qs.map ProcV.own) :: L)
def Com3 (L : List Asn) (F : Nat → Prop) (t : TrE) (d pool : List BatV) (v1 : Value) (w : World) (i : Value) (wr : World) : Prop:=
 ∃ (j : Nat) (qs : List ProcV),j ≤ d.length ∧ i = .int .i64 j ∧ Hid (putsT t ((d.take j).map (·.b)) = some (qs.map ProcV.e)) ∧ Hid (∀ p ∈ qs,∀ x ∈ p.l,x ∈ d ++ pool) ∧ qs.length = t.length ∧ Hid (∀ p ∈ qs,p.l.length ≤ 65536 + j) ∧
  St F w wr (Mem.Own 94 ProcV.cells 5 v1 qs :: stars (qs.map ProcV.own) :: L)
theorem tcommit_calls (X R : Nat) (t : TrE) (ad : Option Addr) (c : Nat) (l : List BatV) (w : World) (F : Nat → Prop) (S0 : St F w w [traceA X R t,Sl true BatV.cells 8 (.slice ad l.length c) l,insA true l,outA true l]) (hn : SmallB (l.map (·.b))) (ht : SmallT t) :
 Calls Tryz.prog 10 #[.pointer (some ⟨X,0,none⟩),.slice ad l.length c] w fun e w'=>e = .returned (.int .i64 (commitT t (l.map (·.b))).1) ∧ St F w w' [traceA X R (commitT t (l.map (·.b))).2]:=by
 have S:=S0
 clear S0
 have hl6 : l.length ≤ 65536:=by have:=hn.1;rwa [List.length_map] at this
 have HN:=Lib.hid hn
 have HT:=Lib.hid ht
 have hlp : t.length ≤ 65536:=ht.1
 clear hn ht
 obtain ⟨v,ps,pool,hpt,hpl,S⟩:=trace_open S
 have hpsl : t.length = ps.length:=by rw [← hpt,List.length_map]
 have HPT:=Lib.hid hpt
 have HPL:=Lib.hid hpl
 clear hpt hpl
 obtain ⟨ap,cp,rfl,_⟩:=(S.ownsl pvcells 3 rfl).elim fun _ h=>h.form
 have hps6 : ps.length ≤ 65536:=by omega
 go_enter Tryz.func10,Tryz.ntmps10
 go_wp2_with first | ((with_reducible apply wps_loada (T:=92) (k:=1) S 0);(case hx|hi=>rfl);(case hk=>exact nle rfl);(case hT=>decide +kernel))
 go_loopw [18] (fun i wr=>Com1 _ F l ps.length w i wr) (fun i _=>l.length - (intOf i).toNat)
 case atStart=>exact ⟨0,Nat.zero_le _,rfl,Lib.hid (fun x hx=>by simp at hx),S⟩
 case round=>
  clear S
  obtain ⟨j,hj,rfl,HIN,S⟩:=hrel
  by_cases hlt : j < l.length
  · obtain ⟨x,hx⟩ : ∃ x,l[j]? = some x:=⟨_,List.getElem?_eq_getElem hlt⟩
    have hlt2 : (j : Int) < l.length:=by omega
    obtain ⟨R0,o0,rfl⟩ : ∃ R o,ad = some ⟨R,o,none⟩:=(S.sl 5 rfl).elim fun F h=>h.head (by omega)
    have HX:=Lib.hid hx
    clear hx
    obtain ⟨⟨xat,xlp,xins,xthn,xsent⟩,xai,xci,xao,xco⟩:=x
    by_cases hr : 0 ≤ xlp ∧ xlp < ps.length
    · have f1 : decide (xlp < 0) = false:=decide_eq_false (by omega)
      have f2 : decide (xlp ≥ (ps.length : Int)) = false:=decide_eq_false (by omega)
      have f3 : decide ((ps.length : Int) ≤ xlp) = false:=decide_eq_false (by omega)
      go_upto_region 6 with first | ((with_reducible apply wps_loada_el S 5 (hj:=HX.out) (q:=0) (vs:=[.int .i64 (⟨⟨xat,xlp,xins,xthn,xsent⟩,xai,xci,xao,xco⟩:BatV).b.at_,.int .i64 (⟨⟨xat,xlp,xins,xthn,xsent⟩,xai,xci,xao,xco⟩:BatV).b.lp,(⟨⟨xat,xlp,xins,xthn,xsent⟩,xai,xci,xao,xco⟩:BatV).vi,.int .i64 (⟨⟨xat,xlp,xins,xthn,xsent⟩,xai,xci,xao,xco⟩:BatV).b.thn.n0,.int .i64 (⟨⟨xat,xlp,xins,xthn,xsent⟩,xai,xci,xao,xco⟩:BatV).b.thn.n1,.int .i64 (⟨⟨xat,xlp,xins,xthn,xsent⟩,xai,xci,xao,xco⟩:BatV).b.thn.n2,.int .i64 (⟨⟨xat,xlp,xins,xthn,xsent⟩,xai,xci,xao,xco⟩:BatV).b.thn.n3,(⟨⟨xat,xlp,xins,xthn,xsent⟩,xai,xci,xao,xco⟩:BatV).vo]) (m:=8));(case hx|hi=>rfl);(case hn=>omega);(case hm|hv=>rfl);(case hT=>decide +kernel)) | ((with_reducible apply wps_alloca (E:=52) S);(case hz=>exact Tryz.zeroValue52);clear S;intro b6 wz S) | ((with_reducible apply wps_storea (T:=52) S 0 (vs:=[.int .i64 xat,.int .i64 xlp,.slice xai xins.length xci,.int .i64 xthn.n0,.int .i64 xthn.n1,.int .i64 xthn.n2,.int .i64 xthn.n3,.slice xao xsent.length xco]) (m:=8));(case hx|hy|hi|hm|h1=>rfl);(case hn=>exact nle rfl);(case hT=>decide +kernel);clear S;intro wz S;simp only [set_cons_zero,set_cons_succ,setAll,setIfInBounds_toArray] at S)
      have HIN2 : Hid (∀ x ∈ l.take (j + 1),0 ≤ x.b.lp ∧ x.b.lp < ps.length):=Lib.hid fun z hz=>by
       rw [take_snoc HX.out] at hz
       rcases List.mem_append.1 hz with hz | hz
       · exact HIN.out z hz
       · rw [List.mem_singleton] at hz;subst hz;exact hr
      clear hr
      go_wp2_with first | ((with_reducible apply wps_load S 5);(case hx|hi|hu=>rfl);(case hT=>decide +kernel)) | ((with_reducible refine tot_done ?ht ?_);(case ht=>kernel_rfl)) | ((with_reducible apply wps_text S);(case hm=>kernel_rfl);(case hB=>decide +kernel);clear S;intro wz S) | ((with_reducible apply wps_load S 0);(case hx|hi|hu=>rfl);(case hT=>decide +kernel))
      go_roundw
      case rel=>exact ⟨j + 1,by omega,by go_num,HIN2,S.pick [1,2,3,4,5,6,7,8] rfl⟩
      case measure=>simp [intOf];omega
    · have HC : Hid (commitT t (l.map (·.b)) = (10,t)):=Lib.hid (by
       unfold commitT
       rw [if_pos]
       intro g
       have:=g _ (List.mem_map.2 ⟨_,List.mem_of_getElem? HX.out,rfl⟩)
       simp only at this
       omega)
      rcases (show xlp < 0 ∨ (¬ xlp < 0 ∧ (ps.length : Int) ≤ xlp) by omega) with f1 | ⟨f1,f2⟩
      · have f3 : decide (xlp < 0) = true:=decide_eq_true f1
        clear hr f1
        go_wp2_with first | ((with_reducible refine wpList_skip ?hw ?_);(case hw=>with_unfolding_all rfl);simp only [Act.put,setIfInBounds_toArray,set_cons_succ,set_cons_zero]) | ((with_reducible apply wps_loada_el S 5 (hj:=HX.out) (q:=0) (vs:=[.int .i64 (⟨⟨xat,xlp,xins,xthn,xsent⟩,xai,xci,xao,xco⟩:BatV).b.at_,.int .i64 (⟨⟨xat,xlp,xins,xthn,xsent⟩,xai,xci,xao,xco⟩:BatV).b.lp,(⟨⟨xat,xlp,xins,xthn,xsent⟩,xai,xci,xao,xco⟩:BatV).vi,.int .i64 (⟨⟨xat,xlp,xins,xthn,xsent⟩,xai,xci,xao,xco⟩:BatV).b.thn.n0,.int .i64 (⟨⟨xat,xlp,xins,xthn,xsent⟩,xai,xci,xao,xco⟩:BatV).b.thn.n1,.int .i64 (⟨⟨xat,xlp,xins,xthn,xsent⟩,xai,xci,xao,xco⟩:BatV).b.thn.n2,.int .i64 (⟨⟨xat,xlp,xins,xthn,xsent⟩,xai,xci,xao,xco⟩:BatV).b.thn.n3,(⟨⟨xat,xlp,xins,xthn,xsent⟩,xai,xci,xao,xco⟩:BatV).vo]) (m:=8));(case hx|hi=>rfl);(case hn=>omega);(case hm|hv=>rfl);(case hT=>decide +kernel)) | ((with_reducible apply wps_alloca (E:=52) S);(case hz=>exact Tryz.zeroValue52);clear S;intro b6 wz S) | ((with_reducible apply wps_storea (T:=52) S 0 (vs:=[.int .i64 xat,.int .i64 xlp,.slice xai xins.length xci,.int .i64 xthn.n0,.int .i64 xthn.n1,.int .i64 xthn.n2,.int .i64 xthn.n3,.slice xao xsent.length xco]) (m:=8));(case hx|hy|hi|hm|h1=>rfl);(case hn=>exact nle rfl);(case hT=>decide +kernel);clear S;intro wz S;simp only [set_cons_zero,set_cons_succ,setAll,setIfInBounds_toArray] at S) | ((with_reducible refine tot_done ?ht ?_);(case ht=>kernel_rfl)) | ((with_reducible apply wps_text S);(case hm=>kernel_rfl);(case hB=>decide +kernel);clear S;intro wz S) | ((with_reducible apply wps_load S 0);(case hx|hi|hu=>rfl);(case hT=>decide +kernel))
        go_ret
        rw [HC.out]
        exact ⟨rfl,(trace_close HPT.out HPL.out (S.pick [1,2,3,4,5] rfl)).pick [0] rfl⟩
      · have f3 : decide (xlp < 0) = false:=decide_eq_false f1
        have f4 : decide (xlp ≥ (ps.length : Int)) = true:=decide_eq_true f2
        have f5 : decide ((ps.length : Int) ≤ xlp) = true:=decide_eq_true f2
        clear hr f1 f2
        go_wp2_with first | ((with_reducible apply wps_loada_el S 5 (hj:=HX.out) (q:=0) (vs:=[.int .i64 (⟨⟨xat,xlp,xins,xthn,xsent⟩,xai,xci,xao,xco⟩:BatV).b.at_,.int .i64 (⟨⟨xat,xlp,xins,xthn,xsent⟩,xai,xci,xao,xco⟩:BatV).b.lp,(⟨⟨xat,xlp,xins,xthn,xsent⟩,xai,xci,xao,xco⟩:BatV).vi,.int .i64 (⟨⟨xat,xlp,xins,xthn,xsent⟩,xai,xci,xao,xco⟩:BatV).b.thn.n0,.int .i64 (⟨⟨xat,xlp,xins,xthn,xsent⟩,xai,xci,xao,xco⟩:BatV).b.thn.n1,.int .i64 (⟨⟨xat,xlp,xins,xthn,xsent⟩,xai,xci,xao,xco⟩:BatV).b.thn.n2,.int .i64 (⟨⟨xat,xlp,xins,xthn,xsent⟩,xai,xci,xao,xco⟩:BatV).b.thn.n3,(⟨⟨xat,xlp,xins,xthn,xsent⟩,xai,xci,xao,xco⟩:BatV).vo]) (m:=8));(case hx|hi=>rfl);(case hn=>omega);(case hm|hv=>rfl);(case hT=>decide +kernel)) | ((with_reducible apply wps_alloca (E:=52) S);(case hz=>exact Tryz.zeroValue52);clear S;intro b6 wz S) | ((with_reducible apply wps_storea (T:=52) S 0 (vs:=[.int .i64 xat,.int .i64 xlp,.slice xai xins.length xci,.int .i64 xthn.n0,.int .i64 xthn.n1,.int .i64 xthn.n2,.int .i64 xthn.n3,.slice xao xsent.length xco]) (m:=8));(case hx|hy|hi|hm|h1=>rfl);(case hn=>exact nle rfl);(case hT=>decide +kernel);clear S;intro wz S;simp only [set_cons_zero,set_cons_succ,setAll,setIfInBounds_toArray] at S) | ((with_reducible apply wps_load S 5);(case hx|hi|hu=>rfl);(case hT=>decide +kernel)) | ((with_reducible refine tot_done ?ht ?_);(case ht=>kernel_rfl)) | ((with_reducible apply wps_text S);(case hm=>kernel_rfl);(case hB=>decide +kernel);clear S;intro wz S) | ((with_reducible apply wps_load S 0);(case hx|hi|hu=>rfl);(case hT=>decide +kernel))
        go_ret
        rw [HC.out]
        exact ⟨rfl,(trace_close HPT.out HPL.out (S.pick [1,2,3,4,5] rfl)).pick [0] rfl⟩
  · obtain rfl : j = l.length:=by omega
    have HIN2 : Hid (inRange t.length (l.map (·.b))):=Lib.hid fun b hb=>by
     obtain ⟨x,hx,rfl⟩:=List.mem_map.1 hb
     have:=HIN.out x (by rw [List.take_length];exact hx)
     omega
    clear HIN
    have hps : ps.length ≤ 4294967296:=by omega
    go_wp2_with first | ((with_reducible apply wps_load S 4);(case hx|hi|hu=>rfl);(case hT=>decide +kernel)) | (go_at_call 29;refine Calls.mono (clone_Proc _ _ (own_sl (sh:=true) pvcells (S.get (i:=3) rfl).choose_spec) hps) ?_;rintro e wz ⟨a1,c1,rfl,_,T⟩;replace S:=S.join T rfl;clear T;simp only [cons_append,nil_append] at S)
    replace S:=S.starNil.pick [1,0,2,3,4,5,6,7,8,9] rfl
    simp only [pick,nth] at S
    go_loopw [43] (fun i wr=>Com2 _ F ps (.slice a1 ps.length c1) w i wr) (fun i _=>ps.length - (intOf i).toNat)
    case atStart=>exact ⟨0,[],Nat.zero_le _,rfl,rfl,Lib.hid rfl,Lib.hid rfl,S⟩
    case round=>
     clear S
     obtain ⟨j,qs,hj,rfl,hq,HQ,HQL,S⟩:=hrel
     by_cases hlt : j < ps.length
     · obtain ⟨p,hp⟩ : ∃ p,ps[j]? = some p:=⟨_,List.getElem?_eq_getElem hlt⟩
       have hlt2 : (j : Int) < ps.length:=by omega
       have hQl : (qs ++ ps.drop j).length = ps.length:=by rw [List.length_append,List.length_drop];omega
       have HJ : Hid ((qs ++ ps.drop j)[j]? = some p):=Lib.hid (by rw [List.getElem?_append_right (by omega),hq,Nat.sub_self,List.getElem?_drop,Nat.add_zero];exact hp)
       have HST : Hid (∀ y : ProcV,(qs ++ ps.drop j).set j y = (qs ++ [y]) ++ ps.drop (j + 1)):=Lib.hid fun y=>by
        rw [List.set_append_right _ _ (by omega),hq,Nat.sub_self,List.drop_eq_getElem_cons hlt,set_cons_zero,List.append_assoc];rfl
       have HQ2 : Hid (∀ y : ProcV,y.e = p.e → (qs ++ [y]).map ProcV.e = (ps.take (j + 1)).map ProcV.e):=Lib.hid fun y hy=>by rw [List.map_append,HQ.out,take_snoc hp,List.map_append,List.map_singleton,List.map_singleton,hy]
       have HQL2 : Hid (∀ y : ProcV,y.l = p.l → (qs ++ [y]).map (·.l) = (ps.take (j + 1)).map (·.l)):=Lib.hid fun y hy=>by rw [List.map_append,HQL.out,take_snoc hp,List.map_append,List.map_singleton,List.map_singleton,hy]
       have hpn : p.l.length ≤ 4294967296:=by
        have h1:=(HT.out.2 p.e (by rw [← HPT.out];exact List.mem_map.2 ⟨p,List.mem_of_getElem? hp,rfl⟩)).1
        have h2 : p.e.1.length = p.l.length:=by simp [ProcV.e]
        omega
       obtain ⟨R1,q1,e⟩:=own_hd 0 S rfl (by omega)
       simp only [Value.slice.injEq] at e
       obtain ⟨rfl,hz,rfl⟩:=e
       have HP:=Lib.hid hp
       clear hz hp
       obtain ⟨pa,pc,pl,pst⟩:=p
       generalize hLL : qs ++ ps.drop j = LL at *
       have hjl : j < LL.length:=by omega
       have HQl:=Lib.hid hQl
       have HLL:=Lib.hid hLL
       have Hq:=Lib.hid hq
       clear hQl hLL hq
       go_wp2_with first | ((with_reducible apply wps_load_own pvcells S 0 (hj:=HJ.out) (q:=0) (u:=(.slice pa pl.length pc)));(case hx|hi=>rfl);(case hn=>omega);(case hu=>rfl);(case hT=>decide +kernel)) | (go_at_call 30;have hcz:=fun w F h=>clone_Bat (ad:=pa) (n:=pl.length) (c:=pc) (xs:=pl) w F h hpn;have hq2 : (Sl true BatV.cells 8 (.slice pa pl.length pc) pl).at_ _ _:=(star_sl (S.get (i:=4) rfl).choose_spec HP.out).choose_spec;(with_reducible refine Calls.mono (hcz _ _ hq2) ?_);clear hcz hq2;rintro e wz ⟨a2,c2,rfl,_,T⟩;replace S:=S.join T rfl;clear T;simp only [cons_append,nil_append] at S) | ((with_reducible apply wps_store_own pvcells S 1 (hj:=HJ.out) (e':=(⟨a2,c2,pl,pst⟩:ProcV)) (q:=0));(case hx=>rfl);(case hn=>omega);(case hi|hy|h1|he=>rfl);(case hq=>decide);(case hT=>decide +kernel);clear S;intro wz S;simp only [set_cons_succ,set_cons_zero] at S)
       rw [HST.out] at S
       go_roundw
       case rel=>
        refine ⟨j + 1,qs ++ [⟨a2,c2,pl,pst⟩],by omega,by go_num,by rw [List.length_append,Hq.out];rfl,Lib.hid (HQ2.out _ rfl),Lib.hid (HQL2.out _ rfl),?_⟩
        have S2:=S.pick [0,2,1,3,4,5,6,7,8,9,10] rfl
        simp only [pick,nth] at S2
        have S3:=(S2.starSnoc rfl).pick [1,0,2,3,4,5,6,7,8,9] rfl
        rw [List.map_append]
        exact S3
       case measure=>simp [intOf];omega
     · obtain rfl : j = ps.length:=by omega
       rw [List.drop_length,List.append_nil] at S
       rw [List.take_length] at HQ HQL
       have HQP : Hid (∀ p ∈ qs,∀ x ∈ p.l,x ∈ pool):=Lib.hid fun p hp x hx=>by
        have h1 : p.l ∈ ps.map (·.l):=by rw [← HQL.out];exact List.mem_map.2 ⟨p,hp,rfl⟩
        obtain ⟨p2,hp2,e⟩:=List.mem_map.1 h1
        exact HPL.out p2 hp2 x (by rw [e];exact hx)
       have HQN : Hid (∀ p ∈ qs,p.l.length ≤ 65536):=Lib.hid fun p hp=>by
        have h1 : p.e ∈ t:=by rw [← HPT.out,← HQ.out];exact List.mem_map.2 ⟨p,hp,rfl⟩
        have h2:=(HT.out.2 _ h1).1
        simpa [ProcV.e] using h2
       have HQT : Hid (qs.map ProcV.e = t):=Lib.hid (HQ.out.trans HPT.out)
       have hge : ¬ ((ps.length : Int) < ps.length):=by omega
       have hqt : qs.length = t.length:=by omega
       clear HQ HQL hq
       go_wp2_with first | (go_at_call 31;refine Calls.mono (town_calls _ _ l _ _ _ _ (S.get (i:=7) rfl).choose_spec (S.get (i:=8) rfl).choose_spec (S.get (i:=9) rfl).choose_spec HN.out) ?_;rintro e wz ⟨a3,c3,d,rfl,hd,T⟩;replace S:=S.join T rfl;clear T;simp only [cons_append,nil_append] at S)
       have hdl : d.length = l.length:=by have:=congrArg List.length hd;simpa using this
       replace S:=S.pick [3,4,0,1,2,5,6,7,8,9] rfl
       simp only [pick,nth] at S
       rw [← hdl] at S ⊢
       have HD:=Lib.hid hd
       have HDN : Hid (d.length ≤ 65536):=Lib.hid (by omega)
       clear hd hdl
       go_loopw [62] (fun i wr=>Com3 _ F t d pool (.slice a1 ps.length c1) w i wr) (fun i _=>d.length - (intOf i).toNat)
       case atStart=>exact ⟨0,qs,Nat.zero_le _,rfl,Lib.hid (by rw [HQT.out];rfl),Lib.hid (fun p hp x hx=>List.mem_append_right _ (HQP.out p hp x hx)),hqt,HQN,S⟩
       case round=>
        clear S HQP HQN HQT hqt
        clear qs
        obtain ⟨j,qs,hj,rfl,HPU,HQP,hqt,HQN,S⟩:=hrel
        by_cases hlt : j < d.length
        · obtain ⟨x,hx⟩ : ∃ x,d[j]? = some x:=⟨_,List.getElem?_eq_getElem hlt⟩
          have hlt2 : (j : Int) < d.length:=by omega
          have hxr:=HIN2.out x.b (by rw [← HD.out];exact List.mem_map.2 ⟨x,List.mem_of_getElem? hx,rfl⟩)
          obtain ⟨k,hk⟩ : ∃ k : Nat,x.b.lp = k:=⟨x.b.lp.toNat,by omega⟩
          have hj6 : (j : Int) ≤ 65536:=by have:=HDN.out;omega
          have hkl : k < qs.length:=by omega
          have hkl2 : (k : Int) < ps.length:=by omega
          obtain ⟨p,hp⟩ : ∃ p,qs[k]? = some p:=⟨_,List.getElem?_eq_getElem hkl⟩
          obtain ⟨y,q,hlv⟩ : ∃ y q,lastV p.l = (y,q):=⟨_,_,rfl⟩
          have hpn:=HQN.out p (List.mem_of_getElem? hp)
          have hte : (qs.map ProcV.e)[x.b.lp.toNat]? = some p.e:=by rw [hk,Int.toNat_natCast,List.getElem?_map,hp];rfl
          have hpn2 : p.l.length ≤ 4294967296:=by have:=HDN.out;omega
          have hpn3 : p.l.length < 4294967296:=by have:=HDN.out;omega
          have hbad : q = true → x.b.at_ ≤ y.b.at_ → putT (qs.map ProcV.e) x.b = none:=fun h1 h2=>by
           subst h1
           unfold putT
           rw [hte]
           unfold lastV at hlv
           cases hg : p.l.getLast? with
           | none=>rw [hg] at hlv;cases hlv
           | some z=>
             rw [hg] at hlv;cases hlv
             simp only [ProcV.e,List.getLast?_map,hg,Option.map_some]
             rw [if_pos h2]
          have hgood : ¬ (q = true ∧ x.b.at_ ≤ y.b.at_) → putT (qs.map ProcV.e) x.b = some ((qs.map ProcV.e).set k (p.l.map (·.b) ++ [x.b],p.st)):=fun h=>by
           unfold putT
           rw [hte,hk,Int.toNat_natCast]
           unfold lastV at hlv
           cases hg : p.l.getLast? with
           | none=>simp only [ProcV.e,List.getLast?_map,hg,Option.map_none]
           | some z=>
             rw [hg] at hlv;cases hlv
             simp only [ProcV.e,List.getLast?_map,hg,Option.map_some]
             rw [if_neg (fun g=>h ⟨rfl,g⟩)]
          have HDS : Hid ((d.take (j + 1)).map (·.b) = (d.take j).map (·.b) ++ [x.b]):=Lib.hid (by rw [take_snoc hx,List.map_append];rfl)
          have HXD:=Lib.hid (List.mem_of_getElem? hx)
          have HX:=Lib.hid hx
          have HP:=Lib.hid hp
          obtain ⟨R1,q1,e⟩:=own_hd 0 S rfl (by omega)
          simp only [Value.slice.injEq] at e
          obtain ⟨rfl,hz,rfl⟩:=e
          obtain ⟨R3,q3,e⟩:=own_hd 2 S rfl (by omega)
          simp only [Value.slice.injEq] at e
          obtain ⟨rfl,hz2,rfl⟩:=e
          clear hz hz2 hx hp hte
          obtain ⟨⟨xat,xlp,xins,xthn,xsent⟩,xai,xci,xao,xco⟩:=x
          obtain ⟨pa,pc,pl,pst⟩:=p
          simp only at hk hlv hpn hpn2 hpn3 hbad hgood hxr
          subst hk
          have HTL:=Lib.hid fun w F h=>tlast_calls pa pc pl y q hlv w F h hpn2
          obtain ⟨⟨yat,ylp,yins,ythn,ysent⟩,yai,yci,yao,yco⟩:=y
          simp only at HTL hbad hgood
          have HPV : Hid ((qs.map ProcV.own)[k]? = some (Mem.Own 52 BatV.cells 8 (.slice pa pl.length pc) pl)):=Lib.hid (by rw [List.getElem?_map,HP.out];rfl)
          have hql : qs.length = ps.length:=by omega
          have HDB : Hid (d.map (·.b) = (d.take j).map (·.b) ++ ⟨xat,k,xins,xthn,xsent⟩ :: (d.drop (j + 1)).map (·.b)):=Lib.hid (by
           conv=>lhs;rw [← List.take_append_drop j d,List.map_append,List.drop_eq_getElem_cons hlt]
           rw [List.map_cons,(List.getElem?_eq_some_iff.1 HX.out).2])
          clear hlv
          by_cases hb : q = true ∧ xat ≤ yat
          · obtain ⟨rfl,hxy⟩:=hb
            have HPB:=Lib.hid (hbad rfl hxy)
            have f1 : decide (xat ≤ yat) = true:=decide_eq_true hxy
            clear hbad hgood hxy
            have HC : Hid (commitT t (l.map (·.b)) = (18,t)):=Lib.hid (by
             unfold commitT
             rw [if_neg (fun g=>g HIN2.out),← HD.out,HDB.out,puts_append,HPU.out]
             simp only [Option.bind_some,putsT,HPB.out])
            go_wp2_with first | ((with_reducible apply wps_loada_own bvcells S 2 (hj:=HX.out) (q:=0) (vs:=[.int .i64 (⟨⟨xat,k,xins,xthn,xsent⟩,xai,xci,xao,xco⟩:BatV).b.at_,.int .i64 (⟨⟨xat,k,xins,xthn,xsent⟩,xai,xci,xao,xco⟩:BatV).b.lp,(⟨⟨xat,k,xins,xthn,xsent⟩,xai,xci,xao,xco⟩:BatV).vi,.int .i64 (⟨⟨xat,k,xins,xthn,xsent⟩,xai,xci,xao,xco⟩:BatV).b.thn.n0,.int .i64 (⟨⟨xat,k,xins,xthn,xsent⟩,xai,xci,xao,xco⟩:BatV).b.thn.n1,.int .i64 (⟨⟨xat,k,xins,xthn,xsent⟩,xai,xci,xao,xco⟩:BatV).b.thn.n2,.int .i64 (⟨⟨xat,k,xins,xthn,xsent⟩,xai,xci,xao,xco⟩:BatV).b.thn.n3,(⟨⟨xat,k,xins,xthn,xsent⟩,xai,xci,xao,xco⟩:BatV).vo]) (m:=8));(case hx|hi=>rfl);(case hn=>omega);(case hm|hv=>rfl);(case hT=>decide +kernel)) | ((with_reducible apply wps_alloca (E:=52) S);(case hz=>exact Tryz.zeroValue52);clear S;intro b10 wz S) | ((with_reducible apply wps_storea (T:=52) S 0 (vs:=[.int .i64 xat,.int .i64 k,.slice xai xins.length xci,.int .i64 xthn.n0,.int .i64 xthn.n1,.int .i64 xthn.n2,.int .i64 xthn.n3,.slice xao xsent.length xco]) (m:=8));(case hx|hy|hi|hm|h1=>rfl);(case hn=>exact nle rfl);(case hT=>decide +kernel);clear S;intro wz S;simp only [set_cons_zero,set_cons_succ,setAll,setIfInBounds_toArray] at S) | ((with_reducible apply wps_loada_own pvcells S 1 (hj:=HP.out) (q:=0) (vs:=[.slice pa pl.length pc]) (m:=1));(case hx|hi=>rfl);(case hn=>omega);(case hm|hv=>rfl);(case hT=>decide +kernel)) | (go_at_call 32;have hq2 : (Sl true BatV.cells 8 (.slice pa pl.length pc) pl).at_ _ _:=(star_sl (S.get (i:=2) rfl).choose_spec HP.out).choose_spec;refine Calls.mono (HTL.out _ _ hq2) ?_;clear hq2;rintro e wz ⟨rfl,hE⟩;replace S:=S.ext (Keep.of_below hE);clear hE) | ((with_reducible apply wps_storea (T:=52) S 0 (vs:=[.int .i64 yat,.int .i64 ylp,.slice yai yins.length yci,.int .i64 ythn.n0,.int .i64 ythn.n1,.int .i64 ythn.n2,.int .i64 ythn.n3,.slice yao ysent.length yco]) (m:=8));(case hx|hy|hi|hm|h1=>rfl);(case hn=>exact nle rfl);(case hT=>decide +kernel);clear S;intro wz S;simp only [set_cons_zero,set_cons_succ,setAll,setIfInBounds_toArray] at S) | ((with_reducible apply wps_load S 1);(case hx|hi|hu=>rfl);(case hT=>decide +kernel)) | ((with_reducible apply wps_load S 0);(case hx|hi|hu=>rfl);(case hT=>decide +kernel))
            go_ret
            rw [HC.out]
            exact ⟨rfl,(trace_close HPT.out HPL.out (S.pick [7,8,9,10,11] rfl)).pick [0] rfl⟩
          · have HPG:=Lib.hid (hgood hb)
            clear hbad hgood
            have HPU2 : Hid (∀ az cz,putsT t ((d.take (j + 1)).map (·.b)) = some ((qs.set k ⟨az,cz,pl ++ [⟨⟨xat,k,xins,xthn,xsent⟩,xai,xci,xao,xco⟩],pst⟩).map ProcV.e)):=Lib.hid fun az cz=>by
             rw [HDS.out,puts_append,HPU.out,List.map_set]
             simp only [Option.bind_some,putsT,HPG.out,ProcV.e,List.map_append,List.map_cons,List.map_nil]
            have HQP2 : Hid (∀ az cz,∀ p ∈ qs.set k ⟨az,cz,pl ++ [⟨⟨xat,k,xins,xthn,xsent⟩,xai,xci,xao,xco⟩],pst⟩,∀ x ∈ p.l,x ∈ d ++ pool):=Lib.hid fun az cz p hp x hx=>by
             rcases List.mem_or_eq_of_mem_set hp with hp | rfl
             · exact HQP.out p hp x hx
             · rcases List.mem_append.1 hx with hx | hx
               · exact HQP.out _ (List.mem_of_getElem? HP.out) x hx
               · rw [List.mem_singleton] at hx;subst hx;exact List.mem_append_left _ HXD.out
            have HQN2 : Hid (∀ az cz,∀ p ∈ qs.set k ⟨az,cz,pl ++ [⟨⟨xat,k,xins,xthn,xsent⟩,xai,xci,xao,xco⟩],pst⟩,p.l.length ≤ 65536 + (j + 1)):=Lib.hid fun az cz p hp=>by
             rcases List.mem_or_eq_of_mem_set hp with hp | rfl
             · have:=HQN.out p hp;omega
             · simp only [List.length_append,List.length_cons,List.length_nil];omega
            have HSP : Hid (((qs.map ProcV.own).set k (pur True))[k]? = some (pur True)):=Lib.hid (List.getElem?_set_self (by rw [List.length_map];exact hkl))
            rcases (show q = false ∨ (q = true ∧ ¬ xat ≤ yat) by cases q <;> simp_all) with rfl | ⟨rfl,hxy⟩
            · clear hb
              go_upto_region 22 with first | ((with_reducible refine wpList_skip ?hw ?_);(case hw=>with_unfolding_all rfl);simp only [Act.put,setIfInBounds_toArray,set_cons_succ,set_cons_zero]) | ((with_reducible apply wps_loada_own bvcells S 2 (hj:=HX.out) (q:=0) (vs:=[.int .i64 (⟨⟨xat,k,xins,xthn,xsent⟩,xai,xci,xao,xco⟩:BatV).b.at_,.int .i64 (⟨⟨xat,k,xins,xthn,xsent⟩,xai,xci,xao,xco⟩:BatV).b.lp,(⟨⟨xat,k,xins,xthn,xsent⟩,xai,xci,xao,xco⟩:BatV).vi,.int .i64 (⟨⟨xat,k,xins,xthn,xsent⟩,xai,xci,xao,xco⟩:BatV).b.thn.n0,.int .i64 (⟨⟨xat,k,xins,xthn,xsent⟩,xai,xci,xao,xco⟩:BatV).b.thn.n1,.int .i64 (⟨⟨xat,k,xins,xthn,xsent⟩,xai,xci,xao,xco⟩:BatV).b.thn.n2,.int .i64 (⟨⟨xat,k,xins,xthn,xsent⟩,xai,xci,xao,xco⟩:BatV).b.thn.n3,(⟨⟨xat,k,xins,xthn,xsent⟩,xai,xci,xao,xco⟩:BatV).vo]) (m:=8));(case hx|hi=>rfl);(case hn=>omega);(case hm|hv=>rfl);(case hT=>decide +kernel)) | ((with_reducible apply wps_alloca (E:=52) S);(case hz=>exact Tryz.zeroValue52);clear S;intro b10 wz S) | ((with_reducible apply wps_storea (T:=52) S 0 (vs:=[.int .i64 xat,.int .i64 k,.slice xai xins.length xci,.int .i64 xthn.n0,.int .i64 xthn.n1,.int .i64 xthn.n2,.int .i64 xthn.n3,.slice xao xsent.length xco]) (m:=8));(case hx|hy|hi|hm|h1=>rfl);(case hn=>exact nle rfl);(case hT=>decide +kernel);clear S;intro wz S;simp only [set_cons_zero,set_cons_succ,setAll,setIfInBounds_toArray] at S) | ((with_reducible apply wps_loada_own pvcells S 1 (hj:=HP.out) (q:=0) (vs:=[.slice pa pl.length pc]) (m:=1));(case hx|hi=>rfl);(case hn=>omega);(case hm|hv=>rfl);(case hT=>decide +kernel)) | (go_at_call 32;have hq2 : (Sl true BatV.cells 8 (.slice pa pl.length pc) pl).at_ _ _:=(star_sl (S.get (i:=2) rfl).choose_spec HP.out).choose_spec;refine Calls.mono (HTL.out _ _ hq2) ?_;clear hq2;rintro e wz ⟨rfl,hE⟩;replace S:=S.ext (Keep.of_below hE);clear hE) | ((with_reducible apply wps_storea (T:=52) S 0 (vs:=[.int .i64 yat,.int .i64 ylp,.slice yai yins.length yci,.int .i64 ythn.n0,.int .i64 ythn.n1,.int .i64 ythn.n2,.int .i64 ythn.n3,.slice yao ysent.length yco]) (m:=8));(case hx|hy|hi|hm|h1=>rfl);(case hn=>exact nle rfl);(case hT=>decide +kernel);clear S;intro wz S;simp only [set_cons_zero,set_cons_succ,setAll,setIfInBounds_toArray] at S) | ((with_reducible apply wps_load S 0);(case hx|hi|hu=>rfl);(case hT=>decide +kernel))
              replace S:=S.pick [3,2,4,5,6,7,8,9,10,11,1] rfl
              simp only [pick,nth] at S
              replace S:=S.starPull k HPV.out rfl
              replace S:=S.pick [4,5,3,6,7,8,9,10,1,11,2,0] rfl
              simp only [pick,nth] at S
              (refine wp_region_wt (soft:=[0,1,2,3,4,6]) (L:=[_,_,_,_,_,_,_,_,_,_]) (T:=[_,_]) S ?hm ?hB ?_);(case hm=>kernel_rfl);(case hB=>decide +kernel);clear S
              iterate 6
               (with_reducible apply softs_cons)
               (case hw=>
                 (with_reducible apply soft_of);(case hi=>rfl)
                 intro T wz S
                 simp only [cons_append,nil_append] at S
                 go_wp2_with first | ((with_reducible apply wps_loada (T:=52) (k:=8) S 9);(case hx|hi=>rfl);(case hk=>exact nle rfl);(case hT=>decide +kernel)) | ((with_reducible refine tot_done ?ht ?_);(case ht=>kernel_rfl))
                 exact ⟨rfl,S⟩)
               (case hs=>exact ⟨_,rfl,by kernel_rfl⟩)
              refine softs_nil ?_
              (with_reducible apply W_hard2 (i:=5) (i':=7));(case hn=>rfl);(case hr=>decide +kernel)
              focus
               intro wz S
               (with_reducible apply hard_of);(case hi=>rfl)
               simp only [cons_append,nil_append] at S
               go_wp2_with first | ((with_reducible apply wps_load_own pvcells S 10 (hj:=HP.out) (q:=0) (u:=(.slice pa pl.length pc)));(case hx|hi=>rfl);(case hn=>omega);(case hu=>rfl);(case hT=>decide +kernel)) | ((with_reducible refine tot_done ?ht ?_);(case ht=>kernel_rfl))
               refine ⟨_,S,?_⟩
               clear S
               (with_reducible apply W_hard1 (i:=7));(case hn=>rfl);(case hr=>decide +kernel)
               intro wz S
               (with_reducible apply hard_of);(case hi=>rfl)
               simp only [cons_append,nil_append] at S
               go_wp2_with first | ((with_reducible apply wps_build1a (T:=27) (E:=52) S);(case hx=>rfl);(case hr=>intro w;kernel_rfl);clear S;intro bz wz S) | ((with_reducible refine tot_done ?ht ?_);(case ht=>kernel_rfl))
               refine ⟨_,S.pick [1,2,3,4,5,6,7,8,9,10,11,12,0] rfl,?_⟩
               clear S
               (with_reducible apply W_hard1 (i:=8));(case hn=>rfl);(case hr=>decide +kernel)
               intro wz S
               (with_reducible apply hard_of);(case hi=>rfl)
               simp only [cons_append,nil_append] at S
               go_wp2_with first | ((with_reducible apply wps_append1 elem_Bat bvcells bvone (by decide) S 11 (j:=12) (e:=(⟨⟨xat,k,xins,xthn,xsent⟩,xai,xci,xao,xco⟩ : BatV)));(case hx|hy|hi|hj|he=>rfl);(case hl=>omega);clear S;intro az nz cz wz hnz S;simp only [set_cons_succ] at S) | ((with_reducible refine tot_done ?ht ?_);(case ht=>kernel_rfl))
               refine ⟨_,S,?_⟩
               clear S
               (refine W_mid (f:=1) (soft:=[9,10,11]) rfl ?hB ?_);(case hB=>decide +kernel)
               iterate 3
                (with_reducible apply softs_cons)
                (case hw=>
                  (with_reducible apply soft_of);(case hi=>rfl)
                  intro T wz S
                  simp only [cons_append,nil_append] at S
                  go_wp2_with first | ((with_reducible refine tot_done ?ht ?_);(case ht=>kernel_rfl))
                  exact ⟨rfl,S⟩)
                (case hs=>exact ⟨_,rfl,by kernel_rfl⟩)
               refine softs_nil ?_
               (with_reducible apply W_hard1 (i:=12));(case hn=>rfl);(case hr=>decide +kernel)
               intro wz S
               (with_reducible apply hard_of);(case hi=>rfl)
               simp only [cons_append,nil_append] at S
               go_wp2_with first | ((with_reducible apply wps_store_own pvcells S 10 (hj:=HP.out) (e':=(⟨az,cz,pl++[⟨⟨xat,k,xins,xthn,xsent⟩,xai,xci,xao,xco⟩],pst⟩:ProcV)) (q:=0) (u:=.slice az nz cz));(case hx=>rfl);(case hn=>omega);(case hi|hy|h1=>rfl);(case he=>have hq3:=hnz.out;simp [ProcV.cells,hq3]);(case hq=>decide);(case hT=>decide +kernel);clear S;intro wz S;simp only [set_cons_succ,set_cons_zero] at S) | ((with_reducible refine tot_done ?ht ?_);(case ht=>kernel_rfl))
               refine ⟨_,S,?_⟩
               clear S
               (with_reducible apply W_done);(case hn=>rfl);(case hr=>decide +kernel)
               intro wz S
               repeat (first | simp only at S | simp only [pick] at S | simp only [nth] at S | simp only [set_cons_succ] at S | simp only [set_cons_zero] at S | simp only [setIfInBounds_toArray] at S | simp only [setAll] at S | simp only [cons_append] at S | simp only [nil_append] at S | simp only [List.append_nil] at S)
              rotate_left 1
              focus
               intro wz S
               (with_reducible apply hard_of);(case hi=>rfl)
               simp only [cons_append,nil_append] at S
               go_wp2_with first | ((with_reducible apply wps_build1a (T:=27) (E:=52) S);(case hx=>rfl);(case hr=>intro w;kernel_rfl);clear S;intro bz wz S) | ((with_reducible refine tot_done ?ht ?_);(case ht=>kernel_rfl))
               refine ⟨_,S.pick [1,2,3,4,5,6,7,8,9,10,11,12,0] rfl,?_⟩
               clear S
               (with_reducible apply W_hard1 (i:=5));(case hn=>rfl);(case hr=>decide +kernel)
               intro wz S
               (with_reducible apply hard_of);(case hi=>rfl)
               simp only [cons_append,nil_append] at S
               go_wp2_with first | ((with_reducible apply wps_load_own pvcells S 10 (hj:=HP.out) (q:=0) (u:=(.slice pa pl.length pc)));(case hx|hi=>rfl);(case hn=>omega);(case hu=>rfl);(case hT=>decide +kernel)) | ((with_reducible refine tot_done ?ht ?_);(case ht=>kernel_rfl))
               refine ⟨_,S,?_⟩
               clear S
               (with_reducible apply W_hard1 (i:=8));(case hn=>rfl);(case hr=>decide +kernel)
               intro wz S
               (with_reducible apply hard_of);(case hi=>rfl)
               simp only [cons_append,nil_append] at S
               go_wp2_with first | ((with_reducible apply wps_append1 elem_Bat bvcells bvone (by decide) S 11 (j:=12) (e:=(⟨⟨xat,k,xins,xthn,xsent⟩,xai,xci,xao,xco⟩ : BatV)));(case hx|hy|hi|hj|he=>rfl);(case hl=>omega);clear S;intro az nz cz wz hnz S;simp only [set_cons_succ] at S) | ((with_reducible refine tot_done ?ht ?_);(case ht=>kernel_rfl))
               refine ⟨_,S,?_⟩
               clear S
               (refine W_mid (f:=1) (soft:=[9,10,11]) rfl ?hB ?_);(case hB=>decide +kernel)
               iterate 3
                (with_reducible apply softs_cons)
                (case hw=>
                  (with_reducible apply soft_of);(case hi=>rfl)
                  intro T wz S
                  simp only [cons_append,nil_append] at S
                  go_wp2_with first | ((with_reducible refine tot_done ?ht ?_);(case ht=>kernel_rfl))
                  exact ⟨rfl,S⟩)
                (case hs=>exact ⟨_,rfl,by kernel_rfl⟩)
               refine softs_nil ?_
               (with_reducible apply W_hard1 (i:=12));(case hn=>rfl);(case hr=>decide +kernel)
               intro wz S
               (with_reducible apply hard_of);(case hi=>rfl)
               simp only [cons_append,nil_append] at S
               go_wp2_with first | ((with_reducible apply wps_store_own pvcells S 10 (hj:=HP.out) (e':=(⟨az,cz,pl++[⟨⟨xat,k,xins,xthn,xsent⟩,xai,xci,xao,xco⟩],pst⟩:ProcV)) (q:=0) (u:=.slice az nz cz));(case hx=>rfl);(case hn=>omega);(case hi|hy|h1=>rfl);(case he=>have hq3:=hnz.out;simp [ProcV.cells,hq3]);(case hq=>decide);(case hT=>decide +kernel);clear S;intro wz S;simp only [set_cons_succ,set_cons_zero] at S) | ((with_reducible refine tot_done ?ht ?_);(case ht=>kernel_rfl))
               refine ⟨_,S,?_⟩
               clear S
               (with_reducible apply W_done);(case hn=>rfl);(case hr=>decide +kernel)
               intro wz S
               repeat (first | simp only at S | simp only [pick] at S | simp only [nth] at S | simp only [set_cons_succ] at S | simp only [set_cons_zero] at S | simp only [setIfInBounds_toArray] at S | simp only [setAll] at S | simp only [cons_append] at S | simp only [nil_append] at S | simp only [List.append_nil] at S)
              all_goals
               have hnl : nz = (pl ++ [(⟨⟨xat,k,xins,xthn,xsent⟩,xai,xci,xao,xco⟩ : BatV)]).length:=by have:=hnz.out;rw [List.length_append];exact this
               rw [hnl] at S
               clear hnl
               go_wp2_with first | ((with_reducible apply wps_loada (T:=92) (k:=1) S 0);(case hx|hi=>rfl);(case hk=>exact nle rfl);(case hT=>decide +kernel))
               go_roundw
               case rel=>
                refine ⟨j + 1,qs.set k ⟨az,cz,pl ++ [⟨⟨xat,k,xins,xthn,xsent⟩,xai,xci,xao,xco⟩],pst⟩,by omega,by go_num,Lib.hid (HPU2.out az cz),Lib.hid (HQP2.out az cz),by rw [List.length_set];exact hqt,Lib.hid (HQN2.out az cz),?_⟩
                have S2:=S.pick [11,8,10,2,0,1,3,4,5,6,7] rfl
                simp only [pick,nth] at S2
                have S3:=S2.starPush k HSP.out rfl
                rw [List.set_set] at S3
                rw [List.map_set]
                exact S3.pick [1,0,2,3,4,5,6,7,8,9] rfl
               case measure=>simp [intOf];omega
            · have f1 : decide (xat ≤ yat) = false:=decide_eq_false hxy
              clear hb hxy
              go_upto_region 22 with first | ((with_reducible apply wps_loada_own bvcells S 2 (hj:=HX.out) (q:=0) (vs:=[.int .i64 (⟨⟨xat,k,xins,xthn,xsent⟩,xai,xci,xao,xco⟩:BatV).b.at_,.int .i64 (⟨⟨xat,k,xins,xthn,xsent⟩,xai,xci,xao,xco⟩:BatV).b.lp,(⟨⟨xat,k,xins,xthn,xsent⟩,xai,xci,xao,xco⟩:BatV).vi,.int .i64 (⟨⟨xat,k,xins,xthn,xsent⟩,xai,xci,xao,xco⟩:BatV).b.thn.n0,.int .i64 (⟨⟨xat,k,xins,xthn,xsent⟩,xai,xci,xao,xco⟩:BatV).b.thn.n1,.int .i64 (⟨⟨xat,k,xins,xthn,xsent⟩,xai,xci,xao,xco⟩:BatV).b.thn.n2,.int .i64 (⟨⟨xat,k,xins,xthn,xsent⟩,xai,xci,xao,xco⟩:BatV).b.thn.n3,(⟨⟨xat,k,xins,xthn,xsent⟩,xai,xci,xao,xco⟩:BatV).vo]) (m:=8));(case hx|hi=>rfl);(case hn=>omega);(case hm|hv=>rfl);(case hT=>decide +kernel)) | ((with_reducible apply wps_alloca (E:=52) S);(case hz=>exact Tryz.zeroValue52);clear S;intro b10 wz S) | ((with_reducible apply wps_storea (T:=52) S 0 (vs:=[.int .i64 xat,.int .i64 k,.slice xai xins.length xci,.int .i64 xthn.n0,.int .i64 xthn.n1,.int .i64 xthn.n2,.int .i64 xthn.n3,.slice xao xsent.length xco]) (m:=8));(case hx|hy|hi|hm|h1=>rfl);(case hn=>exact nle rfl);(case hT=>decide +kernel);clear S;intro wz S;simp only [set_cons_zero,set_cons_succ,setAll,setIfInBounds_toArray] at S) | ((with_reducible apply wps_loada_own pvcells S 1 (hj:=HP.out) (q:=0) (vs:=[.slice pa pl.length pc]) (m:=1));(case hx|hi=>rfl);(case hn=>omega);(case hm|hv=>rfl);(case hT=>decide +kernel)) | (go_at_call 32;have hq2 : (Sl true BatV.cells 8 (.slice pa pl.length pc) pl).at_ _ _:=(star_sl (S.get (i:=2) rfl).choose_spec HP.out).choose_spec;refine Calls.mono (HTL.out _ _ hq2) ?_;clear hq2;rintro e wz ⟨rfl,hE⟩;replace S:=S.ext (Keep.of_below hE);clear hE) | ((with_reducible apply wps_storea (T:=52) S 0 (vs:=[.int .i64 yat,.int .i64 ylp,.slice yai yins.length yci,.int .i64 ythn.n0,.int .i64 ythn.n1,.int .i64 ythn.n2,.int .i64 ythn.n3,.slice yao ysent.length yco]) (m:=8));(case hx|hy|hi|hm|h1=>rfl);(case hn=>exact nle rfl);(case hT=>decide +kernel);clear S;intro wz S;simp only [set_cons_zero,set_cons_succ,setAll,setIfInBounds_toArray] at S) | ((with_reducible apply wps_load S 1);(case hx|hi|hu=>rfl);(case hT=>decide +kernel)) | ((with_reducible apply wps_load S 0);(case hx|hi|hu=>rfl);(case hT=>decide +kernel))
              replace S:=S.pick [3,2,4,5,6,7,8,9,10,11,1] rfl
              simp only [pick,nth] at S
              replace S:=S.starPull k HPV.out rfl
              replace S:=S.pick [4,5,3,6,7,8,9,10,1,11,2,0] rfl
              simp only [pick,nth] at S
              (refine wp_region_wt (soft:=[0,1,2,3,4,6]) (L:=[_,_,_,_,_,_,_,_,_,_]) (T:=[_,_]) S ?hm ?hB ?_);(case hm=>kernel_rfl);(case hB=>decide +kernel);clear S
              iterate 6
               (with_reducible apply softs_cons)
               (case hw=>
                 (with_reducible apply soft_of);(case hi=>rfl)
                 intro T wz S
                 simp only [cons_append,nil_append] at S
                 go_wp2_with first | ((with_reducible apply wps_loada (T:=52) (k:=8) S 9);(case hx|hi=>rfl);(case hk=>exact nle rfl);(case hT=>decide +kernel)) | ((with_reducible refine tot_done ?ht ?_);(case ht=>kernel_rfl))
                 exact ⟨rfl,S⟩)
               (case hs=>exact ⟨_,rfl,by kernel_rfl⟩)
              refine softs_nil ?_
              (with_reducible apply W_hard2 (i:=5) (i':=7));(case hn=>rfl);(case hr=>decide +kernel)
              focus
               intro wz S
               (with_reducible apply hard_of);(case hi=>rfl)
               simp only [cons_append,nil_append] at S
               go_wp2_with first | ((with_reducible apply wps_load_own pvcells S 10 (hj:=HP.out) (q:=0) (u:=(.slice pa pl.length pc)));(case hx|hi=>rfl);(case hn=>omega);(case hu=>rfl);(case hT=>decide +kernel)) | ((with_reducible refine tot_done ?ht ?_);(case ht=>kernel_rfl))
               refine ⟨_,S,?_⟩
               clear S
               (with_reducible apply W_hard1 (i:=7));(case hn=>rfl);(case hr=>decide +kernel)
               intro wz S
               (with_reducible apply hard_of);(case hi=>rfl)
               simp only [cons_append,nil_append] at S
               go_wp2_with first | ((with_reducible apply wps_build1a (T:=27) (E:=52) S);(case hx=>rfl);(case hr=>intro w;kernel_rfl);clear S;intro bz wz S) | ((with_reducible refine tot_done ?ht ?_);(case ht=>kernel_rfl))
               refine ⟨_,S.pick [1,2,3,4,5,6,7,8,9,10,11,12,0] rfl,?_⟩
               clear S
               (with_reducible apply W_hard1 (i:=8));(case hn=>rfl);(case hr=>decide +kernel)
               intro wz S
               (with_reducible apply hard_of);(case hi=>rfl)
               simp only [cons_append,nil_append] at S
               go_wp2_with first | ((with_reducible apply wps_append1 elem_Bat bvcells bvone (by decide) S 11 (j:=12) (e:=(⟨⟨xat,k,xins,xthn,xsent⟩,xai,xci,xao,xco⟩ : BatV)));(case hx|hy|hi|hj|he=>rfl);(case hl=>omega);clear S;intro az nz cz wz hnz S;simp only [set_cons_succ] at S) | ((with_reducible refine tot_done ?ht ?_);(case ht=>kernel_rfl))
               refine ⟨_,S,?_⟩
               clear S
               (refine W_mid (f:=1) (soft:=[9,10,11]) rfl ?hB ?_);(case hB=>decide +kernel)
               iterate 3
                (with_reducible apply softs_cons)
                (case hw=>
                  (with_reducible apply soft_of);(case hi=>rfl)
                  intro T wz S
                  simp only [cons_append,nil_append] at S
                  go_wp2_with first | ((with_reducible refine tot_done ?ht ?_);(case ht=>kernel_rfl))
                  exact ⟨rfl,S⟩)
                (case hs=>exact ⟨_,rfl,by kernel_rfl⟩)
               refine softs_nil ?_
               (with_reducible apply W_hard1 (i:=12));(case hn=>rfl);(case hr=>decide +kernel)
               intro wz S
               (with_reducible apply hard_of);(case hi=>rfl)
               simp only [cons_append,nil_append] at S
               go_wp2_with first | ((with_reducible apply wps_store_own pvcells S 10 (hj:=HP.out) (e':=(⟨az,cz,pl++[⟨⟨xat,k,xins,xthn,xsent⟩,xai,xci,xao,xco⟩],pst⟩:ProcV)) (q:=0) (u:=.slice az nz cz));(case hx=>rfl);(case hn=>omega);(case hi|hy|h1=>rfl);(case he=>have hq3:=hnz.out;simp [ProcV.cells,hq3]);(case hq=>decide);(case hT=>decide +kernel);clear S;intro wz S;simp only [set_cons_succ,set_cons_zero] at S) | ((with_reducible refine tot_done ?ht ?_);(case ht=>kernel_rfl))
               refine ⟨_,S,?_⟩
               clear S
               (with_reducible apply W_done);(case hn=>rfl);(case hr=>decide +kernel)
               intro wz S
               repeat (first | simp only at S | simp only [pick] at S | simp only [nth] at S | simp only [set_cons_succ] at S | simp only [set_cons_zero] at S | simp only [setIfInBounds_toArray] at S | simp only [setAll] at S | simp only [cons_append] at S | simp only [nil_append] at S | simp only [List.append_nil] at S)
              rotate_left 1
              focus
               intro wz S
               (with_reducible apply hard_of);(case hi=>rfl)
               simp only [cons_append,nil_append] at S
               go_wp2_with first | ((with_reducible apply wps_build1a (T:=27) (E:=52) S);(case hx=>rfl);(case hr=>intro w;kernel_rfl);clear S;intro bz wz S) | ((with_reducible refine tot_done ?ht ?_);(case ht=>kernel_rfl))
               refine ⟨_,S.pick [1,2,3,4,5,6,7,8,9,10,11,12,0] rfl,?_⟩
               clear S
               (with_reducible apply W_hard1 (i:=5));(case hn=>rfl);(case hr=>decide +kernel)
               intro wz S
               (with_reducible apply hard_of);(case hi=>rfl)
               simp only [cons_append,nil_append] at S
               go_wp2_with first | ((with_reducible apply wps_load_own pvcells S 10 (hj:=HP.out) (q:=0) (u:=(.slice pa pl.length pc)));(case hx|hi=>rfl);(case hn=>omega);(case hu=>rfl);(case hT=>decide +kernel)) | ((with_reducible refine tot_done ?ht ?_);(case ht=>kernel_rfl))
               refine ⟨_,S,?_⟩
               clear S
               (with_reducible apply W_hard1 (i:=8));(case hn=>rfl);(case hr=>decide +kernel)
               intro wz S
               (with_reducible apply hard_of);(case hi=>rfl)
               simp only [cons_append,nil_append] at S
               go_wp2_with first | ((with_reducible apply wps_append1 elem_Bat bvcells bvone (by decide) S 11 (j:=12) (e:=(⟨⟨xat,k,xins,xthn,xsent⟩,xai,xci,xao,xco⟩ : BatV)));(case hx|hy|hi|hj|he=>rfl);(case hl=>omega);clear S;intro az nz cz wz hnz S;simp only [set_cons_succ] at S) | ((with_reducible refine tot_done ?ht ?_);(case ht=>kernel_rfl))
               refine ⟨_,S,?_⟩
               clear S
               (refine W_mid (f:=1) (soft:=[9,10,11]) rfl ?hB ?_);(case hB=>decide +kernel)
               iterate 3
                (with_reducible apply softs_cons)
                (case hw=>
                  (with_reducible apply soft_of);(case hi=>rfl)
                  intro T wz S
                  simp only [cons_append,nil_append] at S
                  go_wp2_with first | ((with_reducible refine tot_done ?ht ?_);(case ht=>kernel_rfl))
                  exact ⟨rfl,S⟩)
                (case hs=>exact ⟨_,rfl,by kernel_rfl⟩)
               refine softs_nil ?_
               (with_reducible apply W_hard1 (i:=12));(case hn=>rfl);(case hr=>decide +kernel)
               intro wz S
               (with_reducible apply hard_of);(case hi=>rfl)
               simp only [cons_append,nil_append] at S
               go_wp2_with first | ((with_reducible apply wps_store_own pvcells S 10 (hj:=HP.out) (e':=(⟨az,cz,pl++[⟨⟨xat,k,xins,xthn,xsent⟩,xai,xci,xao,xco⟩],pst⟩:ProcV)) (q:=0) (u:=.slice az nz cz));(case hx=>rfl);(case hn=>omega);(case hi|hy|h1=>rfl);(case he=>have hq3:=hnz.out;simp [ProcV.cells,hq3]);(case hq=>decide);(case hT=>decide +kernel);clear S;intro wz S;simp only [set_cons_succ,set_cons_zero] at S) | ((with_reducible refine tot_done ?ht ?_);(case ht=>kernel_rfl))
               refine ⟨_,S,?_⟩
               clear S
               (with_reducible apply W_done);(case hn=>rfl);(case hr=>decide +kernel)
               intro wz S
               repeat (first | simp only at S | simp only [pick] at S | simp only [nth] at S | simp only [set_cons_succ] at S | simp only [set_cons_zero] at S | simp only [setIfInBounds_toArray] at S | simp only [setAll] at S | simp only [cons_append] at S | simp only [nil_append] at S | simp only [List.append_nil] at S)
              all_goals
               have hnl : nz = (pl ++ [(⟨⟨xat,k,xins,xthn,xsent⟩,xai,xci,xao,xco⟩ : BatV)]).length:=by have:=hnz.out;rw [List.length_append];exact this
               rw [hnl] at S
               clear hnl
               go_wp2_with first | ((with_reducible apply wps_loada (T:=92) (k:=1) S 0);(case hx|hi=>rfl);(case hk=>exact nle rfl);(case hT=>decide +kernel))
               go_roundw
               case rel=>
                refine ⟨j + 1,qs.set k ⟨az,cz,pl ++ [⟨⟨xat,k,xins,xthn,xsent⟩,xai,xci,xao,xco⟩],pst⟩,by omega,by go_num,Lib.hid (HPU2.out az cz),Lib.hid (HQP2.out az cz),by rw [List.length_set];exact hqt,Lib.hid (HQN2.out az cz),?_⟩
                have S2:=S.pick [11,8,10,2,0,1,3,4,5,6,7] rfl
                simp only [pick,nth] at S2
                have S3:=S2.starPush k HSP.out rfl
                rw [List.set_set] at S3
                rw [List.map_set]
                exact S3.pick [1,0,2,3,4,5,6,7,8,9] rfl
               case measure=>simp [intOf];omega
        · obtain rfl : j = d.length:=by omega
          rw [List.take_length] at HPU
          have HC : Hid (commitT t (l.map (·.b)) = (0,qs.map ProcV.e)):=Lib.hid (by
           unfold commitT
           rw [if_neg (fun g=>g HIN2.out),← HD.out,HPU.out])
          have hge2 : ¬ ((d.length : Int) < d.length):=by omega
          go_wp2_with first | ((with_reducible apply wps_store (u:=(.slice a1 ps.length c1)) S 9);(case hx|hy|hi|h1=>rfl);(case hn=>exact nle rfl);(case hT=>decide +kernel);clear S;intro wz S;simp only [set_cons_succ,set_cons_zero,setIfInBounds_toArray] at S)
          go_ret
          rw [HC.out]
          have S2:=S.pick [3,5,4,6,1,0,9] rfl
          simp only [pick,nth] at S2
          have S3:=(ins_append S2).pick [1,2,0,3,4,5] rfl
          simp only [pick,nth] at S3
          exact ⟨rfl,trace_close rfl HQP.out (out_append S3).swap2⟩
end Go.Proofs.YtcnfionnnpnplaaGreatDoor
