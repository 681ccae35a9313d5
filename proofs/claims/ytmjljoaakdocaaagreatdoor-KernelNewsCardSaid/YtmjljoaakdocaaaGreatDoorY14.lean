import Derived.Test.YtmjljoaakdocaaaGreatDoorY07
import Derived.Test.YtmjljoaakdocaaaGreatDoorY10
import Derived.Deep.Cut
/- A budget as a thing; the walks of its New, Fit; of the sums of counts. -/
set_option maxHeartbeats 16000000
set_option maxRecDepth 100000
namespace Go.Proofs.YtmjljoaakdocaaaGreatDoor
open Go Go.RowKit Reg Mem
open List (set_cons_succ set_cons_zero setIfInBounds_toArray cons_append nil_append)
structure CntE where
 a : Int
 b : Int
 c : Int
 d : Int
 e : Int
def cncell (x : CntE) : List Value:=[.int .i64 x.a,.int .i64 x.b,.int .i64 x.c,.int .i64 x.d,.int .i64 x.e]
theorem cncells : ∀ x,(cncell x).length = 5:=fun _=>rfl
theorem cnone : ∀ x,∀ u ∈ cncell x,u.oneCell' = true:=fun _=>by simp [cncell,Value.oneCell']
theorem elem_Cnt : Elem Tryz.prog 101 35 5 40:=⟨_,.agg #[.int .i64 0,.int .i64 0,.int .i64 0,.int .i64 0,.int .i64 0],Tryz.underlying101,rfl,by kernel_rfl,by kernel_rfl,by kernel_rfl,by kernel_rfl,by omega⟩
def CntE.sum (x : CntE) : Int:=x.a + x.b + x.c + x.d + x.e
def CntE.plus (x y : CntE) : CntE:=⟨x.a + y.a,x.b + y.b,x.c + y.c,x.d + y.d,x.e + y.e⟩
structure CntOk (m : Int) (x : CntE) : Prop where
 a0 : 0 ≤ x.a
 b0 : 0 ≤ x.b
 c0 : 0 ≤ x.c
 d0 : 0 ≤ x.d
 e0 : 0 ≤ x.e
 a1 : x.a ≤ m
 b1 : x.b ≤ m
 c1 : x.c ≤ m
 d1 : x.d ≤ m
 e1 : x.e ≤ m
def SumRel (b1 : Nat) (x : CntE) (w : World) (s i : Value) (wr : World) : Prop:=
 (i = .int .i64 0 ∧ s = .int .i64 0 ∨ i = .int .i64 1 ∧ s = .int .i64 x.a ∨ i = .int .i64 2 ∧ s = .int .i64 (x.a + x.b) ∨ i = .int .i64 3 ∧ s = .int .i64 (x.a + x.b + x.c) ∨ i = .int .i64 4 ∧ s = .int .i64 (x.a + x.b + x.c + x.d) ∨ i = .int .i64 5 ∧ s = .int .i64 (x.a + x.b + x.c + x.d + x.e)) ∧
   St (fun _=>False) w wr [Blk false b1 #[.int .i64 x.a,.int .i64 x.b,.int .i64 x.c,.int .i64 x.d,.int .i64 x.e] 35]
theorem csum_calls (x : CntE) (h : CntOk 1152921504606846976 x) (w : World) : Calls Tryz.prog 52 #[.agg #[.int .i64 x.a,.int .i64 x.b,.int .i64 x.c,.int .i64 x.d,.int .i64 x.e]] w fun e w'=>e = .returned (.int .i64 x.sum) ∧ Below w.heap.size w w':=by
 have S:=St.init (fun _=>False) w
 obtain ⟨h1,h2,h3,h4,h5,g1,g2,g3,g4,g5⟩:=h
 unfold CntE.sum
 go_enter Tryz.func52,Tryz.ntmps52
 go_wp2_with first | ((with_reducible apply wps_boxa (E:=35) S);(case hx=>rfl);clear S;intro b1 wz S) | ((with_reducible apply wps_loada (T:=35) (k:=5) S 0);(case hx|hi=>rfl);(case hk=>exact nle rfl);(case hT=>decide +kernel))
 go_loopw [3,7] (fun s i wr=>SumRel b1 x w s i wr) (fun _ i _=>5 - (intOf i).toNat)
 case atStart=>exact ⟨.inl ⟨rfl,rfl⟩,S⟩
 case round=>
  clear S
  obtain ⟨(⟨rfl,rfl⟩ | ⟨rfl,rfl⟩ | ⟨rfl,rfl⟩ | ⟨rfl,rfl⟩ | ⟨rfl,rfl⟩ | ⟨rfl,rfl⟩),S⟩:=hrel
  · skip
    go_wp2_with first | ((with_reducible apply wps_index (j:=0) (v:=.int .i64 x.a));(case hx|hy=>rfl);(case hT=>exact Tryz.underlying35);(case hj=>first | decide | omega);(case hv=>rfl);(case he=>decide +kernel))
    go_roundw
    case rel=>exact ⟨by simp,S⟩
    case measure=>first | (simp [intOf];done) | (simp [intOf];omega)
  · skip
    go_wp2_with first | ((with_reducible apply wps_index (j:=1) (v:=.int .i64 x.b));(case hx|hy=>rfl);(case hT=>exact Tryz.underlying35);(case hj=>first | decide | omega);(case hv=>rfl);(case he=>decide +kernel))
    go_roundw
    case rel=>exact ⟨by simp,S⟩
    case measure=>first | (simp [intOf];done) | (simp [intOf];omega)
  · skip
    go_wp2_with first | ((with_reducible apply wps_index (j:=2) (v:=.int .i64 x.c));(case hx|hy=>rfl);(case hT=>exact Tryz.underlying35);(case hj=>first | decide | omega);(case hv=>rfl);(case he=>decide +kernel))
    go_roundw
    case rel=>exact ⟨by simp,S⟩
    case measure=>first | (simp [intOf];done) | (simp [intOf];omega)
  · skip
    go_wp2_with first | ((with_reducible apply wps_index (j:=3) (v:=.int .i64 x.d));(case hx|hy=>rfl);(case hT=>exact Tryz.underlying35);(case hj=>first | decide | omega);(case hv=>rfl);(case he=>decide +kernel))
    go_roundw
    case rel=>exact ⟨by simp,S⟩
    case measure=>first | (simp [intOf];done) | (simp [intOf];omega)
  · skip
    go_wp2_with first | ((with_reducible apply wps_index (j:=4) (v:=.int .i64 x.e));(case hx|hy=>rfl);(case hT=>exact Tryz.underlying35);(case hj=>first | decide | omega);(case hv=>rfl);(case he=>decide +kernel))
    go_roundw
    case rel=>exact ⟨by simp,S⟩
    case measure=>first | (simp [intOf];done) | (simp [intOf];omega)
  · skip
    go_wp2_with first | ((with_reducible apply wps_loada (T:=35) (k:=5) S 0);(case hx|hi=>rfl);(case hk=>exact nle rfl);(case hT=>decide +kernel))
    go_ret
    exact ⟨rfl,S.below⟩
def plE (p q : CntE) : Nat → List Value
 | 0=>[.int .i64 p.a,.int .i64 p.b,.int .i64 p.c,.int .i64 p.d,.int .i64 p.e]
 | 1=>[.int .i64 (p.a + q.a),.int .i64 p.b,.int .i64 p.c,.int .i64 p.d,.int .i64 p.e]
 | 2=>[.int .i64 (p.a + q.a),.int .i64 (p.b + q.b),.int .i64 p.c,.int .i64 p.d,.int .i64 p.e]
 | 3=>[.int .i64 (p.a + q.a),.int .i64 (p.b + q.b),.int .i64 (p.c + q.c),.int .i64 p.d,.int .i64 p.e]
 | 4=>[.int .i64 (p.a + q.a),.int .i64 (p.b + q.b),.int .i64 (p.c + q.c),.int .i64 (p.d + q.d),.int .i64 p.e]
 | _=>[.int .i64 (p.a + q.a),.int .i64 (p.b + q.b),.int .i64 (p.c + q.c),.int .i64 (p.d + q.d),.int .i64 (p.e + q.e)]
def PlRel2 (b2 b4 b6 : Nat) (p q : CntE) (v : Value) (l : List CntE) (w : World) (i : Value) (wr : World) : Prop:=
 ∃ j : Nat,j ≤ 5 ∧ i = .int .i64 j ∧ St (fun _=>False) w wr [Blk false b6 #[.int .i64 q.a,.int .i64 q.b,.int .i64 q.c,.int .i64 q.d,.int .i64 q.e] 35,Blk false b4 #[.int .i64 0,.int .i64 0,.int .i64 0,.int .i64 0,.int .i64 0] 35,Blk false b2 (plE p q j).toArray 35,Sl true cncell 5 v l]
def PlRel (b2 b4 : Nat) (x : CntE) (v : Value) (l : List CntE) (w : World) (i : Value) (wr : World) : Prop:=
 ∃ (k : Nat) (p : CntE),k ≤ l.length ∧ i = .int .i64 k ∧ Hid (p = (l.take k).foldl CntE.plus x) ∧ CntOk ((k + 1) * 1099511627776) p ∧ St (fun _=>False) w wr [Blk false b4 #[.int .i64 0,.int .i64 0,.int .i64 0,.int .i64 0,.int .i64 0] 35,Blk false b2 #[.int .i64 p.a,.int .i64 p.b,.int .i64 p.c,.int .i64 p.d,.int .i64 p.e] 35,Sl true cncell 5 v l]
theorem plus_snoc {l : List CntE} {k : Nat} {q : CntE} (h : l[k]? = some q) (x : CntE) : (l.take (k + 1)).foldl CntE.plus x = ((l.take k).foldl CntE.plus x).plus q:=by
 rw [List.take_add_one,h,Option.toList_some,List.foldl_append];rfl
theorem cplus_calls (x : CntE) (v : Value) (l : List CntE) (hx : CntOk 1099511627776 x) (hl : ∀ q ∈ l,CntOk 1099511627776 q) (hn : l.length ≤ 100) (w : World) (F : Nat → Prop) (h : (Sl true cncell 5 v l).at_ w F) :
 Calls Tryz.prog 36 #[.agg #[.int .i64 x.a,.int .i64 x.b,.int .i64 x.c,.int .i64 x.d,.int .i64 x.e],v] w fun e w'=>e = .returned (let y:=l.foldl CntE.plus x;.agg #[.int .i64 y.a,.int .i64 y.b,.int .i64 y.c,.int .i64 y.d,.int .i64 y.e]) ∧ Below w.heap.size w w':=by
 have S : St (fun _=>False) w w [Sl true cncell 5 v l]:=(St.init _ w).share rfl rfl h
 clear h
 obtain ⟨ad,c,rfl,_⟩:=(S.sl 0 rfl).elim fun _ h=>h.form
 have HXO:=Lib.hid hx
 have HL:=Lib.hid hl
 clear hx hl
 go_enter Tryz.func36,Tryz.ntmps36
 go_wp2_with first | ((with_reducible apply wps_boxa (E:=35) S);(case hx=>rfl);clear S;intro b2 wz S) | ((with_reducible apply wps_alloca (E:=35) S);(case hz=>exact Tryz.zeroValue35);clear S;intro b4 wz S)
 go_loopw [11] (fun i wr=>PlRel b2 b4 x (.slice ad l.length c) l w i wr) (fun i _=>l.length - (intOf i).toNat)
 case atStart=>exact ⟨0,x,Nat.zero_le _,rfl,Lib.hid rfl,by simpa using HXO.out,S⟩
 case round=>
  clear S
  obtain ⟨k,p,hk,rfl,HP,hp,S⟩:=hrel
  by_cases hlt : k < l.length
  · obtain ⟨q,hq⟩ : ∃ q,l[k]? = some q:=⟨_,List.getElem?_eq_getElem hlt⟩
    obtain ⟨R,o,rfl⟩ : ∃ R o,ad = some ⟨R,o,none⟩:=(S.sl 2 rfl).elim fun F h=>h.head (by omega)
    have hlt2 : (k : Int) < l.length:=by omega
    have HQ:=Lib.hid hq
    have HP2:=Lib.hid (plus_snoc hq x)
    rw [← HP.out] at HP2
    obtain ⟨p1,p2,p3,p4,p5,r1,r2,r3,r4,r5⟩:=hp
    obtain ⟨q1,q2,q3,q4,q5,s1,s2,s3,s4,s5⟩:=HL.out q (List.mem_of_getElem? hq)
    have HOK : Hid (CntOk ((((k + 1 : Nat) : Int) + 1) * 1099511627776) (p.plus q)):=Lib.hid (by
     constructor <;> simp only [CntE.plus] <;> omega)
    have u1 : p.a ≤ 112150186033152:=by omega
    have u2 : p.b ≤ 112150186033152:=by omega
    have u3 : p.c ≤ 112150186033152:=by omega
    have u4 : p.d ≤ 112150186033152:=by omega
    have u5 : p.e ≤ 112150186033152:=by omega
    clear hq HP r1 r2 r3 r4 r5
    go_wp2_with first | ((with_reducible apply wps_loada_el S 2 (hj:=HQ.out) (q:=0) (vs:=[.int .i64 q.a,.int .i64 q.b,.int .i64 q.c,.int .i64 q.d,.int .i64 q.e]) (m:=5));(case hx|hi=>rfl);(case hn=>omega);(case hm|hv=>rfl);(case hT=>decide +kernel)) | ((with_reducible apply wps_alloca (E:=35) S);(case hz=>exact Tryz.zeroValue35);clear S;intro b6 wz S) | ((with_reducible apply wps_storea (T:=35) S 0 (vs:=[.int .i64 q.a,.int .i64 q.b,.int .i64 q.c,.int .i64 q.d,.int .i64 q.e]) (m:=5));(case hx|hy|hi|hm|h1=>rfl);(case hn=>exact nle rfl);(case hT=>decide +kernel);clear S;intro wz S;simp only [set_cons_zero,set_cons_succ,setAll,setIfInBounds_toArray] at S) | ((with_reducible apply wps_loada (T:=35) (k:=5) S 0);(case hx|hi=>rfl);(case hk=>exact nle rfl);(case hT=>decide +kernel))
    go_loopw [16] (fun i wr=>PlRel2 b2 b4 b6 p q (.slice (some ⟨R,o,none⟩) l.length c) l w i wr) (fun i _=>5 - (intOf i).toNat)
    case atStart=>exact ⟨0,by omega,rfl,S⟩
    case round=>
     clear S
     obtain ⟨j,hj,rfl,S⟩:=hrel
     obtain rfl | rfl | rfl | rfl | rfl | rfl : j = 0 ∨ j = 1 ∨ j = 2 ∨ j = 3 ∨ j = 4 ∨ j = 5:=by omega
     · simp only [plE] at S
       go_wp2_with first | ((with_reducible apply wps_index (j:=0) (v:=.int .i64 q.a));(case hx|hy=>rfl);(case hT=>exact Tryz.underlying35);(case hj=>first | decide | omega);(case hv=>rfl);(case he=>decide +kernel)) | ((with_reducible apply wps_load S 2);(case hx|hi|hu=>rfl);(case hT=>decide +kernel)) | ((with_reducible apply wps_store (u:=(.int .i64 (p.a + q.a))) S 2);(case hx|hy|hi|h1=>rfl);(case hn=>exact nle rfl);(case hT=>decide +kernel);clear S;intro wz S;simp only [set_cons_succ,set_cons_zero,setIfInBounds_toArray] at S)
       go_roundw
       case rel=>exact ⟨1,by omega,by go_num,S⟩
       case measure=>first | (simp [intOf];done) | (simp [intOf];omega)
     · simp only [plE] at S
       go_wp2_with first | ((with_reducible apply wps_index (j:=1) (v:=.int .i64 q.b));(case hx|hy=>rfl);(case hT=>exact Tryz.underlying35);(case hj=>first | decide | omega);(case hv=>rfl);(case he=>decide +kernel)) | ((with_reducible apply wps_load S 2);(case hx|hi|hu=>rfl);(case hT=>decide +kernel)) | ((with_reducible apply wps_store (u:=(.int .i64 (p.b + q.b))) S 2);(case hx|hy|hi|h1=>rfl);(case hn=>exact nle rfl);(case hT=>decide +kernel);clear S;intro wz S;simp only [set_cons_succ,set_cons_zero,setIfInBounds_toArray] at S)
       go_roundw
       case rel=>exact ⟨2,by omega,by go_num,S⟩
       case measure=>first | (simp [intOf];done) | (simp [intOf];omega)
     · simp only [plE] at S
       go_wp2_with first | ((with_reducible apply wps_index (j:=2) (v:=.int .i64 q.c));(case hx|hy=>rfl);(case hT=>exact Tryz.underlying35);(case hj=>first | decide | omega);(case hv=>rfl);(case he=>decide +kernel)) | ((with_reducible apply wps_load S 2);(case hx|hi|hu=>rfl);(case hT=>decide +kernel)) | ((with_reducible apply wps_store (u:=(.int .i64 (p.c + q.c))) S 2);(case hx|hy|hi|h1=>rfl);(case hn=>exact nle rfl);(case hT=>decide +kernel);clear S;intro wz S;simp only [set_cons_succ,set_cons_zero,setIfInBounds_toArray] at S)
       go_roundw
       case rel=>exact ⟨3,by omega,by go_num,S⟩
       case measure=>first | (simp [intOf];done) | (simp [intOf];omega)
     · simp only [plE] at S
       go_wp2_with first | ((with_reducible apply wps_index (j:=3) (v:=.int .i64 q.d));(case hx|hy=>rfl);(case hT=>exact Tryz.underlying35);(case hj=>first | decide | omega);(case hv=>rfl);(case he=>decide +kernel)) | ((with_reducible apply wps_load S 2);(case hx|hi|hu=>rfl);(case hT=>decide +kernel)) | ((with_reducible apply wps_store (u:=(.int .i64 (p.d + q.d))) S 2);(case hx|hy|hi|h1=>rfl);(case hn=>exact nle rfl);(case hT=>decide +kernel);clear S;intro wz S;simp only [set_cons_succ,set_cons_zero,setIfInBounds_toArray] at S)
       go_roundw
       case rel=>exact ⟨4,by omega,by go_num,S⟩
       case measure=>first | (simp [intOf];done) | (simp [intOf];omega)
     · simp only [plE] at S
       go_wp2_with first | ((with_reducible apply wps_index (j:=4) (v:=.int .i64 q.e));(case hx|hy=>rfl);(case hT=>exact Tryz.underlying35);(case hj=>first | decide | omega);(case hv=>rfl);(case he=>decide +kernel)) | ((with_reducible apply wps_load S 2);(case hx|hi|hu=>rfl);(case hT=>decide +kernel)) | ((with_reducible apply wps_store (u:=(.int .i64 (p.e + q.e))) S 2);(case hx|hy|hi|h1=>rfl);(case hn=>exact nle rfl);(case hT=>decide +kernel);clear S;intro wz S;simp only [set_cons_succ,set_cons_zero,setIfInBounds_toArray] at S)
       go_roundw
       case rel=>exact ⟨5,by omega,by go_num,S⟩
       case measure=>first | (simp [intOf];done) | (simp [intOf];omega)
     · simp only [plE] at S
       go_wp2_with first | ((with_reducible apply wps_loada (T:=35) (k:=5) S 0);(case hx|hi=>rfl);(case hk=>exact nle rfl);(case hT=>decide +kernel))
       go_roundw
       case rel=>exact ⟨k + 1,p.plus q,by omega,by go_num,Lib.hid HP2.out.symm,HOK.out,S.pick [1,2,3] rfl⟩
       case measure=>first | (simp [intOf];done) | (simp [intOf];omega)
  · obtain rfl : k = l.length:=by omega
    rw [List.take_length] at HP
    go_wp2_with first | ((with_reducible apply wps_loada (T:=35) (k:=5) S 1);(case hx|hi=>rfl);(case hk=>exact nle rfl);(case hT=>decide +kernel)) | ((with_reducible apply wps_storea (T:=35) S 0 (vs:=[.int .i64 p.a,.int .i64 p.b,.int .i64 p.c,.int .i64 p.d,.int .i64 p.e]) (m:=5));(case hx|hy|hi|hm|h1=>rfl);(case hn=>exact nle rfl);(case hT=>decide +kernel);clear S;intro wz S;simp only [set_cons_zero,set_cons_succ,setAll,setIfInBounds_toArray] at S)
    (try simp only [Exit.inBlock,Exit.then]);refine bodyPost_ret (results1 rfl (S.resA 0 rfl rfl (by kernel_rfl))) rfl ?_
    exact ⟨by rw [← HP.out],S.below⟩
structure BuE where
 room : Int
 res : Int
 worst : CntE
def budgetA (X : Nat) (b : BuE) : Asn:=Blk false X #[.int .i64 b.room,.int .i64 b.res,.int .i64 b.worst.a,.int .i64 b.worst.b,.int .i64 b.worst.c,.int .i64 b.worst.d,.int .i64 b.worst.e] 144
def cntz : CntE:=⟨0,0,0,0,0⟩
def BuNewPost (room res : Int) (w : World) (e : Ending) (w' : World) : Prop:=
 ¬ (1 ≤ room ∧ room ≤ 4096 ∧ 0 ≤ res ∧ res ≤ room) ∧ e = .returned (.tuple #[.pointer none,.int .i64 1]) ∧ Below w.heap.size w w' ∨
 (1 ≤ room ∧ room ≤ 4096 ∧ 0 ≤ res ∧ res ≤ room) ∧ ∃ X,e = .returned (.tuple #[.pointer (some ⟨X,0,none⟩),.int .i64 0]) ∧ St (fun _=>False) w w' [budgetA X ⟨room,res,cntz⟩]
theorem bunew_calls (room res : Int) (w : World) : Calls Tryz.prog 26 #[.int .i64 room,.int .i64 res] w (BuNewPost room res w):=by
 have S:=St.init (fun _=>False) w
 by_cases h1 : room < 1
 · have f1 : decide (room < 1) = true:=decide_eq_true h1
   go_enter Tryz.func26,Tryz.ntmps26
   go_wp2_with first | ((with_reducible apply wps_box1 (v:=.func _ _ _) S);(case hx|h1=>rfl);clear S;intro bz wz S)
   (try simp only [Exit.inBlock,Exit.then]);refine bodyPost_ret (results2 rfl (res_tmp rfl) (res_tmp rfl)) rfl ?_
   exact .inl ⟨by omega,rfl,S.below⟩
 · have f1 : decide (room < 1) = false:=decide_eq_false h1
   by_cases h2 : room > 4096
   · have f2 : decide (room > 4096) = true:=decide_eq_true h2
     go_enter Tryz.func26,Tryz.ntmps26
     go_wp2_with first | ((with_reducible apply wps_box1 (v:=.func _ _ _) S);(case hx|h1=>rfl);clear S;intro bz wz S)
     (try simp only [Exit.inBlock,Exit.then]);refine bodyPost_ret (results2 rfl (res_tmp rfl) (res_tmp rfl)) rfl ?_
     exact .inl ⟨by omega,rfl,S.below⟩
   · have f2 : decide (room > 4096) = false:=decide_eq_false h2
     by_cases h3 : res < 0
     · have f3 : decide (res < 0) = true:=decide_eq_true h3
       go_enter Tryz.func26,Tryz.ntmps26
       go_wp2_with first | ((with_reducible apply wps_box1 (v:=.func _ _ _) S);(case hx|h1=>rfl);clear S;intro bz wz S)
       (try simp only [Exit.inBlock,Exit.then]);refine bodyPost_ret (results2 rfl (res_tmp rfl) (res_tmp rfl)) rfl ?_
       exact .inl ⟨by omega,rfl,S.below⟩
     · have f3 : decide (res < 0) = false:=decide_eq_false h3
       by_cases h4 : res > room
       · have f4 : decide (res > room) = true:=decide_eq_true h4
         go_enter Tryz.func26,Tryz.ntmps26
         go_wp2_with first | ((with_reducible apply wps_box1 (v:=.func _ _ _) S);(case hx|h1=>rfl);clear S;intro bz wz S)
         (try simp only [Exit.inBlock,Exit.then]);refine bodyPost_ret (results2 rfl (res_tmp rfl) (res_tmp rfl)) rfl ?_
         exact .inl ⟨by omega,rfl,S.below⟩
       · have f4 : decide (res > room) = false:=decide_eq_false h4
         go_enter Tryz.func26,Tryz.ntmps26
         go_wp2_with first | ((with_reducible apply wps_boxa (E:=144) S);(case hx=>rfl);clear S;intro bX wz S)
         (try simp only [Exit.inBlock,Exit.then]);refine bodyPost_ret (results2 rfl (res_tmp rfl) (res_tmp rfl)) rfl ?_
         exact .inr ⟨⟨by omega,by omega,by omega,by omega⟩,bX,rfl,S⟩
def mayB (n : Int) : Bool:=decide (0 ≤ n ∧ n ≤ 1073741824)
theorem bumay_calls (n : Int) (w : World) : Calls Tryz.prog 51 #[.int .i64 n] w fun e w'=>e = .returned (.bool (mayB n)) ∧ Below w.heap.size w w':=by
 have S:=St.init (fun _=>False) w
 by_cases h1 : n ≥ 0
 · have f1 : decide (n ≥ 0) = true:=decide_eq_true h1
   go_enter Tryz.func51,Tryz.ntmps51
   go_wp2_with first | ((with_reducible refine tot_done ?ht ?_);(case ht=>kernel_rfl))
   go_ret
   exact ⟨ret_bool (by unfold mayB;rw [Bool.eq_iff_iff];simp;omega),S.below⟩
 · have f1 : decide (n ≥ 0) = false:=decide_eq_false h1
   go_enter Tryz.func51,Tryz.ntmps51
   go_wp2_with first | ((with_reducible refine tot_done ?ht ?_);(case ht=>kernel_rfl))
   go_ret
   exact ⟨ret_bool (by unfold mayB;rw [Bool.eq_iff_iff];simp;omega),S.below⟩
def mx (a b : Int) : Int:=if a < b then b else a
section
variable {P : Program} {ops : Array Oper} {rest : List Oper} {a : Act} {Q : Exit → Act → World → Prop} {d : Option Tmp} {tt : TypeId} {p : String} {af : Array Edge} {gd : Option (Nat × Bool)} {x y : Operand} {w : World}
theorem wps_max {k k' : IntKind} {u v : Int} {ats : Array TypeId} (hx : a.eval x = .int k u) (hy : a.eval y = .int k' v)
 (next : wpList P ops Q rest (a.put d (.int k (mx u v))) w) (hgd : gOk gd ops a = true:=by with_unfolding_all rfl) :
 wpList P ops Q ({ dst:=d,op:=.call { callee:=.builtin .max,args:=#[x,y],argTypes:=ats },type:=tt,pos:=p,after:=af,guard:=gd } :: rest) a w:=
 wpList_ok hgd fun K hK=>by
  have hr:=run_max_int2 (P:=P) (w:=w) ats tt k k' u v
  unfold Oper.wp execOp
  simp only [resolve,invoke,builtin,Sem.run_bind,Sem.run_pure,Result.andThen_ok,List.map_toArray,List.map_cons,List.map_nil,hx,hy,hr]
  exact hK _ _ next
end
def CntE.max (x y : CntE) : CntE:=⟨mx x.a y.a,mx x.b y.b,mx x.c y.c,mx x.d y.d,mx x.e y.e⟩
def BuE.roomE (b : BuE) (vital : Bool) : Int:=if vital then b.room else b.room - b.res
def fitE (b : BuE) (c : CntE) (more : Int) (vital : Bool) : Bool:=decide (c.sum + more ≤ b.roomE vital)
def BuE.fit (b : BuE) (c : CntE) : BuE:=⟨b.room,b.res,b.worst.max c⟩
def maE (p q : CntE) : Nat → List Value
 | 0=>[.int .i64 p.a,.int .i64 p.b,.int .i64 p.c,.int .i64 p.d,.int .i64 p.e]
 | 1=>[.int .i64 (mx p.a q.a),.int .i64 p.b,.int .i64 p.c,.int .i64 p.d,.int .i64 p.e]
 | 2=>[.int .i64 (mx p.a q.a),.int .i64 (mx p.b q.b),.int .i64 p.c,.int .i64 p.d,.int .i64 p.e]
 | 3=>[.int .i64 (mx p.a q.a),.int .i64 (mx p.b q.b),.int .i64 (mx p.c q.c),.int .i64 p.d,.int .i64 p.e]
 | 4=>[.int .i64 (mx p.a q.a),.int .i64 (mx p.b q.b),.int .i64 (mx p.c q.c),.int .i64 (mx p.d q.d),.int .i64 p.e]
 | _=>[.int .i64 (mx p.a q.a),.int .i64 (mx p.b q.b),.int .i64 (mx p.c q.c),.int .i64 (mx p.d q.d),.int .i64 (mx p.e q.e)]
def FitRel1 (b5 X : Nat) (b : BuE) (c : CntE) (F : Nat → Prop) (w : World) (i : Value) (wr : World) : Prop:=
 ∃ j : Nat,j ≤ 5 ∧ i = .int .i64 j ∧ St F w wr [Blk false b5 #[.int .i64 c.a,.int .i64 c.b,.int .i64 c.c,.int .i64 c.d,.int .i64 c.e] 35,budgetA X b]
def FitRel2 (b5 X : Nat) (b : BuE) (c : CntE) (F : Nat → Prop) (w : World) (i : Value) (wr : World) : Prop:=
 ∃ j : Nat,j ≤ 5 ∧ i = .int .i64 j ∧ St F w wr [Blk false b5 #[.int .i64 c.a,.int .i64 c.b,.int .i64 c.c,.int .i64 c.d,.int .i64 c.e] 35,Blk false X (.int .i64 b.room :: .int .i64 b.res :: maE b.worst c j).toArray 144]
def FitPost (X : Nat) (b : BuE) (c : CntE) (more : Int) (vital : Bool) (F : Nat → Prop) (w : World) (e : Ending) (w' : World) : Prop:=
 fitE b c more vital = false ∧ e = .returned (.int .i64 20) ∧ St F w w' [budgetA X b] ∨
 fitE b c more vital = true ∧ e = .returned (.int .i64 0) ∧ St F w w' [budgetA X (b.fit c)]
theorem bufit_calls (X : Nat) (b : BuE) (c : CntE) (more : Int) (vital : Bool) (hc : CntOk 1073741824 c) (hm : mayB more = true) (hr : 1 ≤ b.room) (hr2 : b.room ≤ 4096) (hr3 : 0 ≤ b.res) (hr4 : b.res ≤ b.room) (w : World) (F : Nat → Prop) (S0 : St F w w [budgetA X b]) :
 Calls Tryz.prog 29 #[.pointer (some ⟨X,0,none⟩),.agg #[.int .i64 c.a,.int .i64 c.b,.int .i64 c.c,.int .i64 c.d,.int .i64 c.e],.int .i64 more,.bool vital] w (FitPost X b c more vital F w):=by
 have S:=S0
 clear S0
 have HSU:=Lib.hid fun w=>csum_calls c ⟨hc.a0,hc.b0,hc.c0,hc.d0,hc.e0,by have:=hc.a1;omega,by have:=hc.b1;omega,by have:=hc.c1;omega,by have:=hc.d1;omega,by have:=hc.e1;omega⟩ w
 have HMa:=Lib.hid fun w=>bumay_calls c.a w
 rw [show mayB c.a = true from decide_eq_true ⟨hc.a0,hc.a1⟩] at HMa
 have HMb:=Lib.hid fun w=>bumay_calls c.b w
 rw [show mayB c.b = true from decide_eq_true ⟨hc.b0,hc.b1⟩] at HMb
 have HMc:=Lib.hid fun w=>bumay_calls c.c w
 rw [show mayB c.c = true from decide_eq_true ⟨hc.c0,hc.c1⟩] at HMc
 have HMd:=Lib.hid fun w=>bumay_calls c.d w
 rw [show mayB c.d = true from decide_eq_true ⟨hc.d0,hc.d1⟩] at HMd
 have HMe:=Lib.hid fun w=>bumay_calls c.e w
 rw [show mayB c.e = true from decide_eq_true ⟨hc.e0,hc.e1⟩] at HMe
 have HMM:=Lib.hid fun w=>bumay_calls more w
 rw [hm] at HMM
 have hsu : c.sum ≤ 5368709120:=by have:=hc.a1;have:=hc.b1;have:=hc.c1;have:=hc.d1;have:=hc.e1;unfold CntE.sum;omega
 have hsu0 : 0 ≤ c.sum:=by have:=hc.a0;have:=hc.b0;have:=hc.c0;have:=hc.d0;have:=hc.e0;unfold CntE.sum;omega
 have hmo:=of_decide_eq_true hm
 obtain ⟨hmo1,hmo2⟩:=hmo
 have HFIT : ∃ s,c.sum = s:=⟨_,rfl⟩
 clear hm hc
 unfold budgetA at S
 go_enter Tryz.func29,Tryz.ntmps29
 go_wp2_with first | ((with_reducible apply wps_boxa (E:=35) S);(case hx=>rfl);clear S;intro b5 wz S) | ((with_reducible apply wps_loada (T:=35) (k:=5) S 0);(case hx|hi=>rfl);(case hk=>exact nle rfl);(case hT=>decide +kernel))
 go_loopw [17] (fun i wr=>FitRel1 b5 X b c F w i wr) (fun i _=>5 - (intOf i).toNat)
 case atStart=>exact ⟨0,by omega,rfl,S⟩
 case round=>
  clear S
  obtain ⟨j,hj,rfl,S⟩:=hrel
  unfold budgetA at S
  obtain rfl | rfl | rfl | rfl | rfl | rfl : j = 0 ∨ j = 1 ∨ j = 2 ∨ j = 3 ∨ j = 4 ∨ j = 5:=by omega
  · skip
    go_wp2_with first | ((with_reducible apply wps_index (j:=0) (v:=.int .i64 c.a));(case hx|hy=>rfl);(case hT=>exact Tryz.underlying35);(case hj=>first | decide | omega);(case hv=>rfl);(case he=>decide +kernel)) | (go_at_call 51;refine Calls.mono (HMa.out _) ?_;rintro e wz ⟨rfl,hE⟩;replace S:=S.ext (Keep.of_below hE);clear hE)
    go_roundw
    case rel=>exact ⟨1,by omega,by go_num,S⟩
    case measure=>first | (simp [intOf];done) | (simp [intOf];omega)
  · skip
    go_wp2_with first | ((with_reducible apply wps_index (j:=1) (v:=.int .i64 c.b));(case hx|hy=>rfl);(case hT=>exact Tryz.underlying35);(case hj=>first | decide | omega);(case hv=>rfl);(case he=>decide +kernel)) | (go_at_call 51;refine Calls.mono (HMb.out _) ?_;rintro e wz ⟨rfl,hE⟩;replace S:=S.ext (Keep.of_below hE);clear hE)
    go_roundw
    case rel=>exact ⟨2,by omega,by go_num,S⟩
    case measure=>first | (simp [intOf];done) | (simp [intOf];omega)
  · skip
    go_wp2_with first | ((with_reducible apply wps_index (j:=2) (v:=.int .i64 c.c));(case hx|hy=>rfl);(case hT=>exact Tryz.underlying35);(case hj=>first | decide | omega);(case hv=>rfl);(case he=>decide +kernel)) | (go_at_call 51;refine Calls.mono (HMc.out _) ?_;rintro e wz ⟨rfl,hE⟩;replace S:=S.ext (Keep.of_below hE);clear hE)
    go_roundw
    case rel=>exact ⟨3,by omega,by go_num,S⟩
    case measure=>first | (simp [intOf];done) | (simp [intOf];omega)
  · skip
    go_wp2_with first | ((with_reducible apply wps_index (j:=3) (v:=.int .i64 c.d));(case hx|hy=>rfl);(case hT=>exact Tryz.underlying35);(case hj=>first | decide | omega);(case hv=>rfl);(case he=>decide +kernel)) | (go_at_call 51;refine Calls.mono (HMd.out _) ?_;rintro e wz ⟨rfl,hE⟩;replace S:=S.ext (Keep.of_below hE);clear hE)
    go_roundw
    case rel=>exact ⟨4,by omega,by go_num,S⟩
    case measure=>first | (simp [intOf];done) | (simp [intOf];omega)
  · skip
    go_wp2_with first | ((with_reducible apply wps_index (j:=4) (v:=.int .i64 c.e));(case hx|hy=>rfl);(case hT=>exact Tryz.underlying35);(case hj=>first | decide | omega);(case hv=>rfl);(case he=>decide +kernel)) | (go_at_call 51;refine Calls.mono (HMe.out _) ?_;rintro e wz ⟨rfl,hE⟩;replace S:=S.ext (Keep.of_below hE);clear hE)
    go_roundw
    case rel=>exact ⟨5,by omega,by go_num,S⟩
    case measure=>first | (simp [intOf];done) | (simp [intOf];omega)
  · have HFE : Hid (∀ r,b.roomE vital = r → fitE b c more vital = decide (c.sum + more ≤ r)):=Lib.hid fun r h=>by unfold fitE;rw [h]
    cases vital with
    | true=>
      unfold BuE.roomE at HFE
      simp only [if_true] at HFE
      by_cases hf : c.sum + more > b.room
      · have f1 : decide (c.sum + more > b.room) = true:=decide_eq_true hf
        have HF : Hid (fitE b c more true = false):=Lib.hid (by rw [HFE.out _ rfl];exact decide_eq_false (by omega))
        clear hf HFE
        generalize c.sum = su at *
        go_wp2_with first | (go_at_call 51;refine Calls.mono (HMM.out _) ?_;rintro e wz ⟨rfl,hE⟩;replace S:=S.ext (Keep.of_below hE);clear hE) | ((with_reducible apply wps_load S 1);(case hx|hi|hu=>rfl);(case hT=>decide +kernel)) | ((with_reducible apply wps_loada (T:=35) (k:=5) S 0);(case hx|hi=>rfl);(case hk=>exact nle rfl);(case hT=>decide +kernel)) | (go_at_call 52;refine Calls.mono (HSU.out _) ?_;rintro e wz ⟨rfl,hE⟩;replace S:=S.ext (Keep.of_below hE);clear hE)
        go_ret
        exact .inl ⟨HF.out,rfl,S.pick [1] rfl⟩
      · have f1 : decide (c.sum + more > b.room) = false:=decide_eq_false hf
        have HF : Hid (fitE b c more true = true):=Lib.hid (by rw [HFE.out _ rfl];exact decide_eq_true (by omega))
        clear hf HFE
        generalize c.sum = su at *
        go_wp2_with first | (go_at_call 51;refine Calls.mono (HMM.out _) ?_;rintro e wz ⟨rfl,hE⟩;replace S:=S.ext (Keep.of_below hE);clear hE) | ((with_reducible apply wps_load S 1);(case hx|hi|hu=>rfl);(case hT=>decide +kernel)) | ((with_reducible apply wps_loada (T:=35) (k:=5) S 0);(case hx|hi=>rfl);(case hk=>exact nle rfl);(case hT=>decide +kernel)) | (go_at_call 52;refine Calls.mono (HSU.out _) ?_;rintro e wz ⟨rfl,hE⟩;replace S:=S.ext (Keep.of_below hE);clear hE)
        go_loopw [46] (fun i wr=>FitRel2 b5 X b c F w i wr) (fun i _=>5 - (intOf i).toNat)
        case atStart=>exact ⟨0,by omega,rfl,S⟩
        case round=>
         clear S
         obtain ⟨j,hj,rfl,S⟩:=hrel
         obtain rfl | rfl | rfl | rfl | rfl | rfl : j = 0 ∨ j = 1 ∨ j = 2 ∨ j = 3 ∨ j = 4 ∨ j = 5:=by omega
         · simp only [maE] at S
           go_wp2_with first | ((with_reducible apply wps_index (j:=0) (v:=.int .i64 c.a));(case hx|hy=>rfl);(case hT=>exact Tryz.underlying35);(case hj=>first | decide | omega);(case hv=>rfl);(case he=>decide +kernel)) | ((with_reducible apply wps_load S 1);(case hx|hi|hu=>rfl);(case hT=>decide +kernel)) | ((with_reducible apply wps_max (u:=b.worst.a) (v:=c.a));(case hx|hy=>rfl)) | ((with_reducible apply wps_store (u:=(.int .i64 (mx b.worst.a c.a))) S 1);(case hx|hy|hi|h1=>rfl);(case hn=>exact nle rfl);(case hT=>decide +kernel);clear S;intro wz S;simp only [set_cons_succ,set_cons_zero,setIfInBounds_toArray] at S) | ((with_reducible refine tot_done ?ht ?_);(case ht=>kernel_rfl)) | ((with_reducible apply wps_text S);(case hm=>kernel_rfl);(case hB=>decide +kernel);clear S;intro wz S)
           go_roundw
           case rel=>exact ⟨1,by omega,by go_num,S⟩
           case measure=>first | (simp [intOf];done) | (simp [intOf];omega)
         · simp only [maE] at S
           go_wp2_with first | ((with_reducible apply wps_index (j:=1) (v:=.int .i64 c.b));(case hx|hy=>rfl);(case hT=>exact Tryz.underlying35);(case hj=>first | decide | omega);(case hv=>rfl);(case he=>decide +kernel)) | ((with_reducible apply wps_load S 1);(case hx|hi|hu=>rfl);(case hT=>decide +kernel)) | ((with_reducible apply wps_max (u:=b.worst.b) (v:=c.b));(case hx|hy=>rfl)) | ((with_reducible apply wps_store (u:=(.int .i64 (mx b.worst.b c.b))) S 1);(case hx|hy|hi|h1=>rfl);(case hn=>exact nle rfl);(case hT=>decide +kernel);clear S;intro wz S;simp only [set_cons_succ,set_cons_zero,setIfInBounds_toArray] at S) | ((with_reducible refine tot_done ?ht ?_);(case ht=>kernel_rfl)) | ((with_reducible apply wps_text S);(case hm=>kernel_rfl);(case hB=>decide +kernel);clear S;intro wz S)
           go_roundw
           case rel=>exact ⟨2,by omega,by go_num,S⟩
           case measure=>first | (simp [intOf];done) | (simp [intOf];omega)
         · simp only [maE] at S
           go_wp2_with first | ((with_reducible apply wps_index (j:=2) (v:=.int .i64 c.c));(case hx|hy=>rfl);(case hT=>exact Tryz.underlying35);(case hj=>first | decide | omega);(case hv=>rfl);(case he=>decide +kernel)) | ((with_reducible apply wps_load S 1);(case hx|hi|hu=>rfl);(case hT=>decide +kernel)) | ((with_reducible apply wps_max (u:=b.worst.c) (v:=c.c));(case hx|hy=>rfl)) | ((with_reducible apply wps_store (u:=(.int .i64 (mx b.worst.c c.c))) S 1);(case hx|hy|hi|h1=>rfl);(case hn=>exact nle rfl);(case hT=>decide +kernel);clear S;intro wz S;simp only [set_cons_succ,set_cons_zero,setIfInBounds_toArray] at S) | ((with_reducible refine tot_done ?ht ?_);(case ht=>kernel_rfl)) | ((with_reducible apply wps_text S);(case hm=>kernel_rfl);(case hB=>decide +kernel);clear S;intro wz S)
           go_roundw
           case rel=>exact ⟨3,by omega,by go_num,S⟩
           case measure=>first | (simp [intOf];done) | (simp [intOf];omega)
         · simp only [maE] at S
           go_wp2_with first | ((with_reducible apply wps_index (j:=3) (v:=.int .i64 c.d));(case hx|hy=>rfl);(case hT=>exact Tryz.underlying35);(case hj=>first | decide | omega);(case hv=>rfl);(case he=>decide +kernel)) | ((with_reducible apply wps_load S 1);(case hx|hi|hu=>rfl);(case hT=>decide +kernel)) | ((with_reducible apply wps_max (u:=b.worst.d) (v:=c.d));(case hx|hy=>rfl)) | ((with_reducible apply wps_store (u:=(.int .i64 (mx b.worst.d c.d))) S 1);(case hx|hy|hi|h1=>rfl);(case hn=>exact nle rfl);(case hT=>decide +kernel);clear S;intro wz S;simp only [set_cons_succ,set_cons_zero,setIfInBounds_toArray] at S) | ((with_reducible refine tot_done ?ht ?_);(case ht=>kernel_rfl)) | ((with_reducible apply wps_text S);(case hm=>kernel_rfl);(case hB=>decide +kernel);clear S;intro wz S)
           go_roundw
           case rel=>exact ⟨4,by omega,by go_num,S⟩
           case measure=>first | (simp [intOf];done) | (simp [intOf];omega)
         · simp only [maE] at S
           go_wp2_with first | ((with_reducible apply wps_index (j:=4) (v:=.int .i64 c.e));(case hx|hy=>rfl);(case hT=>exact Tryz.underlying35);(case hj=>first | decide | omega);(case hv=>rfl);(case he=>decide +kernel)) | ((with_reducible apply wps_load S 1);(case hx|hi|hu=>rfl);(case hT=>decide +kernel)) | ((with_reducible apply wps_max (u:=b.worst.e) (v:=c.e));(case hx|hy=>rfl)) | ((with_reducible apply wps_store (u:=(.int .i64 (mx b.worst.e c.e))) S 1);(case hx|hy|hi|h1=>rfl);(case hn=>exact nle rfl);(case hT=>decide +kernel);clear S;intro wz S;simp only [set_cons_succ,set_cons_zero,setIfInBounds_toArray] at S) | ((with_reducible refine tot_done ?ht ?_);(case ht=>kernel_rfl)) | ((with_reducible apply wps_text S);(case hm=>kernel_rfl);(case hB=>decide +kernel);clear S;intro wz S)
           go_roundw
           case rel=>exact ⟨5,by omega,by go_num,S⟩
           case measure=>first | (simp [intOf];done) | (simp [intOf];omega)
         · simp only [maE] at S
           go_wp2_with first | ((with_reducible apply wps_loada (T:=35) (k:=5) S 0);(case hx|hi=>rfl);(case hk=>exact nle rfl);(case hT=>decide +kernel))
           go_ret
           exact .inr ⟨HF.out,rfl,S.pick [1] rfl⟩
    | false=>
      unfold BuE.roomE at HFE
      simp only [Bool.false_eq_true,if_false] at HFE
      by_cases hf : c.sum + more > b.room - b.res
      · have f1 : decide (c.sum + more > b.room - b.res) = true:=decide_eq_true hf
        have HF : Hid (fitE b c more false = false):=Lib.hid (by rw [HFE.out _ rfl];exact decide_eq_false (by omega))
        clear hf HFE
        generalize c.sum = su at *
        go_wp2_with first | (go_at_call 51;refine Calls.mono (HMM.out _) ?_;rintro e wz ⟨rfl,hE⟩;replace S:=S.ext (Keep.of_below hE);clear hE) | ((with_reducible apply wps_load S 1);(case hx|hi|hu=>rfl);(case hT=>decide +kernel)) | ((with_reducible apply wps_loada (T:=35) (k:=5) S 0);(case hx|hi=>rfl);(case hk=>exact nle rfl);(case hT=>decide +kernel)) | (go_at_call 52;refine Calls.mono (HSU.out _) ?_;rintro e wz ⟨rfl,hE⟩;replace S:=S.ext (Keep.of_below hE);clear hE)
        go_ret
        exact .inl ⟨HF.out,rfl,S.pick [1] rfl⟩
      · have f1 : decide (c.sum + more > b.room - b.res) = false:=decide_eq_false hf
        have HF : Hid (fitE b c more false = true):=Lib.hid (by rw [HFE.out _ rfl];exact decide_eq_true (by omega))
        clear hf HFE
        generalize c.sum = su at *
        go_wp2_with first | (go_at_call 51;refine Calls.mono (HMM.out _) ?_;rintro e wz ⟨rfl,hE⟩;replace S:=S.ext (Keep.of_below hE);clear hE) | ((with_reducible apply wps_load S 1);(case hx|hi|hu=>rfl);(case hT=>decide +kernel)) | ((with_reducible apply wps_loada (T:=35) (k:=5) S 0);(case hx|hi=>rfl);(case hk=>exact nle rfl);(case hT=>decide +kernel)) | (go_at_call 52;refine Calls.mono (HSU.out _) ?_;rintro e wz ⟨rfl,hE⟩;replace S:=S.ext (Keep.of_below hE);clear hE)
        go_loopw [46] (fun i wr=>FitRel2 b5 X b c F w i wr) (fun i _=>5 - (intOf i).toNat)
        case atStart=>exact ⟨0,by omega,rfl,S⟩
        case round=>
         clear S
         obtain ⟨j,hj,rfl,S⟩:=hrel
         obtain rfl | rfl | rfl | rfl | rfl | rfl : j = 0 ∨ j = 1 ∨ j = 2 ∨ j = 3 ∨ j = 4 ∨ j = 5:=by omega
         · simp only [maE] at S
           go_wp2_with first | ((with_reducible apply wps_index (j:=0) (v:=.int .i64 c.a));(case hx|hy=>rfl);(case hT=>exact Tryz.underlying35);(case hj=>first | decide | omega);(case hv=>rfl);(case he=>decide +kernel)) | ((with_reducible apply wps_load S 1);(case hx|hi|hu=>rfl);(case hT=>decide +kernel)) | ((with_reducible apply wps_max (u:=b.worst.a) (v:=c.a));(case hx|hy=>rfl)) | ((with_reducible apply wps_store (u:=(.int .i64 (mx b.worst.a c.a))) S 1);(case hx|hy|hi|h1=>rfl);(case hn=>exact nle rfl);(case hT=>decide +kernel);clear S;intro wz S;simp only [set_cons_succ,set_cons_zero,setIfInBounds_toArray] at S) | ((with_reducible refine tot_done ?ht ?_);(case ht=>kernel_rfl)) | ((with_reducible apply wps_text S);(case hm=>kernel_rfl);(case hB=>decide +kernel);clear S;intro wz S)
           go_roundw
           case rel=>exact ⟨1,by omega,by go_num,S⟩
           case measure=>first | (simp [intOf];done) | (simp [intOf];omega)
         · simp only [maE] at S
           go_wp2_with first | ((with_reducible apply wps_index (j:=1) (v:=.int .i64 c.b));(case hx|hy=>rfl);(case hT=>exact Tryz.underlying35);(case hj=>first | decide | omega);(case hv=>rfl);(case he=>decide +kernel)) | ((with_reducible apply wps_load S 1);(case hx|hi|hu=>rfl);(case hT=>decide +kernel)) | ((with_reducible apply wps_max (u:=b.worst.b) (v:=c.b));(case hx|hy=>rfl)) | ((with_reducible apply wps_store (u:=(.int .i64 (mx b.worst.b c.b))) S 1);(case hx|hy|hi|h1=>rfl);(case hn=>exact nle rfl);(case hT=>decide +kernel);clear S;intro wz S;simp only [set_cons_succ,set_cons_zero,setIfInBounds_toArray] at S) | ((with_reducible refine tot_done ?ht ?_);(case ht=>kernel_rfl)) | ((with_reducible apply wps_text S);(case hm=>kernel_rfl);(case hB=>decide +kernel);clear S;intro wz S)
           go_roundw
           case rel=>exact ⟨2,by omega,by go_num,S⟩
           case measure=>first | (simp [intOf];done) | (simp [intOf];omega)
         · simp only [maE] at S
           go_wp2_with first | ((with_reducible apply wps_index (j:=2) (v:=.int .i64 c.c));(case hx|hy=>rfl);(case hT=>exact Tryz.underlying35);(case hj=>first | decide | omega);(case hv=>rfl);(case he=>decide +kernel)) | ((with_reducible apply wps_load S 1);(case hx|hi|hu=>rfl);(case hT=>decide +kernel)) | ((with_reducible apply wps_max (u:=b.worst.c) (v:=c.c));(case hx|hy=>rfl)) | ((with_reducible apply wps_store (u:=(.int .i64 (mx b.worst.c c.c))) S 1);(case hx|hy|hi|h1=>rfl);(case hn=>exact nle rfl);(case hT=>decide +kernel);clear S;intro wz S;simp only [set_cons_succ,set_cons_zero,setIfInBounds_toArray] at S) | ((with_reducible refine tot_done ?ht ?_);(case ht=>kernel_rfl)) | ((with_reducible apply wps_text S);(case hm=>kernel_rfl);(case hB=>decide +kernel);clear S;intro wz S)
           go_roundw
           case rel=>exact ⟨3,by omega,by go_num,S⟩
           case measure=>first | (simp [intOf];done) | (simp [intOf];omega)
         · simp only [maE] at S
           go_wp2_with first | ((with_reducible apply wps_index (j:=3) (v:=.int .i64 c.d));(case hx|hy=>rfl);(case hT=>exact Tryz.underlying35);(case hj=>first | decide | omega);(case hv=>rfl);(case he=>decide +kernel)) | ((with_reducible apply wps_load S 1);(case hx|hi|hu=>rfl);(case hT=>decide +kernel)) | ((with_reducible apply wps_max (u:=b.worst.d) (v:=c.d));(case hx|hy=>rfl)) | ((with_reducible apply wps_store (u:=(.int .i64 (mx b.worst.d c.d))) S 1);(case hx|hy|hi|h1=>rfl);(case hn=>exact nle rfl);(case hT=>decide +kernel);clear S;intro wz S;simp only [set_cons_succ,set_cons_zero,setIfInBounds_toArray] at S) | ((with_reducible refine tot_done ?ht ?_);(case ht=>kernel_rfl)) | ((with_reducible apply wps_text S);(case hm=>kernel_rfl);(case hB=>decide +kernel);clear S;intro wz S)
           go_roundw
           case rel=>exact ⟨4,by omega,by go_num,S⟩
           case measure=>first | (simp [intOf];done) | (simp [intOf];omega)
         · simp only [maE] at S
           go_wp2_with first | ((with_reducible apply wps_index (j:=4) (v:=.int .i64 c.e));(case hx|hy=>rfl);(case hT=>exact Tryz.underlying35);(case hj=>first | decide | omega);(case hv=>rfl);(case he=>decide +kernel)) | ((with_reducible apply wps_load S 1);(case hx|hi|hu=>rfl);(case hT=>decide +kernel)) | ((with_reducible apply wps_max (u:=b.worst.e) (v:=c.e));(case hx|hy=>rfl)) | ((with_reducible apply wps_store (u:=(.int .i64 (mx b.worst.e c.e))) S 1);(case hx|hy|hi|h1=>rfl);(case hn=>exact nle rfl);(case hT=>decide +kernel);clear S;intro wz S;simp only [set_cons_succ,set_cons_zero,setIfInBounds_toArray] at S) | ((with_reducible refine tot_done ?ht ?_);(case ht=>kernel_rfl)) | ((with_reducible apply wps_text S);(case hm=>kernel_rfl);(case hB=>decide +kernel);clear S;intro wz S)
           go_roundw
           case rel=>exact ⟨5,by omega,by go_num,S⟩
           case measure=>first | (simp [intOf];done) | (simp [intOf];omega)
         · simp only [maE] at S
           go_wp2_with first | ((with_reducible apply wps_loada (T:=35) (k:=5) S 0);(case hx|hi=>rfl);(case hk=>exact nle rfl);(case hT=>decide +kernel))
           go_ret
           exact .inr ⟨HF.out,rfl,S.pick [1] rfl⟩
end Go.Proofs.YtmjljoaakdocaaaGreatDoor
