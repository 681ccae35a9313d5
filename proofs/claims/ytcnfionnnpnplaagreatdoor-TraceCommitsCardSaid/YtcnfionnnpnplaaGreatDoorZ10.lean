import Derived.Test.YtcnfionnnpnplaaGreatDoorZ09
/- The walk of a machine's do. -/
set_option maxHeartbeats 16000000
set_option maxRecDepth 100000
namespace Go.Proofs.YtcnfionnnpnplaaGreatDoor
open Go Go.RowKit Reg Mem
open List (set_cons_succ set_cons_zero setIfInBounds_toArray cons_append nil_append)
theorem elem_Em : Elem Tryz.prog 173 177 4 32:=⟨_,.agg #[.int .i64 0,.int .i64 0,.int .i64 0,.int .i64 0],Tryz.underlying173,rfl,by kernel_rfl,by kernel_rfl,by kernel_rfl,by kernel_rfl,by omega⟩
def cellN (v : Int) : Prop:=∃ n : Nat,n < 8 ∧ v = n
def MayOp (x : Instr) (many : Nat) : Prop:=
 (x.op = 1 ∧ cellN x.a) ∨ (x.op = 2 ∧ cellN x.a ∧ cellN x.b) ∨ ((3 ≤ x.op ∧ x.op ≤ 7) ∧ cellN x.a ∧ cellN x.b ∧ cellN x.c) ∨ (x.op = 8 ∧ 0 ≤ x.a ∧ x.a ≤ many) ∨
 (x.op = 9 ∧ cellN x.a ∧ 0 ≤ x.b ∧ x.b ≤ many) ∨ (x.op = 10 ∧ cellN x.a) ∨ (x.op = 11 ∧ cellN x.a) ∨ (x.op = 12 ∧ cellN x.a) ∨ (x.op = 13 ∧ cellN x.a) ∨ (x.op = 14 ∧ cellN x.a ∧ cellN x.b ∧ cellN x.c) ∨ x.op = 15
theorem fits1 {v m : Int} (h : fitsN 1 v m = true) : cellN v:=by
 simp only [fitsN,if_true,decide_eq_true_eq] at h
 exact ⟨v.toNat,by omega,by omega⟩
theorem fits3 {v m : Int} (h : fitsN 3 v m = true) : 0 ≤ v ∧ v ≤ m:=by
 simpa [fitsN] using h
theorem may_op {x : Instr} {many : Nat} (h : mayE x many = 0) : MayOp x many:=by
 by_cases h1 : isOp x.op
 case neg=>rw [may_form (by simpa using h1)] at h;cases h
 have key : ∀ t,table[x.op.toNat]? = some t → fitsN t.num.n0 x.a many = true ∧ fitsN t.num.n1 x.b many = true ∧ fitsN t.num.n2 x.c many = true ∧ fitsN t.num.n3 x.d many = true:=by
  intro t ht
  rw [may_eq h1 ht] at h
  by_cases hf : (fitsN t.num.n0 x.a many && fitsN t.num.n1 x.b many && fitsN t.num.n2 x.c many && fitsN t.num.n3 x.d many) = true
  · simp only [Bool.and_eq_true] at hf;exact ⟨hf.1.1.1,hf.1.1.2,hf.1.2,hf.2⟩
  · rw [if_neg hf] at h;cases h
 simp only [isOp,decide_eq_true_eq] at h1
 obtain ⟨op,a,b,c,d⟩:=x
 simp only at key h1
 unfold MayOp
 obtain rfl | rfl | rfl | rfl | rfl | rfl | rfl | rfl | rfl | rfl | rfl | rfl | rfl | rfl | rfl : op = 1 ∨ op = 2 ∨ op = 3 ∨ op = 4 ∨ op = 5 ∨ op = 6 ∨ op = 7 ∨ op = 8 ∨ op = 9 ∨ op = 10 ∨ op = 11 ∨ op = 12 ∨ op = 13 ∨ op = 14 ∨ op = 15:=by omega
 all_goals obtain ⟨f1,f2,f3,f4⟩:=key _ rfl
 · exact .inl ⟨rfl,fits1 f1⟩
 · exact .inr (.inl ⟨rfl,fits1 f1,fits1 f2⟩)
 · exact .inr (.inr (.inl ⟨(show (_ : Int) ≤ _ ∧ (_ : Int) ≤ _ from by simp),fits1 f1,fits1 f2,fits1 f3⟩))
 · exact .inr (.inr (.inl ⟨(show (_ : Int) ≤ _ ∧ (_ : Int) ≤ _ from by simp),fits1 f1,fits1 f2,fits1 f3⟩))
 · exact .inr (.inr (.inl ⟨(show (_ : Int) ≤ _ ∧ (_ : Int) ≤ _ from by simp),fits1 f1,fits1 f2,fits1 f3⟩))
 · exact .inr (.inr (.inl ⟨(show (_ : Int) ≤ _ ∧ (_ : Int) ≤ _ from by simp),fits1 f1,fits1 f2,fits1 f3⟩))
 · exact .inr (.inr (.inl ⟨(show (_ : Int) ≤ _ ∧ (_ : Int) ≤ _ from by simp),fits1 f1,fits1 f2,fits1 f3⟩))
 · exact .inr (.inr (.inr (.inl ⟨rfl,fits3 f1⟩)))
 · exact .inr (.inr (.inr (.inr (.inl ⟨rfl,fits1 f1,fits3 f2⟩))))
 · exact .inr (.inr (.inr (.inr (.inr (.inl ⟨rfl,fits1 f1⟩)))))
 · exact .inr (.inr (.inr (.inr (.inr (.inr (.inl ⟨rfl,fits1 f1⟩))))))
 · exact .inr (.inr (.inr (.inr (.inr (.inr (.inr (.inl ⟨rfl,fits1 f1⟩)))))))
 · exact .inr (.inr (.inr (.inr (.inr (.inr (.inr (.inr (.inl ⟨rfl,fits1 f1⟩))))))))
 · exact .inr (.inr (.inr (.inr (.inr (.inr (.inr (.inr (.inr (.inl ⟨rfl,fits1 f1,fits1 f2,fits1 f3⟩)))))))))
 · exact .inr (.inr (.inr (.inr (.inr (.inr (.inr (.inr (.inr (.inr rfl)))))))))
def DoPost (F : Nat → Prop) (R : Nat) (e : Event) (vp : Value) (fan : Int) (n : Mach) (w : World) (r : Ending) (w' : World) : Prop:=
 ∃ vs',r = .returned (.tuple #[]) ∧ St F w w' [Blk false R (machCells e vp n fan vs') 205,Own 177 Emit.cells 4 vs' n.sent]
theorem do_calls (F : Nat → Prop) (w : World) (R : Nat) (e : Event) (vp vs : Value) (fan : Int) (m : Mach) (x : Instr) (many : Nat) (S : St F w w [Blk false R (machCells e vp m fan vs) 205,Own 177 Emit.cells 4 vs m.sent])
 (h8 : m.cs.length = 8) (hx : mayE x many = 0) (hs : m.sent.length ≤ 65536) :
 Calls Tryz.prog 126 #[.pointer (some ⟨R,0,none⟩),.agg #[.int .i64 x.op,.int .i64 x.a,.int .i64 x.b,.int .i64 x.c,.int .i64 x.d]] w (DoPost F R e vp fan (doE e fan m x) w):=by
 have hop:=may_op hx
 clear hx
 obtain ⟨op,a,b,c,d⟩:=x
 unfold MayOp at hop
 simp only at hop
 have H8:=Lib.hid h8
 clear h8
 rcases hop with ⟨rfl,na,ha,rfl⟩ | ⟨rfl,⟨na,ha,rfl⟩,nb,hb,rfl⟩ | ⟨ho,⟨na,ha,rfl⟩,⟨nb,hb,rfl⟩,nc,hc,rfl⟩ | ⟨rfl,ha0,ha1⟩ | ⟨rfl,⟨na,ha,rfl⟩,hb0,hb1⟩ | ⟨rfl,na,ha,rfl⟩ | ⟨rfl,na,ha,rfl⟩ | ⟨rfl,na,ha,rfl⟩ | ⟨rfl,na,ha,rfl⟩ | ⟨rfl,⟨na,ha,rfl⟩,⟨nb,hb,rfl⟩,nc,hc,rfl⟩ | rfl
 · skip
   rw [show doE e fan m ⟨1,na,b,c,d⟩ = m.put na (b) by simp [doE]]
   go_enter Tryz.func126,Tryz.ntmps126
   go_wp2_with first | ((with_reducible apply wps_boxa S);(case hx=>rfl);clear S;intro bx wz S) | ((with_reducible apply wps_store S 1 (n:=(8+na)) (u:=.int .i64 (b)));(case hx|hy|hi|h1=>rfl);(case hT=>decide +kernel);(case hn=>first | omega | (rw [mach_size H8.out];omega) | (rw [mach_size H8.out];decide) | (rw [rm_size H8.out];omega) | (rw [rm_size H8.out];decide) | (rw [rm_size (H8b _ _).out];decide));clear S;intro wz S;simp only [set_cons_succ,set_cons_zero] at S;rw [mach_put H8.out ha] at S) | ((with_reducible refine tot_done ?ht ?_);(case ht=>kernel_rfl)) | ((with_reducible apply wps_text S);(case hm=>kernel_rfl);(case hB=>decide +kernel);clear S;intro wz S) | ((with_reducible apply wps_load S 0);(case hx|hi|hu=>rfl);(case hT=>decide +kernel))
   go_end0
   exact ⟨vs,rfl,S.pick [1,2] rfl⟩
 · skip
   rw [show doE e fan m ⟨2,na,nb,c,d⟩ = m.put na (m.get nb) by simp [doE]]
   go_enter Tryz.func126,Tryz.ntmps126
   go_wp2_with first | ((with_reducible apply wps_boxa S);(case hx=>rfl);clear S;intro bx wz S) | ((with_reducible apply wps_load S 1 (hu:=mach_cell H8.out hb));(case hx|hi=>rfl);(case hT=>decide +kernel)) | ((with_reducible apply wps_store S 1 (n:=(8+na)) (u:=.int .i64 (m.get nb)));(case hx|hy|hi|h1=>rfl);(case hT=>decide +kernel);(case hn=>first | omega | (rw [mach_size H8.out];omega) | (rw [mach_size H8.out];decide) | (rw [rm_size H8.out];omega) | (rw [rm_size H8.out];decide) | (rw [rm_size (H8b _ _).out];decide));clear S;intro wz S;simp only [set_cons_succ,set_cons_zero] at S;rw [mach_put H8.out ha] at S) | ((with_reducible refine tot_done ?ht ?_);(case ht=>kernel_rfl)) | ((with_reducible apply wps_text S);(case hm=>kernel_rfl);(case hB=>decide +kernel);clear S;intro wz S) | ((with_reducible apply wps_load S 0);(case hx|hi|hu=>rfl);(case hT=>decide +kernel))
   go_end0
   exact ⟨vs,rfl,S.pick [1,2] rfl⟩
 · skip
   have HO:=Lib.hid ho
   obtain ⟨v,hv⟩ : ∃ v,reckonE op (m.get nb) (m.get nc) = v:=⟨_,rfl⟩
   have HC:=Lib.hid fun w=>reckon_calls op (m.get nb) (m.get nc) ho w
   rw [hv] at HC
   rw [show doE e fan m ⟨op,na,nb,nc,d⟩ = m.put na v by rw [← hv];unfold doE;rw [if_neg (by simp;omega),if_neg (by simp;omega),if_pos (by simpa using ho)]]
   clear hv
   clear ho
   obtain rfl | rfl | rfl | rfl | rfl : op = 3 ∨ op = 4 ∨ op = 5 ∨ op = 6 ∨ op = 7:=by have:=HO.out;omega
   · skip
     go_enter Tryz.func126,Tryz.ntmps126
     go_wp2_with first | ((with_reducible apply wps_boxa S);(case hx=>rfl);clear S;intro bx wz S) | ((with_reducible apply wps_load S 0);(case hx|hi|hu=>rfl);(case hT=>decide +kernel))
     (refine wp_region_wt (soft:=[0,1,2,3,4,5,6,7,8,9,11,12,13,14,15,18]) (L:=[_]) (T:=[_,_]) S ?hm ?hB ?_);(case hm=>kernel_rfl);(case hB=>decide +kernel);clear S
     iterate 16
      (with_reducible apply softs_cons)
      (case hw=>
        (with_reducible apply soft_of);(case hi=>rfl)
        intro T wz S
        simp only [cons_append,nil_append] at S
        go_wp2_with first | ((with_reducible refine tot_done ?ht ?_);(case ht=>kernel_rfl)) | ((with_reducible apply wps_load S 0);(case hx|hi|hu=>rfl);(case hT=>decide +kernel))
        exact ⟨rfl,S⟩)
      (case hs=>exact ⟨_,rfl,by kernel_rfl⟩)
     refine softs_nil ?_
     repeat'
      (first
        | ((with_reducible apply W_hard1 (i:=10));(case hn=>rfl);(case hr=>decide +kernel)) | ((with_reducible apply W_hard1 (i:=16));(case hn=>rfl);(case hr=>decide +kernel)) | ((with_reducible apply W_hard1 (i:=17));(case hn=>rfl);(case hr=>decide +kernel)) | ((with_reducible apply W_hard1 (i:=19));(case hn=>rfl);(case hr=>decide +kernel)) | ((with_reducible apply W_hard1 (i:=20));(case hn=>rfl);(case hr=>decide +kernel)) | ((with_reducible apply W_hard2 (i:=10) (i':=16));(case hn=>rfl);(case hr=>decide +kernel)) | ((with_reducible apply W_hard2 (i:=19) (i':=20));(case hn=>rfl);(case hr=>decide +kernel)))
      all_goals
       intro wz S
       (with_reducible apply hard_of);(case hi=>rfl)
       simp only [cons_append,nil_append] at S
       try simp only [pick,nth] at S
       go_wp2_with first | ((with_reducible apply wps_load S 1 (hu:=mach_cell H8.out hb));(case hx|hi=>rfl);(case hT=>decide +kernel)) | ((with_reducible apply wps_load S 1 (hu:=mach_cell H8.out hc));(case hx|hi=>rfl);(case hT=>decide +kernel)) | (go_at_call 135;refine Calls.mono (HC.out _) ?_;rintro e wz ⟨rfl,hE⟩;replace S:=S.ext (Keep.of_below hE);clear hE) | ((with_reducible apply wps_store S 1 (n:=(8+na)) (u:=.int .i64 v));(case hx|hy|hi|h1=>rfl);(case hT=>decide +kernel);(case hn=>first | omega | (rw [mach_size H8.out];omega) | (rw [mach_size H8.out];decide) | (rw [rm_size H8.out];omega) | (rw [rm_size H8.out];decide) | (rw [rm_size (H8b _ _).out];decide));clear S;intro wz S;simp only [set_cons_succ,set_cons_zero] at S;rw [mach_put H8.out ha] at S) | ((with_reducible refine tot_done ?ht ?_);(case ht=>kernel_rfl))
       first
        | refine ⟨_,S.pick [1,2,3,4,0] rfl,?_⟩
        | refine ⟨_,S.pick [1,2,3,0] rfl,?_⟩
        | refine ⟨_,S.pick [1,2,0] rfl,?_⟩
        | refine ⟨_,S.pick [1,0] rfl,?_⟩
        | refine ⟨_,S,?_⟩
     all_goals
      (with_reducible apply W_done);(case hn=>rfl);(case hr=>decide +kernel)
      clear S
      intro wz S
      simp only [cons_append,nil_append] at S
      try simp only [pick,nth] at S
      go_wp2_with first | ((with_reducible apply wps_load S 0);(case hx|hi|hu=>rfl);(case hT=>decide +kernel))
      go_end0
      exact ⟨vs,rfl,S.pick [1,2] rfl⟩
   · skip
     go_enter Tryz.func126,Tryz.ntmps126
     go_wp2_with first | ((with_reducible apply wps_boxa S);(case hx=>rfl);clear S;intro bx wz S) | ((with_reducible apply wps_load S 0);(case hx|hi|hu=>rfl);(case hT=>decide +kernel))
     (refine wp_region_wt (soft:=[0,1,2,3,4,5,6,7,8,9,11,12,13,14,15,18]) (L:=[_]) (T:=[_,_]) S ?hm ?hB ?_);(case hm=>kernel_rfl);(case hB=>decide +kernel);clear S
     iterate 16
      (with_reducible apply softs_cons)
      (case hw=>
        (with_reducible apply soft_of);(case hi=>rfl)
        intro T wz S
        simp only [cons_append,nil_append] at S
        go_wp2_with first | ((with_reducible refine tot_done ?ht ?_);(case ht=>kernel_rfl)) | ((with_reducible apply wps_load S 0);(case hx|hi|hu=>rfl);(case hT=>decide +kernel))
        exact ⟨rfl,S⟩)
      (case hs=>exact ⟨_,rfl,by kernel_rfl⟩)
     refine softs_nil ?_
     repeat'
      (first
        | ((with_reducible apply W_hard1 (i:=10));(case hn=>rfl);(case hr=>decide +kernel)) | ((with_reducible apply W_hard1 (i:=16));(case hn=>rfl);(case hr=>decide +kernel)) | ((with_reducible apply W_hard1 (i:=17));(case hn=>rfl);(case hr=>decide +kernel)) | ((with_reducible apply W_hard1 (i:=19));(case hn=>rfl);(case hr=>decide +kernel)) | ((with_reducible apply W_hard1 (i:=20));(case hn=>rfl);(case hr=>decide +kernel)) | ((with_reducible apply W_hard2 (i:=10) (i':=16));(case hn=>rfl);(case hr=>decide +kernel)) | ((with_reducible apply W_hard2 (i:=19) (i':=20));(case hn=>rfl);(case hr=>decide +kernel)))
      all_goals
       intro wz S
       (with_reducible apply hard_of);(case hi=>rfl)
       simp only [cons_append,nil_append] at S
       try simp only [pick,nth] at S
       go_wp2_with first | ((with_reducible apply wps_load S 1 (hu:=mach_cell H8.out hb));(case hx|hi=>rfl);(case hT=>decide +kernel)) | ((with_reducible apply wps_load S 1 (hu:=mach_cell H8.out hc));(case hx|hi=>rfl);(case hT=>decide +kernel)) | (go_at_call 135;refine Calls.mono (HC.out _) ?_;rintro e wz ⟨rfl,hE⟩;replace S:=S.ext (Keep.of_below hE);clear hE) | ((with_reducible apply wps_store S 1 (n:=(8+na)) (u:=.int .i64 v));(case hx|hy|hi|h1=>rfl);(case hT=>decide +kernel);(case hn=>first | omega | (rw [mach_size H8.out];omega) | (rw [mach_size H8.out];decide) | (rw [rm_size H8.out];omega) | (rw [rm_size H8.out];decide) | (rw [rm_size (H8b _ _).out];decide));clear S;intro wz S;simp only [set_cons_succ,set_cons_zero] at S;rw [mach_put H8.out ha] at S) | ((with_reducible refine tot_done ?ht ?_);(case ht=>kernel_rfl))
       first
        | refine ⟨_,S.pick [1,2,3,4,0] rfl,?_⟩
        | refine ⟨_,S.pick [1,2,3,0] rfl,?_⟩
        | refine ⟨_,S.pick [1,2,0] rfl,?_⟩
        | refine ⟨_,S.pick [1,0] rfl,?_⟩
        | refine ⟨_,S,?_⟩
     all_goals
      (with_reducible apply W_done);(case hn=>rfl);(case hr=>decide +kernel)
      clear S
      intro wz S
      simp only [cons_append,nil_append] at S
      try simp only [pick,nth] at S
      go_wp2_with first | ((with_reducible apply wps_load S 0);(case hx|hi|hu=>rfl);(case hT=>decide +kernel))
      go_end0
      exact ⟨vs,rfl,S.pick [1,2] rfl⟩
   · skip
     go_enter Tryz.func126,Tryz.ntmps126
     go_wp2_with first | ((with_reducible apply wps_boxa S);(case hx=>rfl);clear S;intro bx wz S) | ((with_reducible apply wps_load S 0);(case hx|hi|hu=>rfl);(case hT=>decide +kernel))
     (refine wp_region_wt (soft:=[0,1,2,3,4,5,6,7,8,9,11,12,13,14,15,18]) (L:=[_]) (T:=[_,_]) S ?hm ?hB ?_);(case hm=>kernel_rfl);(case hB=>decide +kernel);clear S
     iterate 16
      (with_reducible apply softs_cons)
      (case hw=>
        (with_reducible apply soft_of);(case hi=>rfl)
        intro T wz S
        simp only [cons_append,nil_append] at S
        go_wp2_with first | ((with_reducible refine tot_done ?ht ?_);(case ht=>kernel_rfl)) | ((with_reducible apply wps_load S 0);(case hx|hi|hu=>rfl);(case hT=>decide +kernel))
        exact ⟨rfl,S⟩)
      (case hs=>exact ⟨_,rfl,by kernel_rfl⟩)
     refine softs_nil ?_
     repeat'
      (first
        | ((with_reducible apply W_hard1 (i:=10));(case hn=>rfl);(case hr=>decide +kernel)) | ((with_reducible apply W_hard1 (i:=16));(case hn=>rfl);(case hr=>decide +kernel)) | ((with_reducible apply W_hard1 (i:=17));(case hn=>rfl);(case hr=>decide +kernel)) | ((with_reducible apply W_hard1 (i:=19));(case hn=>rfl);(case hr=>decide +kernel)) | ((with_reducible apply W_hard1 (i:=20));(case hn=>rfl);(case hr=>decide +kernel)) | ((with_reducible apply W_hard2 (i:=10) (i':=16));(case hn=>rfl);(case hr=>decide +kernel)) | ((with_reducible apply W_hard2 (i:=19) (i':=20));(case hn=>rfl);(case hr=>decide +kernel)))
      all_goals
       intro wz S
       (with_reducible apply hard_of);(case hi=>rfl)
       simp only [cons_append,nil_append] at S
       try simp only [pick,nth] at S
       go_wp2_with first | ((with_reducible apply wps_load S 1 (hu:=mach_cell H8.out hb));(case hx|hi=>rfl);(case hT=>decide +kernel)) | ((with_reducible apply wps_load S 1 (hu:=mach_cell H8.out hc));(case hx|hi=>rfl);(case hT=>decide +kernel)) | (go_at_call 135;refine Calls.mono (HC.out _) ?_;rintro e wz ⟨rfl,hE⟩;replace S:=S.ext (Keep.of_below hE);clear hE) | ((with_reducible apply wps_store S 1 (n:=(8+na)) (u:=.int .i64 v));(case hx|hy|hi|h1=>rfl);(case hT=>decide +kernel);(case hn=>first | omega | (rw [mach_size H8.out];omega) | (rw [mach_size H8.out];decide) | (rw [rm_size H8.out];omega) | (rw [rm_size H8.out];decide) | (rw [rm_size (H8b _ _).out];decide));clear S;intro wz S;simp only [set_cons_succ,set_cons_zero] at S;rw [mach_put H8.out ha] at S) | ((with_reducible refine tot_done ?ht ?_);(case ht=>kernel_rfl))
       first
        | refine ⟨_,S.pick [1,2,3,4,0] rfl,?_⟩
        | refine ⟨_,S.pick [1,2,3,0] rfl,?_⟩
        | refine ⟨_,S.pick [1,2,0] rfl,?_⟩
        | refine ⟨_,S.pick [1,0] rfl,?_⟩
        | refine ⟨_,S,?_⟩
     all_goals
      (with_reducible apply W_done);(case hn=>rfl);(case hr=>decide +kernel)
      clear S
      intro wz S
      simp only [cons_append,nil_append] at S
      try simp only [pick,nth] at S
      go_wp2_with first | ((with_reducible apply wps_load S 0);(case hx|hi|hu=>rfl);(case hT=>decide +kernel))
      go_end0
      exact ⟨vs,rfl,S.pick [1,2] rfl⟩
   · skip
     go_enter Tryz.func126,Tryz.ntmps126
     go_wp2_with first | ((with_reducible apply wps_boxa S);(case hx=>rfl);clear S;intro bx wz S) | ((with_reducible apply wps_load S 0);(case hx|hi|hu=>rfl);(case hT=>decide +kernel))
     (refine wp_region_wt (soft:=[0,1,2,3,4,5,6,7,8,9,11,12,13,14,15,18]) (L:=[_]) (T:=[_,_]) S ?hm ?hB ?_);(case hm=>kernel_rfl);(case hB=>decide +kernel);clear S
     iterate 16
      (with_reducible apply softs_cons)
      (case hw=>
        (with_reducible apply soft_of);(case hi=>rfl)
        intro T wz S
        simp only [cons_append,nil_append] at S
        go_wp2_with first | ((with_reducible refine tot_done ?ht ?_);(case ht=>kernel_rfl)) | ((with_reducible apply wps_load S 0);(case hx|hi|hu=>rfl);(case hT=>decide +kernel))
        exact ⟨rfl,S⟩)
      (case hs=>exact ⟨_,rfl,by kernel_rfl⟩)
     refine softs_nil ?_
     repeat'
      (first
        | ((with_reducible apply W_hard1 (i:=10));(case hn=>rfl);(case hr=>decide +kernel)) | ((with_reducible apply W_hard1 (i:=16));(case hn=>rfl);(case hr=>decide +kernel)) | ((with_reducible apply W_hard1 (i:=17));(case hn=>rfl);(case hr=>decide +kernel)) | ((with_reducible apply W_hard1 (i:=19));(case hn=>rfl);(case hr=>decide +kernel)) | ((with_reducible apply W_hard1 (i:=20));(case hn=>rfl);(case hr=>decide +kernel)) | ((with_reducible apply W_hard2 (i:=10) (i':=16));(case hn=>rfl);(case hr=>decide +kernel)) | ((with_reducible apply W_hard2 (i:=19) (i':=20));(case hn=>rfl);(case hr=>decide +kernel)))
      all_goals
       intro wz S
       (with_reducible apply hard_of);(case hi=>rfl)
       simp only [cons_append,nil_append] at S
       try simp only [pick,nth] at S
       go_wp2_with first | ((with_reducible apply wps_load S 1 (hu:=mach_cell H8.out hb));(case hx|hi=>rfl);(case hT=>decide +kernel)) | ((with_reducible apply wps_load S 1 (hu:=mach_cell H8.out hc));(case hx|hi=>rfl);(case hT=>decide +kernel)) | (go_at_call 135;refine Calls.mono (HC.out _) ?_;rintro e wz ⟨rfl,hE⟩;replace S:=S.ext (Keep.of_below hE);clear hE) | ((with_reducible apply wps_store S 1 (n:=(8+na)) (u:=.int .i64 v));(case hx|hy|hi|h1=>rfl);(case hT=>decide +kernel);(case hn=>first | omega | (rw [mach_size H8.out];omega) | (rw [mach_size H8.out];decide) | (rw [rm_size H8.out];omega) | (rw [rm_size H8.out];decide) | (rw [rm_size (H8b _ _).out];decide));clear S;intro wz S;simp only [set_cons_succ,set_cons_zero] at S;rw [mach_put H8.out ha] at S) | ((with_reducible refine tot_done ?ht ?_);(case ht=>kernel_rfl))
       first
        | refine ⟨_,S.pick [1,2,3,4,0] rfl,?_⟩
        | refine ⟨_,S.pick [1,2,3,0] rfl,?_⟩
        | refine ⟨_,S.pick [1,2,0] rfl,?_⟩
        | refine ⟨_,S.pick [1,0] rfl,?_⟩
        | refine ⟨_,S,?_⟩
     all_goals
      (with_reducible apply W_done);(case hn=>rfl);(case hr=>decide +kernel)
      clear S
      intro wz S
      simp only [cons_append,nil_append] at S
      try simp only [pick,nth] at S
      go_wp2_with first | ((with_reducible apply wps_load S 0);(case hx|hi|hu=>rfl);(case hT=>decide +kernel))
      go_end0
      exact ⟨vs,rfl,S.pick [1,2] rfl⟩
   · skip
     go_enter Tryz.func126,Tryz.ntmps126
     go_wp2_with first | ((with_reducible apply wps_boxa S);(case hx=>rfl);clear S;intro bx wz S) | ((with_reducible apply wps_load S 0);(case hx|hi|hu=>rfl);(case hT=>decide +kernel))
     (refine wp_region_wt (soft:=[0,1,2,3,4,5,6,7,8,9,11,12,13,14,15,18]) (L:=[_]) (T:=[_,_]) S ?hm ?hB ?_);(case hm=>kernel_rfl);(case hB=>decide +kernel);clear S
     iterate 16
      (with_reducible apply softs_cons)
      (case hw=>
        (with_reducible apply soft_of);(case hi=>rfl)
        intro T wz S
        simp only [cons_append,nil_append] at S
        go_wp2_with first | ((with_reducible refine tot_done ?ht ?_);(case ht=>kernel_rfl)) | ((with_reducible apply wps_load S 0);(case hx|hi|hu=>rfl);(case hT=>decide +kernel))
        exact ⟨rfl,S⟩)
      (case hs=>exact ⟨_,rfl,by kernel_rfl⟩)
     refine softs_nil ?_
     repeat'
      (first
        | ((with_reducible apply W_hard1 (i:=10));(case hn=>rfl);(case hr=>decide +kernel)) | ((with_reducible apply W_hard1 (i:=16));(case hn=>rfl);(case hr=>decide +kernel)) | ((with_reducible apply W_hard1 (i:=17));(case hn=>rfl);(case hr=>decide +kernel)) | ((with_reducible apply W_hard1 (i:=19));(case hn=>rfl);(case hr=>decide +kernel)) | ((with_reducible apply W_hard1 (i:=20));(case hn=>rfl);(case hr=>decide +kernel)) | ((with_reducible apply W_hard2 (i:=10) (i':=16));(case hn=>rfl);(case hr=>decide +kernel)) | ((with_reducible apply W_hard2 (i:=19) (i':=20));(case hn=>rfl);(case hr=>decide +kernel)))
      all_goals
       intro wz S
       (with_reducible apply hard_of);(case hi=>rfl)
       simp only [cons_append,nil_append] at S
       try simp only [pick,nth] at S
       go_wp2_with first | ((with_reducible apply wps_load S 1 (hu:=mach_cell H8.out hb));(case hx|hi=>rfl);(case hT=>decide +kernel)) | ((with_reducible apply wps_load S 1 (hu:=mach_cell H8.out hc));(case hx|hi=>rfl);(case hT=>decide +kernel)) | (go_at_call 135;refine Calls.mono (HC.out _) ?_;rintro e wz ⟨rfl,hE⟩;replace S:=S.ext (Keep.of_below hE);clear hE) | ((with_reducible apply wps_store S 1 (n:=(8+na)) (u:=.int .i64 v));(case hx|hy|hi|h1=>rfl);(case hT=>decide +kernel);(case hn=>first | omega | (rw [mach_size H8.out];omega) | (rw [mach_size H8.out];decide) | (rw [rm_size H8.out];omega) | (rw [rm_size H8.out];decide) | (rw [rm_size (H8b _ _).out];decide));clear S;intro wz S;simp only [set_cons_succ,set_cons_zero] at S;rw [mach_put H8.out ha] at S) | ((with_reducible refine tot_done ?ht ?_);(case ht=>kernel_rfl))
       first
        | refine ⟨_,S.pick [1,2,3,4,0] rfl,?_⟩
        | refine ⟨_,S.pick [1,2,3,0] rfl,?_⟩
        | refine ⟨_,S.pick [1,2,0] rfl,?_⟩
        | refine ⟨_,S.pick [1,0] rfl,?_⟩
        | refine ⟨_,S,?_⟩
     all_goals
      (with_reducible apply W_done);(case hn=>rfl);(case hr=>decide +kernel)
      clear S
      intro wz S
      simp only [cons_append,nil_append] at S
      try simp only [pick,nth] at S
      go_wp2_with first | ((with_reducible apply wps_load S 0);(case hx|hi|hu=>rfl);(case hT=>decide +kernel))
      go_end0
      exact ⟨vs,rfl,S.pick [1,2] rfl⟩
 · skip
   rw [show doE e fan m ⟨8,a,b,c,d⟩ = { m with at_:=a } by simp [doE]]
   go_enter Tryz.func126,Tryz.ntmps126
   go_wp2_with first | ((with_reducible apply wps_boxa S);(case hx=>rfl);clear S;intro bx wz S) | ((with_reducible apply wps_store S 1 (n:=16) (u:=.int .i64 a));(case hx|hy|hi|h1=>rfl);(case hT=>decide +kernel);(case hn=>first | omega | (rw [mach_size H8.out];omega) | (rw [mach_size H8.out];decide) | (rw [rm_size H8.out];omega) | (rw [rm_size H8.out];decide) | (rw [rm_size (H8b _ _).out];decide));clear S;intro wz S;simp only [set_cons_succ,set_cons_zero] at S;rw [mach_setat H8.out] at S) | ((with_reducible apply wps_load S 0);(case hx|hi|hu=>rfl);(case hT=>decide +kernel))
   go_end0
   exact ⟨vs,rfl,S.pick [1,2] rfl⟩
 · skip
   by_cases h0 : m.get na = 0
   · rw [show doE e fan m ⟨9,na,b,c,d⟩ = { m with at_:=b } by simp [doE,h0]]
     have HU:=Lib.hid (mach_cell (e:=e) (vp:=vp) (vs:=vs) (fan:=fan) H8.out ha)
     rw [h0] at HU
     go_enter Tryz.func126,Tryz.ntmps126
     go_wp2_with first | ((with_reducible apply wps_boxa S);(case hx=>rfl);clear S;intro bx wz S) | ((with_reducible apply wps_load S 1 (hu:=HU.out));(case hx|hi=>rfl);(case hT=>decide +kernel)) | ((with_reducible apply wps_store S 1 (n:=16) (u:=.int .i64 b));(case hx|hy|hi|h1=>rfl);(case hT=>decide +kernel);(case hn=>first | omega | (rw [mach_size H8.out];omega) | (rw [mach_size H8.out];decide) | (rw [rm_size H8.out];omega) | (rw [rm_size H8.out];decide) | (rw [rm_size (H8b _ _).out];decide));clear S;intro wz S;simp only [set_cons_succ,set_cons_zero] at S;rw [mach_setat H8.out] at S) | ((with_reducible refine tot_done ?ht ?_);(case ht=>kernel_rfl)) | ((with_reducible apply wps_text S);(case hm=>kernel_rfl);(case hB=>decide +kernel);clear S;intro wz S) | ((with_reducible apply wps_load S 0);(case hx|hi|hu=>rfl);(case hT=>decide +kernel))
     go_end0
     exact ⟨vs,rfl,S.pick [1,2] rfl⟩
   · rw [show doE e fan m ⟨9,na,b,c,d⟩ = m by simp [doE,h0]]
     go_enter Tryz.func126,Tryz.ntmps126
     go_wp2_with first | ((with_reducible apply wps_boxa S);(case hx=>rfl);clear S;intro bx wz S) | ((with_reducible apply wps_load S 1 (hu:=mach_cell H8.out ha));(case hx|hi=>rfl);(case hT=>decide +kernel)) | ((with_reducible refine tot_done ?ht ?_);(case ht=>kernel_rfl)) | ((with_reducible apply wps_text S);(case hm=>kernel_rfl);(case hB=>decide +kernel);clear S;intro wz S) | ((with_reducible apply wps_load S 0);(case hx|hi|hu=>rfl);(case hT=>decide +kernel))
     go_end0
     exact ⟨vs,rfl,S.pick [1,2] rfl⟩
 · skip
   rw [show doE e fan m ⟨10,na,b,c,d⟩ = m.put na (e.key.at_) by simp [doE]]
   go_enter Tryz.func126,Tryz.ntmps126
   go_wp2_with first | ((with_reducible apply wps_boxa S);(case hx=>rfl);clear S;intro bx wz S) | ((with_reducible apply wps_load S 1 (hu:=mach_ev (q:=0) (by decide) rfl));(case hx|hi=>rfl);(case hT=>decide +kernel)) | ((with_reducible apply wps_store S 1 (n:=(8+na)) (u:=.int .i64 (e.key.at_)));(case hx|hy|hi|h1=>rfl);(case hT=>decide +kernel);(case hn=>first | omega | (rw [mach_size H8.out];omega) | (rw [mach_size H8.out];decide) | (rw [rm_size H8.out];omega) | (rw [rm_size H8.out];decide) | (rw [rm_size (H8b _ _).out];decide));clear S;intro wz S;simp only [set_cons_succ,set_cons_zero] at S;rw [mach_put H8.out ha] at S) | ((with_reducible refine tot_done ?ht ?_);(case ht=>kernel_rfl)) | ((with_reducible apply wps_text S);(case hm=>kernel_rfl);(case hB=>decide +kernel);clear S;intro wz S) | ((with_reducible apply wps_load S 0);(case hx|hi|hu=>rfl);(case hT=>decide +kernel))
   go_end0
   exact ⟨vs,rfl,S.pick [1,2] rfl⟩
 · skip
   rw [show doE e fan m ⟨11,na,b,c,d⟩ = m.put na (e.kind) by simp [doE]]
   go_enter Tryz.func126,Tryz.ntmps126
   go_wp2_with first | ((with_reducible apply wps_boxa S);(case hx=>rfl);clear S;intro bx wz S) | ((with_reducible apply wps_load S 1 (hu:=mach_ev (q:=5) (by decide) rfl));(case hx|hi=>rfl);(case hT=>decide +kernel)) | ((with_reducible apply wps_store S 1 (n:=(8+na)) (u:=.int .i64 (e.kind)));(case hx|hy|hi|h1=>rfl);(case hT=>decide +kernel);(case hn=>first | omega | (rw [mach_size H8.out];omega) | (rw [mach_size H8.out];decide) | (rw [rm_size H8.out];omega) | (rw [rm_size H8.out];decide) | (rw [rm_size (H8b _ _).out];decide));clear S;intro wz S;simp only [set_cons_succ,set_cons_zero] at S;rw [mach_put H8.out ha] at S) | ((with_reducible refine tot_done ?ht ?_);(case ht=>kernel_rfl)) | ((with_reducible apply wps_text S);(case hm=>kernel_rfl);(case hB=>decide +kernel);clear S;intro wz S) | ((with_reducible apply wps_load S 0);(case hx|hi|hu=>rfl);(case hT=>decide +kernel))
   go_end0
   exact ⟨vs,rfl,S.pick [1,2] rfl⟩
 · skip
   rw [show doE e fan m ⟨12,na,b,c,d⟩ = m.put na (e.data) by simp [doE]]
   go_enter Tryz.func126,Tryz.ntmps126
   go_wp2_with first | ((with_reducible apply wps_boxa S);(case hx=>rfl);clear S;intro bx wz S) | ((with_reducible apply wps_load S 1 (hu:=mach_ev (q:=6) (by decide) rfl));(case hx|hi=>rfl);(case hT=>decide +kernel)) | ((with_reducible apply wps_store S 1 (n:=(8+na)) (u:=.int .i64 (e.data)));(case hx|hy|hi|h1=>rfl);(case hT=>decide +kernel);(case hn=>first | omega | (rw [mach_size H8.out];omega) | (rw [mach_size H8.out];decide) | (rw [rm_size H8.out];omega) | (rw [rm_size H8.out];decide) | (rw [rm_size (H8b _ _).out];decide));clear S;intro wz S;simp only [set_cons_succ,set_cons_zero] at S;rw [mach_put H8.out ha] at S) | ((with_reducible refine tot_done ?ht ?_);(case ht=>kernel_rfl)) | ((with_reducible apply wps_text S);(case hm=>kernel_rfl);(case hB=>decide +kernel);clear S;intro wz S) | ((with_reducible apply wps_load S 0);(case hx|hi|hu=>rfl);(case hT=>decide +kernel))
   go_end0
   exact ⟨vs,rfl,S.pick [1,2] rfl⟩
 · skip
   rw [show doE e fan m ⟨13,na,b,c,d⟩ = m.put na (e.dst) by simp [doE]]
   go_enter Tryz.func126,Tryz.ntmps126
   go_wp2_with first | ((with_reducible apply wps_boxa S);(case hx=>rfl);clear S;intro bx wz S) | ((with_reducible apply wps_load S 1 (hu:=mach_ev (q:=4) (by decide) rfl));(case hx|hi=>rfl);(case hT=>decide +kernel)) | ((with_reducible apply wps_store S 1 (n:=(8+na)) (u:=.int .i64 (e.dst)));(case hx|hy|hi|h1=>rfl);(case hT=>decide +kernel);(case hn=>first | omega | (rw [mach_size H8.out];omega) | (rw [mach_size H8.out];decide) | (rw [rm_size H8.out];omega) | (rw [rm_size H8.out];decide) | (rw [rm_size (H8b _ _).out];decide));clear S;intro wz S;simp only [set_cons_succ,set_cons_zero] at S;rw [mach_put H8.out ha] at S) | ((with_reducible refine tot_done ?ht ?_);(case ht=>kernel_rfl)) | ((with_reducible apply wps_text S);(case hm=>kernel_rfl);(case hB=>decide +kernel);clear S;intro wz S) | ((with_reducible apply wps_load S 0);(case hx|hi|hu=>rfl);(case hT=>decide +kernel))
   go_end0
   exact ⟨vs,rfl,S.pick [1,2] rfl⟩
 · skip
   obtain ⟨ad,cap,rfl⟩ : ∃ ad cap,vs = .slice ad m.sent.length cap:=by
    obtain ⟨F1,hF1⟩:=S.get (i:=1) rfl
    exact hF1.1.form
   by_cases h0 : (m.sent.length : Int) < fan
   · rw [show doE e fan m ⟨14,na,nb,nc,d⟩ = { m with sent:=m.sent ++ [⟨m.get na,m.get nb,d,m.get nc⟩] } by simp [doE,h0]]
     go_enter Tryz.func126,Tryz.ntmps126
     go_wp2_with first | ((with_reducible apply wps_boxa S);(case hx=>rfl);clear S;intro bx wz S) | ((with_reducible apply wps_load S 1 (hu:=mach_sent H8.out));(case hx|hi=>rfl);(case hT=>decide +kernel)) | ((with_reducible apply wps_load S 1 (hu:=mach_fan H8.out));(case hx|hi=>rfl);(case hT=>decide +kernel)) | ((with_reducible apply wps_load S 1 (hu:=mach_cell H8.out ha));(case hx|hi=>rfl);(case hT=>decide +kernel)) | ((with_reducible apply wps_load S 1 (hu:=mach_cell H8.out hb));(case hx|hi=>rfl);(case hT=>decide +kernel)) | ((with_reducible apply wps_load S 1 (hu:=mach_cell H8.out hc));(case hx|hi=>rfl);(case hT=>decide +kernel)) | ((with_reducible apply wps_build1a (T:=173) (E:=177) S);(case hx=>rfl);(case hr=>intro w;kernel_rfl);clear S;intro bzn wz S) | ((with_reducible apply wps_append1 elem_Em emcells emone (by decide) S 3 (j:=0) (e:=(⟨m.get na,m.get nb,d,m.get nc⟩:Emit)));(case hx|hy|hi|hj|he=>rfl);(case hl=>first | omega | (simp;omega));clear S;intro azn nzn czn wz hnzn S;simp only [set_cons_succ,set_cons_zero] at S) | ((with_reducible apply wps_store S 2 (n:=18) (u:=.slice azn nzn czn));(case hx|hy|hi|h1=>rfl);(case hT=>decide +kernel);(case hn=>first | omega | (rw [mach_size H8.out];omega) | (rw [mach_size H8.out];decide) | (rw [rm_size H8.out];omega) | (rw [rm_size H8.out];decide) | (rw [rm_size (H8b _ _).out];decide));clear S;intro wz S;simp only [set_cons_succ,set_cons_zero] at S;rw [mach_setsent H8.out _ (m.sent ++ [⟨m.get na,m.get nb,d,m.get nc⟩])] at S) | ((with_reducible refine tot_done ?ht ?_);(case ht=>kernel_rfl)) | ((with_reducible apply wps_text S);(case hm=>kernel_rfl);(case hB=>decide +kernel);clear S;intro wz S) | ((with_reducible apply wps_load S 0);(case hx|hi|hu=>rfl);(case hT=>decide +kernel))
     go_end0
     exact ⟨_,rfl,S.pick [2,3] rfl⟩
   · rw [show doE e fan m ⟨14,na,nb,nc,d⟩ = m by simp [doE,h0]]
     go_enter Tryz.func126,Tryz.ntmps126
     go_wp2_with first | ((with_reducible apply wps_boxa S);(case hx=>rfl);clear S;intro bx wz S) | ((with_reducible apply wps_load S 1 (hu:=mach_sent H8.out));(case hx|hi=>rfl);(case hT=>decide +kernel)) | ((with_reducible apply wps_load S 1 (hu:=mach_fan H8.out));(case hx|hi=>rfl);(case hT=>decide +kernel)) | ((with_reducible refine tot_done ?ht ?_);(case ht=>kernel_rfl)) | ((with_reducible apply wps_text S);(case hm=>kernel_rfl);(case hB=>decide +kernel);clear S;intro wz S) | ((with_reducible apply wps_load S 0);(case hx|hi|hu=>rfl);(case hT=>decide +kernel))
     go_end0
     exact ⟨_,rfl,S.pick [1,2] rfl⟩
 · skip
   rw [show doE e fan m ⟨15,a,b,c,d⟩ = m by simp [doE]]
   go_enter Tryz.func126,Tryz.ntmps126
   go_wp2_with first | ((with_reducible apply wps_boxa S);(case hx=>rfl);clear S;intro bx wz S) | ((with_reducible apply wps_load S 0);(case hx|hi|hu=>rfl);(case hT=>decide +kernel))
   go_end0
   exact ⟨vs,rfl,S.pick [1,2] rfl⟩
end Go.Proofs.YtcnfionnnpnplaaGreatDoor
