import Derived.Test.YtmjljoaakdocaaaGreatDoorY04
/- The walks of code.is, numbers, fits, May and Check. -/
set_option maxHeartbeats 16000000
set_option maxRecDepth 100000
namespace Go.Proofs.YtmjljoaakdocaaaGreatDoor
open Go Go.RowKit Reg Mem
open List (set_cons_succ set_cons_zero setIfInBounds_toArray cons_append nil_append)
def Tab : Asn:=Sl true About.cells 6 (.slice (some ⟨1,0,none⟩) 16 16) table
theorem is_calls (op : Int) (w : World) : Calls Tryz.prog 232 #[.int .i64 op] w fun r w'=>r = .returned (.bool (isOp op)) ∧ Below w.heap.size w w':=by
 have S:=St.init (fun _=>False) w
 by_cases h1 : 1 ≤ op
 · go_enter Tryz.func232,Tryz.ntmps232
   go_wp2_with first | ((with_reducible refine tot_done ?ht ?_);(case ht=>kernel_rfl))
   go_ret
   exact ⟨ret_bool (by simp [isOp,h1]),S.below⟩
 · go_enter Tryz.func232,Tryz.ntmps232
   go_wp2_with first | ((with_reducible refine tot_done ?ht ?_);(case ht=>kernel_rfl))
   go_ret
   exact ⟨ret_bool (by simp [isOp];omega),S.below⟩
theorem numbers_calls (x : Instr) (w : World) : Calls Tryz.prog 233 #[.agg #[.int .i64 x.op,.int .i64 x.a,.int .i64 x.b,.int .i64 x.c,.int .i64 x.d]] w fun r w'=>r = .returned (.agg #[.int .i64 x.a,.int .i64 x.b,.int .i64 x.c,.int .i64 x.d]) ∧ Below w.heap.size w w':=by
 have S:=St.init (fun _=>False) w
 go_enter Tryz.func233,Tryz.ntmps233
 go_wp2_with first | ((with_reducible apply wps_storea (T:=140) S 0 (vs:=[.int .i64 x.a,.int .i64 x.b,.int .i64 x.c,.int .i64 x.d]) (m:=4));(case hx|hy|hi|hm|h1=>rfl);(case hn=>exact nle rfl);(case hT=>decide +kernel);clear S;intro wz S;simp only [set_cons_zero,set_cons_succ,setAll,setIfInBounds_toArray] at S) | ((with_reducible apply wps_boxa S);(case hx=>rfl);clear S;intro bz wz S) | ((with_reducible apply wps_alloca (E:=140) S);(case hz=>exact Tryz.zeroValue140);clear S;intro bz wz S) | ((with_reducible apply wps_load S 1);(case hx|hi|hu=>rfl);(case hT=>decide +kernel))
 (try simp only [Exit.inBlock,Exit.then]);(with_reducible apply S.ret_cell 0);(case hi|h|hp=>rfl);(case hA=>kernel_rfl);(case hd=>rfl)
 exact ⟨rfl,S.below⟩
theorem fits_calls (asked n many : Int) (w : World) : Calls Tryz.prog 234 #[.int .i64 asked,.int .i64 n,.int .i64 many] w fun r w'=>r = .returned (.bool (fitsN asked n many)) ∧ Below w.heap.size w w':=by
 have S:=St.init (fun _=>False) w
 by_cases a1 : asked = 1
 · subst a1
   by_cases h1 : 0 ≤ n
   · go_enter Tryz.func234,Tryz.ntmps234
     go_wp2_with first | ((with_reducible refine tot_done ?ht ?_);(case ht=>kernel_rfl))
     go_ret
     exact ⟨ret_bool (by simp [fitsN,h1]),S.below⟩
   · go_enter Tryz.func234,Tryz.ntmps234
     go_wp2_with first | ((with_reducible refine tot_done ?ht ?_);(case ht=>kernel_rfl))
     go_ret
     exact ⟨ret_bool (by simp [fitsN];omega),S.below⟩
 by_cases a2 : asked = 2
 · subst a2
   go_enter Tryz.func234,Tryz.ntmps234
   go_wp2_with first | ((with_reducible refine tot_done ?ht ?_);(case ht=>kernel_rfl))
   go_ret
   exact ⟨ret_bool (by simp [fitsN]),S.below⟩
 by_cases a3 : asked = 3
 · subst a3
   by_cases h1 : 0 ≤ n
   · go_enter Tryz.func234,Tryz.ntmps234
     go_wp2_with first | ((with_reducible refine tot_done ?ht ?_);(case ht=>kernel_rfl))
     go_ret
     exact ⟨ret_bool (by simp [fitsN,h1]),S.below⟩
   · go_enter Tryz.func234,Tryz.ntmps234
     go_wp2_with first | ((with_reducible refine tot_done ?ht ?_);(case ht=>kernel_rfl))
     go_ret
     exact ⟨ret_bool (by simp [fitsN];omega),S.below⟩
 by_cases a4 : asked = 4
 · subst a4
   by_cases h1 : 0 ≤ n
   · go_enter Tryz.func234,Tryz.ntmps234
     go_wp2_with first | ((with_reducible refine tot_done ?ht ?_);(case ht=>kernel_rfl))
     go_ret
     exact ⟨ret_bool (by simp [fitsN,h1]),S.below⟩
   · go_enter Tryz.func234,Tryz.ntmps234
     go_wp2_with first | ((with_reducible refine tot_done ?ht ?_);(case ht=>kernel_rfl))
     go_ret
     exact ⟨ret_bool (by simp [fitsN];omega),S.below⟩
 go_enter Tryz.func234,Tryz.ntmps234
 go_wp2_with first | ((with_reducible refine tot_done ?ht ?_);(case ht=>kernel_rfl))
 go_ret
 exact ⟨ret_bool (by simp [fitsN,a1,a2,a3,a4];rw [Bool.eq_iff_iff];simp),S.below⟩
theorem may_form {x : Instr} {many : Int} (h : isOp x.op = false) : mayE x many = 15:=by simp [mayE,h]
theorem may_eq {x : Instr} {many : Int} {t : About} (h : isOp x.op = true) (ht : table[x.op.toNat]? = some t) : mayE x many = if fitsN t.num.n0 x.a many && fitsN t.num.n1 x.b many && fitsN t.num.n2 x.c many && fitsN t.num.n3 x.d many then 0 else 10:=by simp [mayE,h,ht]
def MayRel (x : Instr) (t : About) (many : Int) (n : Int) (w : World) (bz b2 : Nat) (i : Value) (wr : World) : Prop:=
 (i = .int .i64 0 ∨ (i = .int .i64 1 ∧ Hid (fitsN t.num.n0 x.a many = true)) ∨ (i = .int .i64 2 ∧ Hid (fitsN t.num.n0 x.a many = true ∧ fitsN t.num.n1 x.b many = true)) ∨ (i = .int .i64 3 ∧ Hid (fitsN t.num.n0 x.a many = true ∧ fitsN t.num.n1 x.b many = true ∧ fitsN t.num.n2 x.c many = true)) ∨
   (i = .int .i64 4 ∧ Hid (fitsN t.num.n0 x.a many = true ∧ fitsN t.num.n1 x.b many = true ∧ fitsN t.num.n2 x.c many = true ∧ fitsN t.num.n3 x.d many = true))) ∧
 St (fun _=>False) w wr [Blk false b2 #[.int .i64 t.num.n0,.int .i64 t.num.n1,.int .i64 t.num.n2,.int .i64 t.num.n3] 140,Blk false bz #[.int .i64 n,.int .i64 x.a,.int .i64 x.b,.int .i64 x.c,.int .i64 x.d] 160,Sl true About.cells 6 (.slice (some ⟨1,0,none⟩) 16 16) table]
theorem may_calls (x : Instr) (many : Int) (w : World) (F : Nat → Prop) (h : Tab.at_ w F) : Calls Tryz.prog 188 #[.agg #[.int .i64 x.op,.int .i64 x.a,.int .i64 x.b,.int .i64 x.c,.int .i64 x.d],.int .i64 many] w fun r w'=>r = .returned (.int .i64 (mayE x many)) ∧ Below w.heap.size w w':=by
 have S : St (fun _=>False) w w [Tab]:=(St.init _ w).share rfl rfl h
 clear h
 by_cases h1 : isOp x.op = true
 · have h2 : 1 ≤ x.op ∧ x.op ≤ 15:=by simpa [isOp] using h1
   obtain ⟨n,hn⟩ : ∃ n : Nat,x.op = n:=⟨x.op.toNat,by omega⟩
   have hlt : n < 16:=by omega
   obtain ⟨t,ht⟩ : ∃ t,table[n]? = some t:=⟨_,List.getElem?_eq_getElem (by rw [table_len];exact hlt)⟩
   have HE:=Lib.hid (may_eq (many:=many) h1 (show table[x.op.toNat]? = some t by rw [hn];exact ht))
   have HI : Hid (∀ w,Calls Tryz.prog 232 #[.int .i64 (n : Int)] w fun r w'=>r = .returned (.bool true) ∧ Below w.heap.size w w'):=fun w=>by
    have:=is_calls n w;rwa [← hn,h1,hn] at this
   have HN : Hid (∀ w,Calls Tryz.prog 233 #[.agg #[.int .i64 (n : Int),.int .i64 x.a,.int .i64 x.b,.int .i64 x.c,.int .i64 x.d]] w fun r w'=>r = .returned (.agg #[.int .i64 x.a,.int .i64 x.b,.int .i64 x.c,.int .i64 x.d]) ∧ Below w.heap.size w w'):=fun w=>by
    have:=numbers_calls x w;rwa [hn] at this
   rw [hn]
   have hn1 : (n : Int) < 16:=by omega
   have hn0 : (0 : Int) ≤ n:=by omega
   have Ht:=Lib.hid ht
   clear ht
   clear h1 h2
   unfold Tab at S
   go_enter Tryz.func188,Tryz.ntmps188
   go_wp2_with first | ((with_reducible apply wps_boxa S);(case hx=>rfl);clear S;intro bx wz S) | (go_at_call 232;refine Calls.mono (HI.out _) ?_;rintro e wz ⟨rfl,hE⟩;replace S:=S.ext (Keep.of_below hE);clear hE) | (go_at_call 233;refine Calls.mono (HN.out _) ?_;rintro e wz ⟨rfl,hE⟩;replace S:=S.ext (Keep.of_below hE);clear hE) | ((with_reducible apply wps_loada_el S 1 (hj:=Ht.out) (q:=2) (vs:=[.int .i64 t.num.n0,.int .i64 t.num.n1,.int .i64 t.num.n2,.int .i64 t.num.n3]) (m:=4));(case hx|hi=>rfl);(case hn=>omega);(case hm|hv=>rfl);(case hT=>decide +kernel)) | ((with_reducible apply wps_storea (T:=140) S 0 (vs:=[.int .i64 t.num.n0,.int .i64 t.num.n1,.int .i64 t.num.n2,.int .i64 t.num.n3]) (m:=4));(case hx|hy|hi|hm|h1=>rfl);(case hn=>exact nle rfl);(case hT=>decide +kernel);clear S;intro wz S;simp only [set_cons_zero,set_cons_succ,setAll,setIfInBounds_toArray] at S) | ((with_reducible apply wps_alloca (E:=140) S);(case hz=>exact Tryz.zeroValue140);clear S;intro bz wz S) | ((with_reducible apply wps_load S 0);(case hx|hi|hu=>rfl);(case hT=>decide +kernel)) | ((with_reducible apply wps_loada (T:=160) (k:=5) S 1);(case hx|hi=>rfl);(case hk=>exact nle rfl);(case hT=>decide +kernel))
   go_loopw [19] (fun i wr=>MayRel x t many n w bx bz i wr) (fun i _=>5 - (intOf i).toNat)
   case atStart=>exact ⟨.inl rfl,S⟩
   case round=>
    clear S
    obtain ⟨hi,S⟩:=hrel
    rcases hi with rfl | ⟨rfl,hh⟩ | ⟨rfl,hh⟩ | ⟨rfl,hh⟩ | ⟨rfl,hh⟩
    · have hc:=fits_calls t.num.n0 x.a many
      cases hf : fitsN t.num.n0 x.a many with
      | true=>
        rw [hf] at hc
        have Hc:=Lib.hid hc
        clear hc
        have HF:=Lib.hid hf
        clear hf
        go_wp2_with first | ((with_reducible apply wps_index (j:=0) (v:=(.int .i64 x.a)));(case hx|hy=>rfl);(case hT=>exact Tryz.underlying140);(case hj=>first | decide | omega);(case hv=>rfl);(case he=>decide +kernel)) | (go_at_call 234;refine Calls.mono (Hc.out _) ?_;rintro e wz ⟨rfl,hE⟩;replace S:=S.ext (Keep.of_below hE);clear hE) | ((with_reducible apply wps_load S 0);(case hx|hi|hu=>rfl);(case hT=>decide +kernel))
        go_roundw
        case rel=>exact ⟨.inr (.inl ⟨by go_num,HF⟩),S⟩
        case measure=>simp [intOf]
      | false=>
        rw [hf] at hc
        have Hc:=Lib.hid hc
        clear hc
        have HF:=Lib.hid hf
        clear hf
        go_wp2_with first | ((with_reducible apply wps_index (j:=0) (v:=(.int .i64 x.a)));(case hx|hy=>rfl);(case hT=>exact Tryz.underlying140);(case hj=>first | decide | omega);(case hv=>rfl);(case he=>decide +kernel)) | (go_at_call 234;refine Calls.mono (Hc.out _) ?_;rintro e wz ⟨rfl,hE⟩;replace S:=S.ext (Keep.of_below hE);clear hE) | ((with_reducible apply wps_load S 0);(case hx|hi|hu=>rfl);(case hT=>decide +kernel))
        go_ret
        exact ⟨ret_int (by rw [HE.out,HF.out];simp),S.below⟩
    · have hc:=fits_calls t.num.n1 x.b many
      cases hf : fitsN t.num.n1 x.b many with
      | true=>
        rw [hf] at hc
        have Hc:=Lib.hid hc
        clear hc
        have HF:=Lib.hid hf
        clear hf
        go_wp2_with first | ((with_reducible apply wps_index (j:=1) (v:=(.int .i64 x.b)));(case hx|hy=>rfl);(case hT=>exact Tryz.underlying140);(case hj=>first | decide | omega);(case hv=>rfl);(case he=>decide +kernel)) | (go_at_call 234;refine Calls.mono (Hc.out _) ?_;rintro e wz ⟨rfl,hE⟩;replace S:=S.ext (Keep.of_below hE);clear hE) | ((with_reducible apply wps_load S 0);(case hx|hi|hu=>rfl);(case hT=>decide +kernel))
        go_roundw
        case rel=>exact ⟨.inr (.inr (.inl ⟨by go_num,hh.out,HF.out⟩)),S⟩
        case measure=>simp [intOf]
      | false=>
        rw [hf] at hc
        have Hc:=Lib.hid hc
        clear hc
        have HF:=Lib.hid hf
        clear hf
        go_wp2_with first | ((with_reducible apply wps_index (j:=1) (v:=(.int .i64 x.b)));(case hx|hy=>rfl);(case hT=>exact Tryz.underlying140);(case hj=>first | decide | omega);(case hv=>rfl);(case he=>decide +kernel)) | (go_at_call 234;refine Calls.mono (Hc.out _) ?_;rintro e wz ⟨rfl,hE⟩;replace S:=S.ext (Keep.of_below hE);clear hE) | ((with_reducible apply wps_load S 0);(case hx|hi|hu=>rfl);(case hT=>decide +kernel))
        go_ret
        exact ⟨ret_int (by rw [HE.out,HF.out];simp),S.below⟩
    · have hc:=fits_calls t.num.n2 x.c many
      cases hf : fitsN t.num.n2 x.c many with
      | true=>
        rw [hf] at hc
        have Hc:=Lib.hid hc
        clear hc
        have HF:=Lib.hid hf
        clear hf
        go_wp2_with first | ((with_reducible apply wps_index (j:=2) (v:=(.int .i64 x.c)));(case hx|hy=>rfl);(case hT=>exact Tryz.underlying140);(case hj=>first | decide | omega);(case hv=>rfl);(case he=>decide +kernel)) | (go_at_call 234;refine Calls.mono (Hc.out _) ?_;rintro e wz ⟨rfl,hE⟩;replace S:=S.ext (Keep.of_below hE);clear hE) | ((with_reducible apply wps_load S 0);(case hx|hi|hu=>rfl);(case hT=>decide +kernel))
        go_roundw
        case rel=>exact ⟨.inr (.inr (.inr (.inl ⟨by go_num,hh.out.1,hh.out.2,HF.out⟩))),S⟩
        case measure=>simp [intOf]
      | false=>
        rw [hf] at hc
        have Hc:=Lib.hid hc
        clear hc
        have HF:=Lib.hid hf
        clear hf
        go_wp2_with first | ((with_reducible apply wps_index (j:=2) (v:=(.int .i64 x.c)));(case hx|hy=>rfl);(case hT=>exact Tryz.underlying140);(case hj=>first | decide | omega);(case hv=>rfl);(case he=>decide +kernel)) | (go_at_call 234;refine Calls.mono (Hc.out _) ?_;rintro e wz ⟨rfl,hE⟩;replace S:=S.ext (Keep.of_below hE);clear hE) | ((with_reducible apply wps_load S 0);(case hx|hi|hu=>rfl);(case hT=>decide +kernel))
        go_ret
        exact ⟨ret_int (by rw [HE.out,HF.out];simp),S.below⟩
    · have hc:=fits_calls t.num.n3 x.d many
      cases hf : fitsN t.num.n3 x.d many with
      | true=>
        rw [hf] at hc
        have Hc:=Lib.hid hc
        clear hc
        have HF:=Lib.hid hf
        clear hf
        go_wp2_with first | ((with_reducible apply wps_index (j:=3) (v:=(.int .i64 x.d)));(case hx|hy=>rfl);(case hT=>exact Tryz.underlying140);(case hj=>first | decide | omega);(case hv=>rfl);(case he=>decide +kernel)) | (go_at_call 234;refine Calls.mono (Hc.out _) ?_;rintro e wz ⟨rfl,hE⟩;replace S:=S.ext (Keep.of_below hE);clear hE) | ((with_reducible apply wps_load S 0);(case hx|hi|hu=>rfl);(case hT=>decide +kernel))
        go_roundw
        case rel=>exact ⟨.inr (.inr (.inr (.inr ⟨by go_num,hh.out.1,hh.out.2.1,hh.out.2.2,HF.out⟩))),S⟩
        case measure=>simp [intOf]
      | false=>
        rw [hf] at hc
        have Hc:=Lib.hid hc
        clear hc
        have HF:=Lib.hid hf
        clear hf
        go_wp2_with first | ((with_reducible apply wps_index (j:=3) (v:=(.int .i64 x.d)));(case hx|hy=>rfl);(case hT=>exact Tryz.underlying140);(case hj=>first | decide | omega);(case hv=>rfl);(case he=>decide +kernel)) | (go_at_call 234;refine Calls.mono (Hc.out _) ?_;rintro e wz ⟨rfl,hE⟩;replace S:=S.ext (Keep.of_below hE);clear hE) | ((with_reducible apply wps_load S 0);(case hx|hi|hu=>rfl);(case hT=>decide +kernel))
        go_ret
        exact ⟨ret_int (by rw [HE.out,HF.out];simp),S.below⟩
    · go_wp2_with first | ((with_reducible apply wps_loada (T:=160) (k:=5) S 1);(case hx|hi=>rfl);(case hk=>exact nle rfl);(case hT=>decide +kernel))
      go_ret
      exact ⟨ret_int (by rw [HE.out,hh.out.1,hh.out.2.1,hh.out.2.2.1,hh.out.2.2.2];simp),S.below⟩
 · have h2 : isOp x.op = false:=by simpa using h1
   have HI : Hid (∀ w,Calls Tryz.prog 232 #[.int .i64 x.op] w fun r w'=>r = .returned (.bool false) ∧ Below w.heap.size w w'):=fun w=>by
    have:=is_calls x.op w;rwa [h2] at this
   have HE:=Lib.hid (may_form (many:=many) h2)
   clear h1 h2
   go_enter Tryz.func188,Tryz.ntmps188
   go_wp2_with first | (go_at_call 232;refine Calls.mono (HI.out _) ?_;rintro e wz ⟨rfl,hE⟩;replace S:=S.ext (Keep.of_below hE);clear hE) | ((with_reducible apply wps_boxa S);(case hx=>rfl);clear S;intro bz wz S) | ((with_reducible apply wps_load S 0);(case hx|hi|hu=>rfl);(case hT=>decide +kernel))
   go_ret
   exact ⟨ret_int HE.out.symm,S.below⟩
def CodeRel (v : Value) (p : List Instr) (w : World) (i : Value) (wr : World) : Prop:=
 ∃ j : Nat,j ≤ p.length ∧ i = .int .i64 j ∧ Hid (∀ (q : Nat) y,q < j → p[q]? = some y → mayE y p.length = 0) ∧ St (fun _=>False) w wr [Sl true Instr.cells 5 v p,Tab]
theorem whereE_at {l : List Int} {j : Nat} {x : Int} (h : ∀ (q : Nat) y,q < j → l[q]? = some y → y = 0) (hj : l[j]? = some x) (hx : x ≠ 0) (i : Int) : whereE l i = i + j + 1:=by
 induction l generalizing j i with
 | nil=>simp at hj
 | cons a l ih=>
   cases j with
   | zero=>simp at hj;subst hj;simp [whereE,hx]
   | succ j=>
     have h0:=h 0 a (by omega) rfl
     subst h0
     simp only [whereE,if_true]
     rw [ih (j:=j) (fun q y hq hy=>h (q + 1) y (Nat.succ_lt_succ hq) (by simpa using hy)) (by simpa using hj)]
     omega
theorem firstE_at {l : List Int} {j : Nat} {x : Int} (h : ∀ (q : Nat) y,q < j → l[q]? = some y → y = 0) (hj : l[j]? = some x) (hx : x ≠ 0) : firstE l = x:=by
 induction l generalizing j with
 | nil=>simp at hj
 | cons a l ih=>
   cases j with
   | zero=>simp at hj;subst hj;simp [firstE,hx]
   | succ j=>
     have h0:=h 0 a (by omega) rfl
     subst h0
     simp only [firstE,if_true]
     exact ih (j:=j) (fun q y hq hy=>h (q + 1) y (Nat.succ_lt_succ hq) (by simpa using hy)) (by simpa using hj)
theorem firstE_none {l : List Int} (h : ∀ (q : Nat) y,l[q]? = some y → y = 0) : firstE l = 0:=by
 rw [firstE_zero];intro x hx
 obtain ⟨q,hq,rfl⟩:=List.mem_iff_getElem.1 hx
 exact h q _ (List.getElem?_eq_getElem hq)
theorem whereE_none {l : List Int} {i : Int} (h : ∀ x ∈ l,x = 0) : whereE l i = 0:=by
 induction l generalizing i with
 | nil=>rfl
 | cons a l ih=>simp only [whereE,h a (by simp),if_true];exact ih fun x hx=>h x (by simp [hx])
theorem code_calls (v : Value) (p : List Instr) (w : World) (F F2 : Nat → Prop) (h : (Sl true Instr.cells 5 v p).at_ w F) (ht : Tab.at_ w F2) : Calls Tryz.prog 149 #[v] w fun r w'=>r = .returned (.tuple #[.int .i64 (codeAt p),.int .i64 (codeE p)]) ∧ Below w.heap.size w w':=by
 have S : St (fun _=>False) w w [Sl true Instr.cells 5 v p,Tab]:=((St.init _ w).share rfl rfl ht).share rfl rfl h
 obtain ⟨ad,cp,rfl,_⟩:=(S.sl 0 rfl).elim fun _ h=>h.form
 clear h ht
 by_cases g1 : (64 : Int) < p.length
 · have HE : Hid (codeAt p = 0 ∧ codeE p = 11):=⟨by unfold codeAt;rw [if_pos (by omega)],by unfold codeE;rw [if_pos (by omega)]⟩
   go_enter Tryz.func149,Tryz.ntmps149
   go_wp2_with first | ((with_reducible apply wps_loada (T:=160) (k:=5) S 0);(case hx|hi=>rfl);(case hk=>exact nle rfl);(case hT=>decide +kernel))
   go_ret2
   exact ⟨by simp [HE.out.1,HE.out.2],S.below⟩
 · have HE : Hid (codeAt p = whereE (p.map (mayE · p.length)) 0 ∧ codeE p = firstE (p.map (mayE · p.length))):=⟨by unfold codeAt;rw [if_neg (by omega)],by unfold codeE;rw [if_neg (by omega)]⟩
   go_enter Tryz.func149,Tryz.ntmps149
   go_wp2_with first | ((with_reducible apply wps_loada (T:=160) (k:=5) S 0);(case hx|hi=>rfl);(case hk=>exact nle rfl);(case hT=>decide +kernel))
   go_loopw [12] (fun i wr=>CodeRel (.slice ad p.length cp) p w i wr) (fun i _=>p.length - (intOf i).toNat)
   case atStart=>exact ⟨0,Nat.zero_le _,rfl,fun q y h=>by omega,S⟩
   case round=>
    clear S
    obtain ⟨j,hj,rfl,Hz,S⟩:=hrel
    by_cases hlt : j < p.length
    · obtain ⟨x,hx⟩ : ∃ x,p[j]? = some x:=⟨_,List.getElem?_eq_getElem hlt⟩
      obtain ⟨R,o,rfl⟩ : ∃ R o,ad = some ⟨R,o,none⟩:=(S.sl 0 rfl).elim fun F h=>h.head (by omega)
      have hlt2 : (j : Int) < p.length:=by omega
      have hc:=may_calls x p.length
      obtain ⟨m,hm⟩ : ∃ m,mayE x p.length = m:=⟨_,rfl⟩
      rw [hm] at hc
      have Hx:=Lib.hid hx
      have Hm:=Lib.hid hm
      have Hc:=Lib.hid hc
      clear hx hm hc
      by_cases h0 : m = 0
      · subst h0
        go_wp2_with first | ((with_reducible apply wps_loada_el S 0 (hj:=Hx.out) (q:=0) (vs:=[.int .i64 x.op,.int .i64 x.a,.int .i64 x.b,.int .i64 x.c,.int .i64 x.d]) (m:=5));(case hx|hi=>rfl);(case hn=>omega);(case hm|hv=>rfl);(case hT=>decide +kernel)) | ((with_reducible apply wps_storea (T:=160) S 0 (vs:=[.int .i64 x.op,.int .i64 x.a,.int .i64 x.b,.int .i64 x.c,.int .i64 x.d]) (m:=5));(case hx|hy|hi|hm|h1=>rfl);(case hn=>exact nle rfl);(case hT=>decide +kernel);clear S;intro wz S;simp only [set_cons_zero,set_cons_succ,setAll,setIfInBounds_toArray] at S) | (go_at_call 188;refine Calls.mono (Hc.out _ _ (S.get (i:=2) rfl).choose_spec) ?_;rintro e wz ⟨rfl,hE⟩;replace S:=S.ext (Keep.of_below hE);clear hE) | ((with_reducible apply wps_alloca (E:=160) S);(case hz=>exact Tryz.zeroValue160);clear S;intro bz wz S) | ((with_reducible apply wps_loada (T:=160) (k:=5) S 0);(case hx|hi=>rfl);(case hk=>exact nle rfl);(case hT=>decide +kernel))
        go_roundw
        case rel=>
         refine ⟨j + 1,by omega,by go_num,fun q y hq hy=>?_,S.pick [1,2] rfl⟩
         by_cases e : q = j
         · subst e;rw [Hx.out] at hy;cases hy;exact Hm.out
         · exact Hz.out q y (by omega) hy
        case measure=>first | (simp [intOf];done) | (simp [intOf];omega)
      · have h1 : (m != 0) = true:=by simpa using h0
        have H0:=Lib.hid h0
        clear h0
        go_wp2_with first | ((with_reducible apply wps_loada_el S 0 (hj:=Hx.out) (q:=0) (vs:=[.int .i64 x.op,.int .i64 x.a,.int .i64 x.b,.int .i64 x.c,.int .i64 x.d]) (m:=5));(case hx|hi=>rfl);(case hn=>omega);(case hm|hv=>rfl);(case hT=>decide +kernel)) | ((with_reducible apply wps_storea (T:=160) S 0 (vs:=[.int .i64 x.op,.int .i64 x.a,.int .i64 x.b,.int .i64 x.c,.int .i64 x.d]) (m:=5));(case hx|hy|hi|hm|h1=>rfl);(case hn=>exact nle rfl);(case hT=>decide +kernel);clear S;intro wz S;simp only [set_cons_zero,set_cons_succ,setAll,setIfInBounds_toArray] at S) | (go_at_call 188;refine Calls.mono (Hc.out _ _ (S.get (i:=2) rfl).choose_spec) ?_;rintro e wz ⟨rfl,hE⟩;replace S:=S.ext (Keep.of_below hE);clear hE) | ((with_reducible apply wps_alloca (E:=160) S);(case hz=>exact Tryz.zeroValue160);clear S;intro bz wz S) | ((with_reducible apply wps_loada (T:=160) (k:=5) S 0);(case hx|hi=>rfl);(case hk=>exact nle rfl);(case hT=>decide +kernel))
        go_ret2
        have hz : ∀ (q : Nat) y,q < j → (p.map (mayE · p.length))[q]? = some y → y = 0:=fun q y hq hy=>by
         rw [List.getElem?_map] at hy
         cases hp : p[q]? with
         | none=>rw [hp] at hy;cases hy
         | some z=>rw [hp] at hy;simp at hy;subst hy;exact Hz.out q z hq hp
        have hx : (p.map (mayE · p.length))[j]? = some m:=by rw [List.getElem?_map,Hx.out];simp [Hm.out]
        refine ⟨?_,S.below⟩
        rw [HE.out.1,HE.out.2,whereE_at hz hx H0.out,firstE_at hz hx H0.out]
        simp
    · obtain rfl : j = p.length:=by omega
      go_wp2_with first | ((with_reducible apply wps_loada (T:=160) (k:=5) S 0);(case hx|hi=>rfl);(case hk=>exact nle rfl);(case hT=>decide +kernel))
      go_ret2
      refine ⟨?_,S.below⟩
      have hz : ∀ (q : Nat) y,(p.map (mayE · p.length))[q]? = some y → y = 0:=fun q y hy=>by
       rw [List.getElem?_map] at hy
       cases hp : p[q]? with
       | none=>rw [hp] at hy;cases hy
       | some z=>rw [hp] at hy;simp at hy;subst hy;exact Hz.out q z (List.getElem?_eq_some_iff.1 hp).1 hp
      rw [HE.out.1,HE.out.2,firstE_none hz,whereE_none (fun x hx=>by obtain ⟨q,hq,rfl⟩:=List.mem_iff_getElem.1 hx;exact hz q _ (List.getElem?_eq_getElem hq))]
      simp
end Go.Proofs.YtmjljoaakdocaaaGreatDoor
