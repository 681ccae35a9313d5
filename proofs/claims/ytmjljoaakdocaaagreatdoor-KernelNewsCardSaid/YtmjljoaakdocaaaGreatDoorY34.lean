import Derived.Test.YtmjljoaakdocaaaGreatDoorY33
import Derived.Test.YtmjljoaakdocaaaGreatDoorY19
import Derived.Test.YtmjljoaakdocaaaGreatDoorY24
/- The walks of the reference's May and Check (of programs). -/
set_option maxHeartbeats 16000000
set_option maxRecDepth 100000
namespace Go.Proofs.YtmjljoaakdocaaaGreatDoor.Mem
open Go Go.RowKit Reg
open List (set_cons_succ set_cons_zero setIfInBounds_toArray cons_append nil_append)
section
variable {P : Program} {ops : Array Oper} {rest : List Oper} {a : Act} {Q : Exit → Act → World → Prop} {d : Option Tmp} {tt : TypeId} {p : String} {af : Array Edge} {gd : Option (Nat × Bool)} {x y : Operand} {w : World}
end
end Go.Proofs.YtmjljoaakdocaaaGreatDoor.Mem
namespace Go.Proofs.YtmjljoaakdocaaaGreatDoor
open Go Go.RowKit Reg Mem
open List (set_cons_succ set_cons_zero setIfInBounds_toArray cons_append nil_append)
def kOk (n j : Nat) : Bool:=match kindsL[n]?,table[n + 1]? with
 | some ks,some t=>(match ks[j]? with
   | some b=>(b == 99 && ask t.num j == 1) || (b == 110 && ask t.num j == 2) || (b == 112 && ask t.num j == 3) || (b == 107 && ask t.num j == 4)
   | none=>ask t.num j == 0 && decide (ks.size ≤ j))
 | _,_=>false
theorem kOk_all : ∀ n : Fin 15,∀ j : Fin 4,kOk n.1 j.1 = true:=by decide +kernel
theorem kinds_ask {n j : Nat} {ks : ByteArray} {t : About} (hj : j < 4) (hk : kindsL[n]? = some ks) (ht : table[n + 1]? = some t) :
 (ks[j]? = some 99 ∧ ask t.num j = 1) ∨ (ks[j]? = some 110 ∧ ask t.num j = 2) ∨ (ks[j]? = some 112 ∧ ask t.num j = 3) ∨ (ks[j]? = some 107 ∧ ask t.num j = 4) ∨ (ks.size ≤ j ∧ ask t.num j = 0):=by
 have hn : n < 15:=(List.getElem?_eq_some_iff.1 hk).1
 have h:=kOk_all ⟨n,hn⟩ ⟨j,hj⟩
 unfold kOk at h
 simp only [hk,ht] at h
 cases hb : ks[j]? with
 | none=>rw [hb] at h;simp at h;exact .inr (.inr (.inr (.inr ⟨h.2,h.1⟩)))
 | some b=>
   rw [hb] at h
   simp only [Bool.or_eq_true,Bool.and_eq_true,beq_iff_eq] at h
   rcases h with ((⟨rfl,h⟩ | ⟨rfl,h⟩) | ⟨rfl,h⟩) | ⟨rfl,h⟩
   · exact .inl ⟨rfl,h⟩
   · exact .inr (.inl ⟨rfl,h⟩)
   · exact .inr (.inr (.inl ⟨rfl,h⟩))
   · exact .inr (.inr (.inr (.inl ⟨rfl,h⟩)))
theorem words_all : ∀ s ∈ wordsL,s.toList.isEmpty = false:=by decide +kernel
theorem may_all {x : Instr} {many : Int} {t : About} {n : Nat} (hop : x.op = (n : Int) + 1) (ht : table[n + 1]? = some t) (h : ∀ q : Nat,q < 4 → fitsN (ask t.num q) (numb x q) many = true) : mayE x many = 0:=by
 have hn : n + 1 < 16:=by rw [← table_len];exact (List.getElem?_eq_some_iff.1 ht).1
 have h1 : isOp x.op = true:=by simp [isOp];omega
 rw [may_eq (t:=t) h1 (by rw [hop];exact ht)]
 have h0:=h 0 (by omega);have h1:=h 1 (by omega);have h2:=h 2 (by omega);have h3:=h 3 (by omega)
 simp only [ask,numb] at h0 h1 h2 h3
 rw [h0,h1,h2,h3];rfl
theorem may_bad {x : Instr} {many : Int} {t : About} {n j : Nat} (hop : x.op = (n : Int) + 1) (ht : table[n + 1]? = some t) (hj : j < 4) (h : fitsN (ask t.num j) (numb x j) many = false) : mayE x many = 10:=by
 have hn : n + 1 < 16:=by rw [← table_len];exact (List.getElem?_eq_some_iff.1 ht).1
 have h1 : isOp x.op = true:=by simp [isOp];omega
 rw [may_eq (t:=t) h1 (by rw [hop];exact ht),if_neg]
 intro hh
 simp only [Bool.and_eq_true] at hh
 obtain rfl | rfl | rfl | rfl : j = 0 ∨ j = 1 ∨ j = 2 ∨ j = 3:=by omega
 · rw [show ask t.num 0 = t.num.n0 from rfl,show numb x 0 = x.a from rfl,hh.1.1.1] at h;cases h
 · rw [show ask t.num 1 = t.num.n1 from rfl,show numb x 1 = x.b from rfl,hh.1.1.2] at h;cases h
 · rw [show ask t.num 2 = t.num.n2 from rfl,show numb x 2 = x.c from rfl,hh.1.2] at h;cases h
 · rw [show ask t.num 3 = t.num.n3 from rfl,show numb x 3 = x.d from rfl,hh.2] at h;cases h
def RMayRel (x : Instr) (t : About) (many : Int) (n : Int) (bx : Nat) (w : World) (i : Value) (wr : World) : Prop:=
 ∃ j : Nat,j ≤ 4 ∧ i = .int .i64 j ∧ Hid (∀ q : Nat,q < j → fitsN (ask t.num q) (numb x q) many = true) ∧ St (fun _=>False) w wr [Blk false bx #[.int .i64 (n + 1),.int .i64 x.a,.int .i64 x.b,.int .i64 x.c,.int .i64 x.d] 222]
theorem fits_snoc {x : Instr} {t : About} {many : Int} {j : Nat} (h : ∀ q : Nat,q < j → fitsN (ask t.num q) (numb x q) many = true) (hj : fitsN (ask t.num j) (numb x j) many = true) : ∀ q : Nat,q < j + 1 → fitsN (ask t.num q) (numb x q) many = true:=fun q hq=>by
 by_cases e : q = j
 · subst e;exact hj
 · exact h q (by omega)
theorem rmay_calls (x : Instr) (many : Int) (w : World) : Calls Tryz.prog 112 #[.agg #[.int .i64 x.op,.int .i64 x.a,.int .i64 x.b,.int .i64 x.c,.int .i64 x.d],.int .i64 many] w fun r w'=>r = .returned (.int .i64 (mayE x many)) ∧ Below w.heap.size w w':=by
 have S:=St.init (fun _=>False) w
 by_cases h1 : 1 ≤ x.op ∧ x.op ≤ 15
 · obtain ⟨n,hop⟩ : ∃ n : Nat,x.op = (n : Int) + 1:=⟨(x.op - 1).toNat,by omega⟩
   have hn : n < 15:=by omega
   obtain ⟨s,hs⟩ : ∃ s,wordsL[n]? = some s:=⟨_,List.getElem?_eq_getElem hn⟩
   obtain ⟨ks,hk⟩ : ∃ s,kindsL[n]? = some s:=⟨_,List.getElem?_eq_getElem hn⟩
   obtain ⟨t,ht⟩ : ∃ t,table[n + 1]? = some t:=⟨_,List.getElem?_eq_getElem (by rw [table_len];omega)⟩
   have hs0 : s.toList.isEmpty = false:=words_all s (List.mem_of_getElem? hs)
   have HNu : Hid (∀ (j : Nat),j < 4 → ∀ w,Calls Tryz.prog 152 #[.agg #[.int .i64 ((n : Int) + 1),.int .i64 x.a,.int .i64 x.b,.int .i64 x.c,.int .i64 x.d],.int .i64 j] w fun r w'=>r = .returned (.int .i64 (numb x j)) ∧ Below w.heap.size w w'):=fun j hj w=>by
    have:=rnumber_calls x j hj w;rwa [hop] at this
   have HKA : Hid (∀ j : Nat,j < 4 → (ks[j]? = some 99 ∧ ask t.num j = 1) ∨ (ks[j]? = some 110 ∧ ask t.num j = 2) ∨ (ks[j]? = some 112 ∧ ask t.num j = 3) ∨ (ks[j]? = some 107 ∧ ask t.num j = 4) ∨ (ks.size ≤ j ∧ ask t.num j = 0)):=fun j hj=>kinds_ask hj hk ht
   have HOK : Hid ((∀ q : Nat,q < 4 → fitsN (ask t.num q) (numb x q) many = true) → mayE x many = 0):=fun h=>may_all hop ht h
   have HBD : Hid (∀ j : Nat,j < 4 → fitsN (ask t.num j) (numb x j) many = false → mayE x many = 10):=fun j hj h=>may_bad hop ht hj h
   rw [hop]
   have Hs:=Lib.hid hs
   have Hk:=Lib.hid hk
   have Ht:=Lib.hid ht
   clear hs hk ht
   clear h1 hop
   go_enter Tryz.func112,Tryz.ntmps112
   go_wp2_with first | ((with_reducible apply wps_boxa S);(case hx=>rfl);clear S;intro bx wz S) | (go_at_call 150;refine Calls.mono (rword_calls n s Hs.out _) ?_;rintro e wz ⟨rfl,hE⟩;replace S:=S.ext (Keep.of_below hE);clear hE) | (go_at_call 151;refine Calls.mono (rkinds_calls n ks Hk.out _) ?_;rintro e wz ⟨rfl,hE⟩;replace S:=S.ext (Keep.of_below hE);clear hE) | ((with_reducible apply wps_load S 0);(case hx|hi|hu=>rfl);(case hT=>decide +kernel))
   go_loopw [6] (fun i wr=>RMayRel x t many n bx w i wr) (fun i _=>4 - (intOf i).toNat)
   case atStart=>exact ⟨0,by omega,rfl,fun q h=>by omega,S⟩
   case round=>
    clear S
    obtain ⟨j,hj,rfl,Hf,S⟩:=hrel
    by_cases hlt : j < 4
    · have hlt2 : (j : Int) < 4:=by omega
      have HN1:=Lib.hid (HNu.out j hlt)
      have HB1:=Lib.hid (HBD.out j hlt)
      have hka:=HKA.out j hlt
      generalize hv : numb x j = v at *
      rcases hka with ⟨hb,ha⟩ | ⟨hb,ha⟩ | ⟨hb,ha⟩ | ⟨hb,ha⟩ | ⟨hb,ha⟩
      · skip
        have hjs : j < ks.size:=by
         rcases Nat.lt_or_ge j ks.size with h | h
         · exact h
         · rw [ByteArray.getElem?_ge' ks _ (by omega)] at hb;cases hb
        have hjs2 : (j : Int) < ks.size:=by omega
        have hbt : ((ks[j]'hjs).toNat : Int) = 99:=by
         have h2:=ByteArray.getElem?_lt' ks j hjs
         rw [h2] at hb
         rw [Option.some.inj hb];rfl
        clear hb
        by_cases g81 : v < 0
        · skip
          have hfit:=(show fitsN (ask t.num j) v many = false by rw [ha];simp [fitsN];try omega)
          have Hfit:=Lib.hid hfit
          have Hv:=Lib.hid hv
          clear hfit hv
          go_wp2_with first | (go_at_call 152;refine Calls.mono (HN1.out _) ?_;rintro e wz ⟨rfl,hE⟩;replace S:=S.ext (Keep.of_below hE);clear hE) | ((with_reducible apply wps_loada (T:=222) (k:=5) S 0);(case hx|hi=>rfl);(case hk=>exact nle rfl);(case hT=>decide +kernel))
          go_ret
          exact ⟨ret_int (HB1.out Hfit.out).symm,S.below⟩
        by_cases g53 : 7 < v
        · skip
          have hfit:=(show fitsN (ask t.num j) v many = false by rw [ha];simp [fitsN];try omega)
          have Hfit:=Lib.hid hfit
          have Hv:=Lib.hid hv
          clear hfit hv
          go_wp2_with first | (go_at_call 152;refine Calls.mono (HN1.out _) ?_;rintro e wz ⟨rfl,hE⟩;replace S:=S.ext (Keep.of_below hE);clear hE) | ((with_reducible apply wps_loada (T:=222) (k:=5) S 0);(case hx|hi=>rfl);(case hk=>exact nle rfl);(case hT=>decide +kernel))
          go_ret
          exact ⟨ret_int (HB1.out Hfit.out).symm,S.below⟩
        have hfit:=(show fitsN (ask t.num j) v many = true by rw [ha];simp [fitsN];try omega)
        have Hfit:=Lib.hid hfit
        have Hv:=Lib.hid hv
        clear hfit hv
        go_wp2_with first | (go_at_call 152;refine Calls.mono (HN1.out _) ?_;rintro e wz ⟨rfl,hE⟩;replace S:=S.ext (Keep.of_below hE);clear hE) | ((with_reducible apply wps_loada (T:=222) (k:=5) S 0);(case hx|hi=>rfl);(case hk=>exact nle rfl);(case hT=>decide +kernel))
        go_roundw
        case rel=>exact ⟨j + 1,by omega,by go_num,fits_snoc Hf.out (by rw [Hv.out];exact Hfit.out),S⟩
        case measure=>first | (simp [intOf];done) | (simp [intOf];omega)
      · skip
        have hjs : j < ks.size:=by
         rcases Nat.lt_or_ge j ks.size with h | h
         · exact h
         · rw [ByteArray.getElem?_ge' ks _ (by omega)] at hb;cases hb
        have hjs2 : (j : Int) < ks.size:=by omega
        have hbt : ((ks[j]'hjs).toNat : Int) = 110:=by
         have h2:=ByteArray.getElem?_lt' ks j hjs
         rw [h2] at hb
         rw [Option.some.inj hb];rfl
        clear hb
        have hfit:=(show fitsN (ask t.num j) v many = true by rw [ha];simp [fitsN];try omega)
        have Hfit:=Lib.hid hfit
        have Hv:=Lib.hid hv
        clear hfit hv
        go_wp2_with first | (go_at_call 152;refine Calls.mono (HN1.out _) ?_;rintro e wz ⟨rfl,hE⟩;replace S:=S.ext (Keep.of_below hE);clear hE) | ((with_reducible apply wps_loada (T:=222) (k:=5) S 0);(case hx|hi=>rfl);(case hk=>exact nle rfl);(case hT=>decide +kernel))
        go_roundw
        case rel=>exact ⟨j + 1,by omega,by go_num,fits_snoc Hf.out (by rw [Hv.out];exact Hfit.out),S⟩
        case measure=>first | (simp [intOf];done) | (simp [intOf];omega)
      · skip
        have hjs : j < ks.size:=by
         rcases Nat.lt_or_ge j ks.size with h | h
         · exact h
         · rw [ByteArray.getElem?_ge' ks _ (by omega)] at hb;cases hb
        have hjs2 : (j : Int) < ks.size:=by omega
        have hbt : ((ks[j]'hjs).toNat : Int) = 112:=by
         have h2:=ByteArray.getElem?_lt' ks j hjs
         rw [h2] at hb
         rw [Option.some.inj hb];rfl
        clear hb
        by_cases g81 : v < 0
        · skip
          have hfit:=(show fitsN (ask t.num j) v many = false by rw [ha];simp [fitsN];try omega)
          have Hfit:=Lib.hid hfit
          have Hv:=Lib.hid hv
          clear hfit hv
          go_wp2_with first | (go_at_call 152;refine Calls.mono (HN1.out _) ?_;rintro e wz ⟨rfl,hE⟩;replace S:=S.ext (Keep.of_below hE);clear hE) | ((with_reducible apply wps_loada (T:=222) (k:=5) S 0);(case hx|hi=>rfl);(case hk=>exact nle rfl);(case hT=>decide +kernel))
          go_ret
          exact ⟨ret_int (HB1.out Hfit.out).symm,S.below⟩
        by_cases g54 : many < v
        · skip
          have hfit:=(show fitsN (ask t.num j) v many = false by rw [ha];simp [fitsN];try omega)
          have Hfit:=Lib.hid hfit
          have Hv:=Lib.hid hv
          clear hfit hv
          go_wp2_with first | (go_at_call 152;refine Calls.mono (HN1.out _) ?_;rintro e wz ⟨rfl,hE⟩;replace S:=S.ext (Keep.of_below hE);clear hE) | ((with_reducible apply wps_loada (T:=222) (k:=5) S 0);(case hx|hi=>rfl);(case hk=>exact nle rfl);(case hT=>decide +kernel))
          go_ret
          exact ⟨ret_int (HB1.out Hfit.out).symm,S.below⟩
        have hfit:=(show fitsN (ask t.num j) v many = true by rw [ha];simp [fitsN];try omega)
        have Hfit:=Lib.hid hfit
        have Hv:=Lib.hid hv
        clear hfit hv
        go_wp2_with first | (go_at_call 152;refine Calls.mono (HN1.out _) ?_;rintro e wz ⟨rfl,hE⟩;replace S:=S.ext (Keep.of_below hE);clear hE) | ((with_reducible apply wps_loada (T:=222) (k:=5) S 0);(case hx|hi=>rfl);(case hk=>exact nle rfl);(case hT=>decide +kernel))
        go_roundw
        case rel=>exact ⟨j + 1,by omega,by go_num,fits_snoc Hf.out (by rw [Hv.out];exact Hfit.out),S⟩
        case measure=>first | (simp [intOf];done) | (simp [intOf];omega)
      · skip
        have hjs : j < ks.size:=by
         rcases Nat.lt_or_ge j ks.size with h | h
         · exact h
         · rw [ByteArray.getElem?_ge' ks _ (by omega)] at hb;cases hb
        have hjs2 : (j : Int) < ks.size:=by omega
        have hbt : ((ks[j]'hjs).toNat : Int) = 107:=by
         have h2:=ByteArray.getElem?_lt' ks j hjs
         rw [h2] at hb
         rw [Option.some.inj hb];rfl
        clear hb
        by_cases g81 : v < 0
        · skip
          have hfit:=(show fitsN (ask t.num j) v many = false by rw [ha];simp [fitsN];try omega)
          have Hfit:=Lib.hid hfit
          have Hv:=Lib.hid hv
          clear hfit hv
          go_wp2_with first | (go_at_call 152;refine Calls.mono (HN1.out _) ?_;rintro e wz ⟨rfl,hE⟩;replace S:=S.ext (Keep.of_below hE);clear hE) | ((with_reducible apply wps_loada (T:=222) (k:=5) S 0);(case hx|hi=>rfl);(case hk=>exact nle rfl);(case hT=>decide +kernel))
          go_ret
          exact ⟨ret_int (HB1.out Hfit.out).symm,S.below⟩
        by_cases g54 : 255 < v
        · skip
          have hfit:=(show fitsN (ask t.num j) v many = false by rw [ha];simp [fitsN];try omega)
          have Hfit:=Lib.hid hfit
          have Hv:=Lib.hid hv
          clear hfit hv
          go_wp2_with first | (go_at_call 152;refine Calls.mono (HN1.out _) ?_;rintro e wz ⟨rfl,hE⟩;replace S:=S.ext (Keep.of_below hE);clear hE) | ((with_reducible apply wps_loada (T:=222) (k:=5) S 0);(case hx|hi=>rfl);(case hk=>exact nle rfl);(case hT=>decide +kernel))
          go_ret
          exact ⟨ret_int (HB1.out Hfit.out).symm,S.below⟩
        have hfit:=(show fitsN (ask t.num j) v many = true by rw [ha];simp [fitsN];try omega)
        have Hfit:=Lib.hid hfit
        have Hv:=Lib.hid hv
        clear hfit hv
        go_wp2_with first | (go_at_call 152;refine Calls.mono (HN1.out _) ?_;rintro e wz ⟨rfl,hE⟩;replace S:=S.ext (Keep.of_below hE);clear hE) | ((with_reducible apply wps_loada (T:=222) (k:=5) S 0);(case hx|hi=>rfl);(case hk=>exact nle rfl);(case hT=>decide +kernel))
        go_roundw
        case rel=>exact ⟨j + 1,by omega,by go_num,fits_snoc Hf.out (by rw [Hv.out];exact Hfit.out),S⟩
        case measure=>first | (simp [intOf];done) | (simp [intOf];omega)
      · have hjs2 : (ks.size : Int) ≤ j:=by omega
        by_cases g0 : v = 0
        · have g0b : (v != 0) = false:=by simp [g0]
          have hfit:=(show fitsN (ask t.num j) v many = true by rw [ha];simp [fitsN,g0])
          have Hfit:=Lib.hid hfit
          have Hv:=Lib.hid hv
          have G0:=Lib.hid g0
          clear hfit hv g0
          go_wp2_with first | (go_at_call 152;refine Calls.mono (HN1.out _) ?_;rintro e wz ⟨rfl,hE⟩;replace S:=S.ext (Keep.of_below hE);clear hE) | ((with_reducible apply wps_loada (T:=222) (k:=5) S 0);(case hx|hi=>rfl);(case hk=>exact nle rfl);(case hT=>decide +kernel))
          go_roundw
          case rel=>exact ⟨j + 1,by omega,by go_num,fits_snoc Hf.out (by rw [Hv.out];exact Hfit.out),S⟩
          case measure=>first | (simp [intOf];done) | (simp [intOf];omega)
        · have g0b : (v != 0) = true:=by simpa using g0
          have hfit:=(show fitsN (ask t.num j) v many = false by rw [ha];simp [fitsN,g0])
          have Hfit:=Lib.hid hfit
          have Hv:=Lib.hid hv
          have G0:=Lib.hid g0
          clear hfit hv g0
          go_wp2_with first | (go_at_call 152;refine Calls.mono (HN1.out _) ?_;rintro e wz ⟨rfl,hE⟩;replace S:=S.ext (Keep.of_below hE);clear hE) | ((with_reducible apply wps_loada (T:=222) (k:=5) S 0);(case hx|hi=>rfl);(case hk=>exact nle rfl);(case hT=>decide +kernel))
          go_ret
          exact ⟨ret_int (HB1.out Hfit.out).symm,S.below⟩
    · obtain rfl : j = 4:=by omega
      go_wp2_with first | ((with_reducible apply wps_loada (T:=222) (k:=5) S 0);(case hx|hi=>rfl);(case hk=>exact nle rfl);(case hT=>decide +kernel))
      go_ret
      exact ⟨ret_int (HOK.out Hf.out).symm,S.below⟩
 · have HE:=Lib.hid (may_form (many:=many) (show isOp x.op = false by simp [isOp];omega))
   go_enter Tryz.func112,Tryz.ntmps112
   go_wp2_with first | ((with_reducible apply wps_boxa S);(case hx=>rfl);clear S;intro bx wz S) | (go_at_call 150;refine Calls.mono (rword_not x.op h1 _) ?_;rintro e wz ⟨rfl,hE⟩;replace S:=S.ext (Keep.of_below hE);clear hE) | ((with_reducible apply wps_load S 0);(case hx|hi|hu=>rfl);(case hT=>decide +kernel))
   go_ret
   exact ⟨ret_int HE.out.symm,S.below⟩
end Go.Proofs.YtmjljoaakdocaaaGreatDoor
/- The walks of the reference's Check of programs and of configurations. -/
namespace Go.Proofs.YtmjljoaakdocaaaGreatDoor
open Go Go.RowKit Reg Mem
open List (set_cons_succ set_cons_zero setIfInBounds_toArray cons_append nil_append)
def RCodeRel (v : Value) (p : List Instr) (w : World) (i : Value) (wr : World) : Prop:=
 ∃ j : Nat,j ≤ p.length ∧ i = .int .i64 j ∧ Hid (∀ (q : Nat) y,q < j → p[q]? = some y → mayE y p.length = 0) ∧ St (fun _=>False) w wr [Sl true Instr.cells 5 v p]
theorem rcode_calls (v : Value) (p : List Instr) (w : World) (F : Nat → Prop) (h : (Sl true Instr.cells 5 v p).at_ w F) : Calls Tryz.prog 69 #[v] w fun r w'=>r = .returned (.tuple #[.int .i64 (codeAt p),.int .i64 (codeE p)]) ∧ Below w.heap.size w w':=by
 have S : St (fun _=>False) w w [Sl true Instr.cells 5 v p]:=(St.init _ w).share rfl rfl h
 obtain ⟨ad,cp,rfl,_⟩:=(S.sl 0 rfl).elim fun _ h=>h.form
 clear h
 by_cases g1 : (64 : Int) < p.length
 · have HE : Hid (codeAt p = 0 ∧ codeE p = 11):=⟨by unfold codeAt;rw [if_pos (by omega)],by unfold codeE;rw [if_pos (by omega)]⟩
   go_enter Tryz.func69,Tryz.ntmps69
   go_wp2_with first | ((with_reducible apply wps_loada (T:=222) (k:=5) S 0);(case hx|hi=>rfl);(case hk=>exact nle rfl);(case hT=>decide +kernel))
   go_ret2
   exact ⟨by simp [HE.out.1,HE.out.2],S.below⟩
 · have HE : Hid (codeAt p = whereE (p.map (mayE · p.length)) 0 ∧ codeE p = firstE (p.map (mayE · p.length))):=⟨by unfold codeAt;rw [if_neg (by omega)],by unfold codeE;rw [if_neg (by omega)]⟩
   go_enter Tryz.func69,Tryz.ntmps69
   go_wp2_with first | ((with_reducible apply wps_loada (T:=222) (k:=5) S 0);(case hx|hi=>rfl);(case hk=>exact nle rfl);(case hT=>decide +kernel))
   go_loopw [4] (fun i wr=>RCodeRel (.slice ad p.length cp) p w i wr) (fun i _=>p.length - (intOf i).toNat)
   case atStart=>exact ⟨0,Nat.zero_le _,rfl,fun q y h=>by omega,S⟩
   case round=>
    clear S
    obtain ⟨j,hj,rfl,Hz,S⟩:=hrel
    by_cases hlt : j < p.length
    · obtain ⟨x,hx⟩ : ∃ x,p[j]? = some x:=⟨_,List.getElem?_eq_getElem hlt⟩
      obtain ⟨R,o,rfl⟩ : ∃ R o,ad = some ⟨R,o,none⟩:=(S.sl 0 rfl).elim fun F h=>h.head (by omega)
      have hlt2 : (j : Int) < p.length:=by omega
      have hc:=rmay_calls x p.length
      obtain ⟨m,hm⟩ : ∃ m,mayE x p.length = m:=⟨_,rfl⟩
      rw [hm] at hc
      have Hx:=Lib.hid hx
      have Hm:=Lib.hid hm
      have Hc:=Lib.hid hc
      clear hx hm hc
      by_cases h0 : m = 0
      · subst h0
        go_wp2_with first | ((with_reducible apply wps_loada_el S 0 (hj:=Hx.out) (q:=0) (vs:=[.int .i64 x.op,.int .i64 x.a,.int .i64 x.b,.int .i64 x.c,.int .i64 x.d]) (m:=5));(case hx|hi=>rfl);(case hn=>omega);(case hm|hv=>rfl);(case hT=>decide +kernel)) | (go_at_call 112;refine Calls.mono (Hc.out _) ?_;rintro e wz ⟨rfl,hE⟩;replace S:=S.ext (Keep.of_below hE);clear hE)
        go_roundw
        case rel=>
         refine ⟨j + 1,by omega,by go_num,fun q y hq hy=>?_,S⟩
         by_cases e : q = j
         · subst e;rw [Hx.out] at hy;cases hy;exact Hm.out
         · exact Hz.out q y (by omega) hy
        case measure=>first | (simp [intOf];done) | (simp [intOf];omega)
      · have h1 : (m != 0) = true:=by simpa using h0
        have H0:=Lib.hid h0
        clear h0
        go_wp2_with first | ((with_reducible apply wps_loada_el S 0 (hj:=Hx.out) (q:=0) (vs:=[.int .i64 x.op,.int .i64 x.a,.int .i64 x.b,.int .i64 x.c,.int .i64 x.d]) (m:=5));(case hx|hi=>rfl);(case hn=>omega);(case hm|hv=>rfl);(case hT=>decide +kernel)) | (go_at_call 112;refine Calls.mono (Hc.out _) ?_;rintro e wz ⟨rfl,hE⟩;replace S:=S.ext (Keep.of_below hE);clear hE)
        go_ret2
        have hz : ∀ (q : Nat) y,q < j → (p.map (mayE · p.length))[q]? = some y → y = 0:=fun q y hq hy=>by
         rw [List.getElem?_map] at hy
         cases hp : p[q]? with
         | none=>rw [hp] at hy;cases hy
         | some z=>rw [hp] at hy;simp at hy;subst hy;exact Hz.out q z hq hp
        have hx : (p.map (mayE · p.length))[j]? = some m:=by rw [List.getElem?_map,Hx.out];simp [Hm.out]
        refine ⟨?_,S.below⟩
        rw [HE.out.1,HE.out.2,whereE_at hz hx H0.out,firstE_at hz hx H0.out]
        simp
    · obtain rfl : j = p.length:=by omega
      go_wp2_with first | ((with_reducible apply wps_loada (T:=222) (k:=5) S 0);(case hx|hi=>rfl);(case hk=>exact nle rfl);(case hT=>decide +kernel))
      go_ret2
      refine ⟨?_,S.below⟩
      have hz : ∀ (q : Nat) y,(p.map (mayE · p.length))[q]? = some y → y = 0:=fun q y hy=>by
       rw [List.getElem?_map] at hy
       cases hp : p[q]? with
       | none=>rw [hp] at hy;cases hy
       | some z=>rw [hp] at hy;simp at hy;subst hy;exact Hz.out q z (List.getElem?_eq_some_iff.1 hp).1 hp
      rw [HE.out.1,HE.out.2,firstE_none hz,whereE_none (fun x hx=>by obtain ⟨q,hq,rfl⟩:=List.mem_iff_getElem.1 hx;exact hz q _ (List.getElem?_eq_getElem hq))]
      simp
theorem cfg_sizes {c : Cfg} (h : ¬ sizesOk c) : cfgE c = 10:=by
 unfold cfgE;rw [show sizesE c = 10 from if_neg h];rfl
theorem cfg_starts {c : Cfg} (h : sizesOk c) (h2 : 256 < c.starts.length) : cfgE c = 11:=by
 unfold cfgE;rw [show sizesE c = 0 from if_pos h,show startsE c = 11 from if_pos h2];rfl
theorem cfg_prog {c : Cfg} (h : sizesOk c) (h2 : ¬ 256 < c.starts.length) {m : Int} (h3 : programsE c = m) (h4 : m ≠ 0) : cfgE c = m:=by
 unfold cfgE;rw [show sizesE c = 0 from if_pos h,show startsE c = 0 from if_neg h2,h3];simp [firstE,h4]
theorem cfg_ends {c : Cfg} (h : sizesOk c) (h2 : ¬ 256 < c.starts.length) (h3 : programsE c = 0) (h4 : ¬ ((∀ p ∈ c.lps,0 ≤ p.program ∧ p.program < c.programs.length) ∧ (∀ s ∈ c.starts,0 ≤ s.dst ∧ s.dst < c.lps.length))) : cfgE c = 14:=by
 unfold cfgE;rw [show sizesE c = 0 from if_pos h,show startsE c = 0 from if_neg h2,h3,show endsE c = 14 from if_neg h4];rfl
theorem cfg_times {c : Cfg} (h : sizesOk c) (h2 : ¬ 256 < c.starts.length) (h3 : programsE c = 0) (h4 : (∀ p ∈ c.lps,0 ≤ p.program ∧ p.program < c.programs.length) ∧ (∀ s ∈ c.starts,0 ≤ s.dst ∧ s.dst < c.lps.length)) (h5 : ¬ ∀ s ∈ c.starts,0 ≤ s.at_ ∧ s.at_ ≤ c.fin) : cfgE c = 18:=by
 unfold cfgE;rw [show sizesE c = 0 from if_pos h,show startsE c = 0 from if_neg h2,h3,show endsE c = 0 from if_pos h4,show timesE c = 18 from if_neg h5];rfl
theorem cfg_fine {c : Cfg} (h : sizesOk c) (h2 : ¬ 256 < c.starts.length) (h3 : programsE c = 0) (h4 : (∀ p ∈ c.lps,0 ≤ p.program ∧ p.program < c.programs.length) ∧ (∀ s ∈ c.starts,0 ≤ s.dst ∧ s.dst < c.lps.length)) (h5 : ∀ s ∈ c.starts,0 ≤ s.at_ ∧ s.at_ ≤ c.fin) : cfgE c = 0:=by
 unfold cfgE;rw [show sizesE c = 0 from if_pos h,show startsE c = 0 from if_neg h2,h3,show endsE c = 0 from if_pos h4,show timesE c = 0 from if_pos h5];rfl
end Go.Proofs.YtmjljoaakdocaaaGreatDoor
/- The walk of the reference's Check of configurations. -/
namespace Go.Proofs.YtmjljoaakdocaaaGreatDoor
open Go Go.RowKit Reg Mem
open List (set_cons_succ set_cons_zero setIfInBounds_toArray cons_append nil_append)
def RcRel (bx : Nat) (vP vL vS : Value) (hs : List Value) (c : Cfg) (n : Nat) (D : Nat → Prop) (w : World) (i : Value) (wr : World) : Prop:=
 ∃ j : Nat,j ≤ n ∧ i = .int .i64 j ∧ Hid (D j) ∧ St (fun _=>False) w wr [Blk false bx #[vP,vL,vS,.int .i64 c.fin,.int .i64 c.fuel,.int .i64 c.fan] 49,Sls true Instr.cells 5 hs c.programs,Sl true vcell 1 vP hs,Sl true Place.cells 5 vL c.lps,Sl true Start.cells 4 vS c.starts]
theorem refcheck_calls (vs hs : List Value) (c : Cfg) (w : World) (F : Nat → Prop) (h : (CfgA true vs hs c).at_ w F) (hm : Mid c) : Calls Tryz.prog 42 #[.agg vs.toArray] w fun r w'=>r = .returned (.int .i64 (cfgE c)) ∧ Below w.heap.size w w':=by
 have S : St (fun _=>False) w w [CfgA true vs hs c]:=(St.init _ w).share rfl rfl h
 obtain ⟨aP,cP,aL,cL,aS,cS,rfl,hlen,S⟩:=S.cfg 0 rfl
 replace S:=S.pick [0,1,2,3] rfl
 simp only [pick,nth] at S
 clear h
 have hp1:=hm.p
 have hp2:=hm.l
 have hp3:=hm.s
 clear hm
 by_cases hz : sizesOk c
 case neg=>
  have HE:=Lib.hid (cfg_sizes hz)
  unfold sizesOk at hz
  by_cases g0 : (c.lps.length : Int) < 1
  · go_enter Tryz.func42,Tryz.ntmps42
    go_wp2_with first | go_skip | ((with_reducible apply wps_boxa S);(case hx=>rfl);clear S;intro bx wz S) | ((with_reducible apply wps_load S 0);(case hx|hi|hu=>rfl);(case hT=>decide +kernel))
    go_ret
    exact ⟨ret_int HE.out.symm,S.below⟩
  by_cases g1 : (32 : Int) < c.lps.length
  · go_enter Tryz.func42,Tryz.ntmps42
    go_wp2_with first | go_skip | ((with_reducible apply wps_boxa S);(case hx=>rfl);clear S;intro bx wz S) | ((with_reducible apply wps_load S 0);(case hx|hi|hu=>rfl);(case hT=>decide +kernel))
    go_ret
    exact ⟨ret_int HE.out.symm,S.below⟩
  by_cases g2 : (c.programs.length : Int) < 1
  · go_enter Tryz.func42,Tryz.ntmps42
    go_wp2_with first | go_skip | ((with_reducible apply wps_boxa S);(case hx=>rfl);clear S;intro bx wz S) | ((with_reducible apply wps_load S 0);(case hx|hi|hu=>rfl);(case hT=>decide +kernel))
    go_ret
    exact ⟨ret_int HE.out.symm,S.below⟩
  by_cases g3 : (32 : Int) < c.programs.length
  · go_enter Tryz.func42,Tryz.ntmps42
    go_wp2_with first | go_skip | ((with_reducible apply wps_boxa S);(case hx=>rfl);clear S;intro bx wz S) | ((with_reducible apply wps_load S 0);(case hx|hi|hu=>rfl);(case hT=>decide +kernel))
    go_ret
    exact ⟨ret_int HE.out.symm,S.below⟩
  by_cases g4 : c.fin < 1
  · go_enter Tryz.func42,Tryz.ntmps42
    go_wp2_with first | go_skip | ((with_reducible apply wps_boxa S);(case hx=>rfl);clear S;intro bx wz S) | ((with_reducible apply wps_load S 0);(case hx|hi|hu=>rfl);(case hT=>decide +kernel))
    go_ret
    exact ⟨ret_int HE.out.symm,S.below⟩
  by_cases g5 : 1073741824 < c.fin
  · go_enter Tryz.func42,Tryz.ntmps42
    go_wp2_with first | go_skip | ((with_reducible apply wps_boxa S);(case hx=>rfl);clear S;intro bx wz S) | ((with_reducible apply wps_load S 0);(case hx|hi|hu=>rfl);(case hT=>decide +kernel))
    go_ret
    exact ⟨ret_int HE.out.symm,S.below⟩
  by_cases g6 : c.fuel < 1
  · go_enter Tryz.func42,Tryz.ntmps42
    go_wp2_with first | go_skip | ((with_reducible apply wps_boxa S);(case hx=>rfl);clear S;intro bx wz S) | ((with_reducible apply wps_load S 0);(case hx|hi|hu=>rfl);(case hT=>decide +kernel))
    go_ret
    exact ⟨ret_int HE.out.symm,S.below⟩
  by_cases g7 : 1024 < c.fuel
  · go_enter Tryz.func42,Tryz.ntmps42
    go_wp2_with first | go_skip | ((with_reducible apply wps_boxa S);(case hx=>rfl);clear S;intro bx wz S) | ((with_reducible apply wps_load S 0);(case hx|hi|hu=>rfl);(case hT=>decide +kernel))
    go_ret
    exact ⟨ret_int HE.out.symm,S.below⟩
  by_cases g8 : c.fan < 0
  · go_enter Tryz.func42,Tryz.ntmps42
    go_wp2_with first | go_skip | ((with_reducible apply wps_boxa S);(case hx=>rfl);clear S;intro bx wz S) | ((with_reducible apply wps_load S 0);(case hx|hi|hu=>rfl);(case hT=>decide +kernel))
    go_ret
    exact ⟨ret_int HE.out.symm,S.below⟩
  by_cases g9 : 8 < c.fan
  · go_enter Tryz.func42,Tryz.ntmps42
    go_wp2_with first | ((with_reducible apply wps_boxa S);(case hx=>rfl);clear S;intro bx wz S) | ((with_reducible apply wps_load S 0);(case hx|hi|hu=>rfl);(case hT=>decide +kernel))
    go_ret
    exact ⟨ret_int HE.out.symm,S.below⟩
  exfalso
  apply hz
  omega
 case pos=>
  have HZ:=Lib.hid hz
  unfold sizesOk at hz
  have z1 : ¬ (c.lps.length : Int) < 1:=by omega
  have z2 : ¬ (32 : Int) < c.lps.length:=by omega
  have z3 : ¬ (c.programs.length : Int) < 1:=by omega
  have z4 : ¬ (32 : Int) < c.programs.length:=by omega
  have z5 : ¬ c.fin < 1:=by omega
  have z6 : ¬ 1073741824 < c.fin:=by omega
  have z7 : ¬ c.fuel < 1:=by omega
  have z8 : ¬ 1024 < c.fuel:=by omega
  have z9 : ¬ c.fan < 0:=by omega
  have z10 : ¬ 8 < c.fan:=by omega
  clear hz
  by_cases gs : (256 : Int) < c.starts.length
  · have HE:=Lib.hid (cfg_starts HZ.out (by omega))
    go_enter Tryz.func42,Tryz.ntmps42
    go_wp2_with first | ((with_reducible apply wps_boxa S);(case hx=>rfl);clear S;intro bx wz S) | ((with_reducible apply wps_load S 0);(case hx|hi|hu=>rfl);(case hT=>decide +kernel))
    go_ret
    exact ⟨ret_int HE.out.symm,S.below⟩
  have gs2 : ¬ 256 < c.starts.length:=by omega
  go_enter Tryz.func42,Tryz.ntmps42
  go_wp2_with first | ((with_reducible apply wps_boxa S);(case hx=>rfl);clear S;intro bx wz S) | ((with_reducible apply wps_load S 0);(case hx|hi|hu=>rfl);(case hT=>decide +kernel))
  clear z1 z2 z3 z4 z5 z6 z7 z8 z9 z10
  go_loopw [3] (fun i wr=>RcRel bx (.slice aP c.programs.length cP) (.slice aL c.lps.length cL) (.slice aS c.starts.length cS) hs c c.programs.length (fun j=>∀ (q : Nat) y,q < j → c.programs[q]? = some y → codeE y = 0) w i wr) (fun i _=>c.programs.length - (intOf i).toNat)
  case atStart=>exact ⟨0,Nat.zero_le _,rfl,fun q y h=>by omega,S⟩
  case round=>
   clear S
   obtain ⟨j,hj,rfl,Hz,S⟩:=hrel
   by_cases hlt : j < c.programs.length
   · obtain ⟨p,hp⟩ : ∃ p,c.programs[j]? = some p:=⟨_,List.getElem?_eq_getElem hlt⟩
     obtain ⟨v,hv⟩ : ∃ v,hs[j]? = some v:=⟨_,List.getElem?_eq_getElem (by omega)⟩
     obtain ⟨R,o,rfl⟩ : ∃ R o,aP = some ⟨R,o,none⟩:=(S.sl 2 rfl).elim fun F h=>h.head (by omega)
     have hlt2 : (j : Int) < c.programs.length:=by omega
     obtain ⟨m,hm⟩ : ∃ m,codeE p = m:=⟨_,rfl⟩
     have hc:=fun w F h=>rcode_calls v p w F h
     rw [hm] at hc
     have Hp:=Lib.hid hp
     have Hv:=Lib.hid hv
     have Hc:=Lib.hid hc
     have Hm:=Lib.hid hm
     clear hp hv hc hm
     by_cases h0 : m = 0
     · subst h0
       go_wp2_with first | ((with_reducible apply wps_load_el S 2 (hj:=Hv.out) (q:=0) (u:=v));(case hx|hi=>rfl);(case hn=>omega);(case hu=>rfl);(case hT=>decide +kernel)) | (go_at_call 69;refine Calls.mono (Hc.out _ _ ((S.slsEl 1 rfl Hv.out Hp.out).get (i:=0) rfl).choose_spec) ?_;rintro e wz ⟨rfl,hE⟩;replace S:=S.ext (Keep.of_below hE);clear hE) | ((with_reducible apply wps_load S 0);(case hx|hi|hu=>rfl);(case hT=>decide +kernel))
       go_roundw
       case rel=>exact ⟨j + 1,by omega,by go_num,snoc_all Hz.out Hp.out Hm.out,S⟩
       case measure=>first | (simp [intOf];done) | (simp [intOf];omega)
     · have h1 : (m != 0) = true:=by simpa using h0
       have H0:=Lib.hid h0
       clear h0
       go_wp2_with first | ((with_reducible apply wps_load_el S 2 (hj:=Hv.out) (q:=0) (u:=v));(case hx|hi=>rfl);(case hn=>omega);(case hu=>rfl);(case hT=>decide +kernel)) | (go_at_call 69;refine Calls.mono (Hc.out _ _ ((S.slsEl 1 rfl Hv.out Hp.out).get (i:=0) rfl).choose_spec) ?_;rintro e wz ⟨rfl,hE⟩;replace S:=S.ext (Keep.of_below hE);clear hE) | ((with_reducible apply wps_load S 0);(case hx|hi|hu=>rfl);(case hT=>decide +kernel))
       go_ret
       refine ⟨ret_int (cfg_prog HZ.out gs2 ?_ H0.out).symm,S.below⟩
       refine firstE_at (j:=j) (fun q y hq hy=>?_) (by rw [List.getElem?_map,Hp.out];simp [Hm.out]) H0.out
       rw [List.getElem?_map] at hy
       cases hp : c.programs[q]? with
       | none=>rw [hp] at hy;cases hy
       | some z=>rw [hp] at hy;simp at hy;subst hy;exact Hz.out q z hq hp
   · obtain rfl : j = c.programs.length:=by omega
     have H3 : Hid (programsE c = 0):=firstE_zero.2 fun x hx=>by
      obtain ⟨p,hp,rfl⟩:=List.mem_map.1 hx
      exact all_of Hz.out p hp
     clear Hz
     go_wp2_with first | ((with_reducible apply wps_load S 0);(case hx|hi|hu=>rfl);(case hT=>decide +kernel))
     go_loopw [6] (fun i wr=>RcRel bx (.slice aP c.programs.length cP) (.slice aL c.lps.length cL) (.slice aS c.starts.length cS) hs c c.lps.length (fun j=>∀ (q : Nat) y,q < j → c.lps[q]? = some y → 0 ≤ y.program ∧ y.program < c.programs.length) w i wr) (fun i _=>c.lps.length - (intOf i).toNat)
     case atStart=>exact ⟨0,Nat.zero_le _,rfl,fun q y h=>by omega,S⟩
     case round=>
      clear S
      obtain ⟨j,hj,rfl,Hz,S⟩:=hrel
      by_cases hlt : j < c.lps.length
      · obtain ⟨p,hp⟩ : ∃ p,c.lps[j]? = some p:=⟨_,List.getElem?_eq_getElem hlt⟩
        obtain ⟨R,o,rfl⟩ : ∃ R o,aL = some ⟨R,o,none⟩:=(S.sl 3 rfl).elim fun F h=>h.head (by omega)
        have hlt2 : (j : Int) < c.lps.length:=by omega
        have Hp:=Lib.hid hp
        clear hp
        by_cases g1 : p.program < 0
        · go_wp2_with first | ((with_reducible refine wpList_skip ?hw ?_);(case hw=>with_unfolding_all rfl);simp only [Act.put,setIfInBounds_toArray,set_cons_succ,set_cons_zero]) | ((with_reducible apply wps_load_el S 3 (hj:=Hp.out) (q:=0) (u:=.int .i64 p.program));(case hx|hi=>rfl);(case hn=>omega);(case hu=>rfl);(case hT=>decide +kernel)) | ((with_reducible refine tot_done ?ht ?_);(case ht=>kernel_rfl)) | ((with_reducible apply wps_text S);(case hm=>kernel_rfl);(case hB=>decide +kernel);clear S;intro wz S) | ((with_reducible apply wps_load S 0);(case hx|hi|hu=>rfl);(case hT=>decide +kernel))
          go_ret
          exact ⟨ret_int (cfg_ends HZ.out gs2 H3.out (by rintro ⟨h,_⟩;have:=(h p (List.mem_of_getElem? Hp.out)).1;omega)).symm,S.below⟩
        by_cases g2 : (c.programs.length : Int) ≤ p.program
        · go_wp2_with first | ((with_reducible apply wps_load_el S 3 (hj:=Hp.out) (q:=0) (u:=.int .i64 p.program));(case hx|hi=>rfl);(case hn=>omega);(case hu=>rfl);(case hT=>decide +kernel)) | ((with_reducible refine tot_done ?ht ?_);(case ht=>kernel_rfl)) | ((with_reducible apply wps_text S);(case hm=>kernel_rfl);(case hB=>decide +kernel);clear S;intro wz S) | ((with_reducible apply wps_load S 0);(case hx|hi|hu=>rfl);(case hT=>decide +kernel))
          go_ret
          exact ⟨ret_int (cfg_ends HZ.out gs2 H3.out (by rintro ⟨h,_⟩;have:=(h p (List.mem_of_getElem? Hp.out)).2;omega)).symm,S.below⟩
        go_wp2_with first | ((with_reducible apply wps_load_el S 3 (hj:=Hp.out) (q:=0) (u:=.int .i64 p.program));(case hx|hi=>rfl);(case hn=>omega);(case hu=>rfl);(case hT=>decide +kernel)) | ((with_reducible refine tot_done ?ht ?_);(case ht=>kernel_rfl)) | ((with_reducible apply wps_text S);(case hm=>kernel_rfl);(case hB=>decide +kernel);clear S;intro wz S) | ((with_reducible apply wps_load S 0);(case hx|hi|hu=>rfl);(case hT=>decide +kernel))
        go_roundw
        case rel=>exact ⟨j + 1,by omega,by go_num,snoc_all Hz.out Hp.out ⟨by omega,by omega⟩,S⟩
        case measure=>first | (simp [intOf];done) | (simp [intOf];omega)
      · obtain rfl : j = c.lps.length:=by omega
        have H4:=Lib.hid (all_of Hz.out)
        clear Hz
        go_wp2_with first | ((with_reducible apply wps_load S 0);(case hx|hi|hu=>rfl);(case hT=>decide +kernel))
        go_loopw [7] (fun i wr=>RcRel bx (.slice aP c.programs.length cP) (.slice aL c.lps.length cL) (.slice aS c.starts.length cS) hs c c.starts.length (fun j=>∀ (q : Nat) (y : Start),q < j → c.starts[q]? = some y → 0 ≤ y.dst ∧ y.dst < c.lps.length) w i wr) (fun i _=>c.starts.length - (intOf i).toNat)
        case atStart=>exact ⟨0,Nat.zero_le _,rfl,fun q y h=>by omega,S⟩
        case round=>
         clear S
         obtain ⟨j,hj,rfl,Hz,S⟩:=hrel
         by_cases hlt : j < c.starts.length
         · obtain ⟨p,hp⟩ : ∃ p,c.starts[j]? = some p:=⟨_,List.getElem?_eq_getElem hlt⟩
           obtain ⟨R,o,rfl⟩ : ∃ R o,aS = some ⟨R,o,none⟩:=(S.sl 4 rfl).elim fun F h=>h.head (by omega)
           have hlt2 : (j : Int) < c.starts.length:=by omega
           have Hp:=Lib.hid hp
           clear hp
           by_cases g1 : p.dst < 0
           · go_wp2_with first | ((with_reducible refine wpList_skip ?hw ?_);(case hw=>with_unfolding_all rfl);simp only [Act.put,setIfInBounds_toArray,set_cons_succ,set_cons_zero]) | ((with_reducible apply wps_load_el S 4 (hj:=Hp.out) (q:=0) (u:=.int .i64 p.dst));(case hx|hi=>rfl);(case hn=>omega);(case hu=>rfl);(case hT=>decide +kernel)) | ((with_reducible refine tot_done ?ht ?_);(case ht=>kernel_rfl)) | ((with_reducible apply wps_text S);(case hm=>kernel_rfl);(case hB=>decide +kernel);clear S;intro wz S) | ((with_reducible apply wps_load S 0);(case hx|hi|hu=>rfl);(case hT=>decide +kernel))
             go_ret
             exact ⟨ret_int (cfg_ends HZ.out gs2 H3.out (by rintro ⟨_,h⟩;have:=(h p (List.mem_of_getElem? Hp.out)).1;omega)).symm,S.below⟩
           by_cases g2 : (c.lps.length : Int) ≤ p.dst
           · go_wp2_with first | ((with_reducible apply wps_load_el S 4 (hj:=Hp.out) (q:=0) (u:=.int .i64 p.dst));(case hx|hi=>rfl);(case hn=>omega);(case hu=>rfl);(case hT=>decide +kernel)) | ((with_reducible refine tot_done ?ht ?_);(case ht=>kernel_rfl)) | ((with_reducible apply wps_text S);(case hm=>kernel_rfl);(case hB=>decide +kernel);clear S;intro wz S) | ((with_reducible apply wps_load S 0);(case hx|hi|hu=>rfl);(case hT=>decide +kernel))
             go_ret
             exact ⟨ret_int (cfg_ends HZ.out gs2 H3.out (by rintro ⟨_,h⟩;have:=(h p (List.mem_of_getElem? Hp.out)).2;omega)).symm,S.below⟩
           go_wp2_with first | ((with_reducible apply wps_load_el S 4 (hj:=Hp.out) (q:=0) (u:=.int .i64 p.dst));(case hx|hi=>rfl);(case hn=>omega);(case hu=>rfl);(case hT=>decide +kernel)) | ((with_reducible refine tot_done ?ht ?_);(case ht=>kernel_rfl)) | ((with_reducible apply wps_text S);(case hm=>kernel_rfl);(case hB=>decide +kernel);clear S;intro wz S) | ((with_reducible apply wps_load S 0);(case hx|hi|hu=>rfl);(case hT=>decide +kernel))
           go_roundw
           case rel=>exact ⟨j + 1,by omega,by go_num,snoc_all Hz.out Hp.out ⟨by omega,by omega⟩,S⟩
           case measure=>first | (simp [intOf];done) | (simp [intOf];omega)
         · obtain rfl : j = c.starts.length:=by omega
           have H5:=Lib.hid (all_of Hz.out)
           clear Hz
           go_wp2_with first | ((with_reducible apply wps_load S 0);(case hx|hi|hu=>rfl);(case hT=>decide +kernel))
           go_loopw [8] (fun i wr=>RcRel bx (.slice aP c.programs.length cP) (.slice aL c.lps.length cL) (.slice aS c.starts.length cS) hs c c.starts.length (fun j=>∀ (q : Nat) (y : Start),q < j → c.starts[q]? = some y → 0 ≤ y.at_ ∧ y.at_ ≤ c.fin) w i wr) (fun i _=>c.starts.length - (intOf i).toNat)
           case atStart=>exact ⟨0,Nat.zero_le _,rfl,fun q y h=>by omega,S⟩
           case round=>
            clear S
            obtain ⟨j,hj,rfl,Hz,S⟩:=hrel
            by_cases hlt : j < c.starts.length
            · obtain ⟨p,hp⟩ : ∃ p,c.starts[j]? = some p:=⟨_,List.getElem?_eq_getElem hlt⟩
              obtain ⟨R,o,rfl⟩ : ∃ R o,aS = some ⟨R,o,none⟩:=(S.sl 4 rfl).elim fun F h=>h.head (by omega)
              have hlt2 : (j : Int) < c.starts.length:=by omega
              have Hp:=Lib.hid hp
              clear hp
              by_cases g1 : p.at_ < 0
              · go_wp2_with first | ((with_reducible refine wpList_skip ?hw ?_);(case hw=>with_unfolding_all rfl);simp only [Act.put,setIfInBounds_toArray,set_cons_succ,set_cons_zero]) | ((with_reducible apply wps_load_el S 4 (hj:=Hp.out) (q:=1) (u:=.int .i64 p.at_));(case hx|hi=>rfl);(case hn=>omega);(case hu=>rfl);(case hT=>decide +kernel)) | ((with_reducible refine tot_done ?ht ?_);(case ht=>kernel_rfl)) | ((with_reducible apply wps_text S);(case hm=>kernel_rfl);(case hB=>decide +kernel);clear S;intro wz S) | ((with_reducible apply wps_load S 0);(case hx|hi|hu=>rfl);(case hT=>decide +kernel))
                go_ret
                exact ⟨ret_int (cfg_times HZ.out gs2 H3.out ⟨H4.out,H5.out⟩ (by intro h;have:=(h p (List.mem_of_getElem? Hp.out)).1;omega)).symm,S.below⟩
              by_cases g2 : c.fin < p.at_
              · go_wp2_with first | ((with_reducible apply wps_load_el S 4 (hj:=Hp.out) (q:=1) (u:=.int .i64 p.at_));(case hx|hi=>rfl);(case hn=>omega);(case hu=>rfl);(case hT=>decide +kernel)) | ((with_reducible refine tot_done ?ht ?_);(case ht=>kernel_rfl)) | ((with_reducible apply wps_text S);(case hm=>kernel_rfl);(case hB=>decide +kernel);clear S;intro wz S) | ((with_reducible apply wps_load S 0);(case hx|hi|hu=>rfl);(case hT=>decide +kernel))
                go_ret
                exact ⟨ret_int (cfg_times HZ.out gs2 H3.out ⟨H4.out,H5.out⟩ (by intro h;have:=(h p (List.mem_of_getElem? Hp.out)).2;omega)).symm,S.below⟩
              go_wp2_with first | ((with_reducible apply wps_load_el S 4 (hj:=Hp.out) (q:=1) (u:=.int .i64 p.at_));(case hx|hi=>rfl);(case hn=>omega);(case hu=>rfl);(case hT=>decide +kernel)) | ((with_reducible refine tot_done ?ht ?_);(case ht=>kernel_rfl)) | ((with_reducible apply wps_text S);(case hm=>kernel_rfl);(case hB=>decide +kernel);clear S;intro wz S) | ((with_reducible apply wps_load S 0);(case hx|hi|hu=>rfl);(case hT=>decide +kernel))
              go_roundw
              case rel=>exact ⟨j + 1,by omega,by go_num,snoc_all Hz.out Hp.out ⟨by omega,by omega⟩,S⟩
              case measure=>first | (simp [intOf];done) | (simp [intOf];omega)
            · obtain rfl : j = c.starts.length:=by omega
              go_wp2_with first | ((with_reducible apply wps_load S 0);(case hx|hi|hu=>rfl);(case hT=>decide +kernel))
              go_ret
              exact ⟨ret_int (cfg_fine HZ.out gs2 H3.out ⟨H4.out,H5.out⟩ (all_of Hz.out)).symm,S.below⟩
end Go.Proofs.YtmjljoaakdocaaaGreatDoor
