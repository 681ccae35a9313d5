import Derived.Test.YtmjljoaakdocaaaGreatDoorY12
import Derived.Test.YtmjljoaakdocaaaGreatDoorY07
import Derived.Test.YtmjljoaakdocaaaGreatDoorY02
/- The walk of slices.BinarySearchFunc of events, by inq's order. -/
set_option maxHeartbeats 16000000
set_option maxRecDepth 100000
namespace Go.Proofs.YtmjljoaakdocaaaGreatDoor
open Go Go.RowKit Reg Mem
open List (set_cons_succ set_cons_zero setIfInBounds_toArray cons_append nil_append)
theorem tcmp_self (a : Event) : a.tcmp a = 0:=by
 have hl : a.key.lt a.key = false:=by
  rw [← Bool.not_eq_true,Key.lt_iff];omega
 unfold Event.tcmp
 rw [hl]
 simp [icmp,orL]
theorem tcmp_zero (a b : Event) : (a.tcmp b == 0) = decide (a = b):=by
 by_cases h : a = b
 · subst h;rw [tcmp_self];simp
 · rw [decide_eq_false h]
   by_cases h0 : a.tcmp b = 0
   · refine absurd ?_ h
     have hl : ∀ k l : Key,k.lt l = decide (k.at_ < l.at_ ∨ (k.at_ = l.at_ ∧ (k.src < l.src ∨ (k.src = l.src ∧ (k.sent < l.sent ∨ (k.sent = l.sent ∧ k.no < l.no)))))):=fun k l=>by
      rw [Bool.eq_iff_iff,Key.lt_iff];simp
     unfold Event.tcmp at h0
     rw [hl,hl] at h0
     simp only [decide_eq_true_eq] at h0
     split at h0
     · simp at h0
     · split at h0
       · simp at h0
       · rename_i g1 g2
         obtain ⟨⟨a1,a2,a3,a4⟩,a5,a6,a7⟩:=a;obtain ⟨⟨b1,b2,b3,b4⟩,b5,b6,b7⟩:=b
         simp only [orL] at h0
         rcases icmp_cases a5 b5 with ⟨h1,e1⟩ | ⟨h1,e1⟩ | ⟨h1,e1⟩ <;> rw [e1] at h0
         · simp at h0
         · rcases icmp_cases a6 b6 with ⟨h2,e2⟩ | ⟨h2,e2⟩ | ⟨h2,e2⟩ <;> rw [e2] at h0
           · simp at h0
           · rcases icmp_cases a7 b7 with ⟨h3,e3⟩ | ⟨h3,e3⟩ | ⟨h3,e3⟩ <;> rw [e3] at h0
             · simp at h0
             · simp only [Event.mk.injEq,Key.mk.injEq] at *
               omega
             · simp at h0
           · simp at h0
         · simp at h0
   · simpa using h0
theorem icmp_is {a b : Event} {v : Int} (h : a.tcmp b = v) (w : World) : Calls Tryz.prog 178 #[.agg #[.int .i64 a.key.at_,.int .i64 a.key.src,.int .i64 a.key.sent,.int .i64 a.key.no,.int .i64 a.dst,.int .i64 a.kind,.int .i64 a.data],.agg #[.int .i64 b.key.at_,.int .i64 b.key.src,.int .i64 b.key.sent,.int .i64 b.key.no,.int .i64 b.dst,.int .i64 b.kind,.int .i64 b.data]] w fun e w'=>e = .returned (.int .i64 v) ∧ Below w.heap.size w w':=by
 subst h;exact icmpare_calls a b w
def BsERel (L : List Asn) (l : List Event) (e : Event) (w : World) (i j : Value) (wr : World) : Prop:=
 ∃ p q : Nat,i = .int .i64 p ∧ j = .int .i64 q ∧ p ≤ q ∧ q ≤ l.length ∧ Hid (∀ (k : Nat) x,k < p → l[k]? = some x → evLt x e) ∧ Hid (∀ (k : Nat) x,q ≤ k → l[k]? = some x → ¬ evLt x e) ∧ St (fun _=>False) w wr L
theorem half_ltE {i j : Nat} (h : i < j) : i ≤ (i + j) / 2 ∧ (i + j) / 2 < j:=by omega
def BsEPost (l : List Event) (e : Event) (w : World) (r : Ending) (w' : World) : Prop:=
 r = .returned (.tuple #[.int .i64 (plT l e),.bool (decide (e ∈ l))]) ∧ Below w.heap.size w w'
theorem bse_calls (v : Value) (l : List Event) (e : Event) (w : World) (F : Nat → Prop) (h : (Sl true Event.cells 7 v l).at_ w F) (hl : UpT l) (hn : l.length ≤ 65536) :
 Calls Tryz.prog 195 #[v,.agg #[.int .i64 e.key.at_,.int .i64 e.key.src,.int .i64 e.key.sent,.int .i64 e.key.no,.int .i64 e.dst,.int .i64 e.kind,.int .i64 e.data],.func (.func 178) #[] #[]] w (BsEPost l e w):=by
 have S : St (fun _=>False) w w [Sl true Event.cells 7 v l]:=(St.init _ w).share (A:=Sl true Event.cells 7 v l) rfl rfl h
 clear h
 obtain ⟨ad,c,rfl,_⟩:=(S.sl 0 rfl).elim fun _ h=>h.form
 have hn2 : (l.length : Int) ≤ 65536:=by omega
 have HU:=Lib.hid hl
 clear hl
 go_enter Tryz.func195,Tryz.ntmps195
 go_wp2_with first | ((with_reducible apply wps_boxa (E:=58) S);(case hx=>rfl);clear S;intro be wz S)
 go_loopw [9,10] (fun i j wr=>BsERel _ l e w i j wr) (fun i j _=>(intOf j - intOf i).toNat)
 case atStart=>exact ⟨0,l.length,rfl,rfl,Nat.zero_le _,Nat.le_refl _,Lib.hid (fun k x hk=>by omega),Lib.hid (fun k x hk hx=>by have:=(List.getElem?_eq_some_iff.1 hx).1;omega),S⟩
 case round=>
  clear S
  obtain ⟨i,j,rfl,rfl,hij0,hjl,H1,H2,S⟩:=hrel
  by_cases hij : i < j
  · have hh:=half_ltE hij
    obtain ⟨k,hk⟩ : ∃ k,k = (i + j) / 2:=⟨_,rfl⟩
    rw [← hk] at hh
    obtain ⟨hh1,hh2⟩:=hh
    have hk2 : ((i : Int) + j) / 2 = k:=by omega
    obtain ⟨x,hx⟩ : ∃ x,l[k]? = some x:=⟨_,List.getElem?_eq_getElem (by omega)⟩
    obtain ⟨R,o,rfl⟩ : ∃ R o,ad = some ⟨R,o,none⟩:=(S.sl 1 rfl).elim fun F h=>h.head (by omega)
    have hkl : (k : Int) < l.length:=by omega
    have hij2 : (i : Int) < j:=by omega
    have HX:=Lib.hid hx
    obtain ⟨cv,hcv⟩ : ∃ cv,x.tcmp e = cv:=⟨_,rfl⟩
    have HC:=Lib.hid fun w=>icmp_is hcv w
    have HT:=Lib.hid (tcmp_neg x e)
    rw [hcv] at HT
    have Hk:=Lib.hid hk
    have Hx:=Lib.hid hx
    have Hcv:=Lib.hid hcv
    clear hk hx hcv
    by_cases hlt : cv < 0
    · have hc1 : decide (cv < 0) = true:=decide_eq_true hlt
      have HE : Hid (evLt x e):=by have:=HT.out;rw [hc1] at this;exact Lib.hid (of_decide_eq_true this.symm)
      have H3 : Hid (∀ (q : Nat) y,q < k + 1 → l[q]? = some y → evLt y e):=Lib.hid fun q y hq hy=>by
       have hy2 : q < l.length:=(List.getElem?_eq_some_iff.1 hy).1
       rcases Nat.lt_or_eq_of_le (Nat.le_of_lt_succ hq) with hq | rfl
       · refine Classical.byContradiction fun hne=>?_
         have hp:=(List.pairwise_iff_getElem.1 HU.out) q k hy2 (by omega) hq
         have e1 : l[q] = y:=by rw [List.getElem?_eq_getElem hy2] at hy;exact Option.some.inj hy
         have e2 : l[k]'(by omega) = x:=by have:=HX.out;rw [List.getElem?_eq_getElem (by omega)] at this;exact Option.some.inj this
         rw [e1,e2] at hp
         rcases Classical.em (evLt e y) with h | h
         · exact hp (evLt_trans HE.out h)
         · have:=evLt_total hne h;subst this;exact hp HE.out
       · rw [HX.out] at hy;cases hy;exact HE.out
      clear hlt
      go_wp2_with first | ((with_reducible apply wps_loada_el S 1 (hj:=HX.out) (q:=0) (vs:=[.int .i64 x.key.at_,.int .i64 x.key.src,.int .i64 x.key.sent,.int .i64 x.key.no,.int .i64 x.dst,.int .i64 x.kind,.int .i64 x.data]) (m:=7));(case hx|hi=>rfl);(case hn=>omega);(case hm|hv=>rfl);(case hT=>decide +kernel)) | ((with_reducible apply wps_loada (T:=58) (k:=7) S 0);(case hx|hi=>rfl);(case hk=>exact nle rfl);(case hT=>decide +kernel)) | (go_at_call 178;have hcz:=fun w=>HC.out w;(with_reducible refine Calls.mono (hcz _) ?_);clear hcz;rintro e wz ⟨rfl,hE⟩;replace S:=S.ext (Keep.of_below hE);clear hE) | ((with_reducible refine tot_done ?ht ?_);(case ht=>kernel_rfl)) | ((with_reducible apply wps_text S);(case hm=>kernel_rfl);(case hB=>decide +kernel);clear S;intro wz S)
      go_roundw
      case rel=>exact ⟨k + 1,j,by go_num,rfl,by omega,hjl,H3,H2,S⟩
      case measure=>first | (simp [intOf];done) | (simp [intOf];omega)
    · have hc1 : decide (cv < 0) = false:=decide_eq_false hlt
      have HE : Hid (¬ evLt x e):=by have:=HT.out;rw [hc1] at this;exact Lib.hid (of_decide_eq_false this.symm)
      have H3 : Hid (∀ (q : Nat) y,k ≤ q → l[q]? = some y → ¬ evLt y e):=Lib.hid fun q y hq hy=>by
       have hy2 : q < l.length:=(List.getElem?_eq_some_iff.1 hy).1
       rcases Nat.lt_or_eq_of_le hq with hq | rfl
       · intro hye
         have hp:=(List.pairwise_iff_getElem.1 HU.out) k q (by omega) hy2 hq
         have e1 : l[q] = y:=by rw [List.getElem?_eq_getElem hy2] at hy;exact Option.some.inj hy
         have e2 : l[k]'(by omega) = x:=by have:=HX.out;rw [List.getElem?_eq_getElem (by omega)] at this;exact Option.some.inj this
         rw [e1,e2] at hp
         rcases Classical.em (evLt e x) with h | h
         · exact hp (evLt_trans hye h)
         · have:=evLt_total HE.out h;subst this;exact hp hye
       · rw [HX.out] at hy;cases hy;exact HE.out
      clear hlt
      go_wp2_with first | ((with_reducible apply wps_loada_el S 1 (hj:=HX.out) (q:=0) (vs:=[.int .i64 x.key.at_,.int .i64 x.key.src,.int .i64 x.key.sent,.int .i64 x.key.no,.int .i64 x.dst,.int .i64 x.kind,.int .i64 x.data]) (m:=7));(case hx|hi=>rfl);(case hn=>omega);(case hm|hv=>rfl);(case hT=>decide +kernel)) | ((with_reducible apply wps_loada (T:=58) (k:=7) S 0);(case hx|hi=>rfl);(case hk=>exact nle rfl);(case hT=>decide +kernel)) | (go_at_call 178;have hcz:=fun w=>HC.out w;(with_reducible refine Calls.mono (hcz _) ?_);clear hcz;rintro e wz ⟨rfl,hE⟩;replace S:=S.ext (Keep.of_below hE);clear hE) | ((with_reducible refine tot_done ?ht ?_);(case ht=>kernel_rfl)) | ((with_reducible apply wps_text S);(case hm=>kernel_rfl);(case hB=>decide +kernel);clear S;intro wz S)
      go_roundw
      case rel=>exact ⟨i,k,rfl,rfl,by omega,by omega,H1,H3,S⟩
      case measure=>first | (simp [intOf];done) | (simp [intOf];omega)
  · obtain rfl : i = j:=by omega
    have hpl : i = plT l e:=plT_at hjl H1.out H2.out
    have HM:=Lib.hid (plT_mem (e:=e) HU.out)
    rw [← hpl] at HM
    by_cases hlt : i < l.length
    · obtain ⟨x,hx⟩ : ∃ x,l[i]? = some x:=⟨_,List.getElem?_eq_getElem hlt⟩
      obtain ⟨R,o,rfl⟩ : ∃ R o,ad = some ⟨R,o,none⟩:=(S.sl 1 rfl).elim fun F h=>h.head (by omega)
      have hkl : (i : Int) < l.length:=by omega
      have HX:=Lib.hid hx
      obtain ⟨cv,hcv⟩ : ∃ cv,x.tcmp e = cv:=⟨_,rfl⟩
      have HC:=Lib.hid fun w=>icmp_is hcv w
      have HT:=Lib.hid (tcmp_zero x e)
      rw [hcv] at HT
      have HD : Hid ((cv == 0) = decide (e ∈ l)):=Lib.hid (by
       rw [HT.out,decide_eq_decide,HM.out,hx];simp)
      have f1 : decide ((i : Int) < l.length) = true:=decide_eq_true hkl
      have Hx:=Lib.hid hx
      have Hcv:=Lib.hid hcv
      have Hpl:=Lib.hid hpl
      clear hx hcv hpl
      clear HT HM hkl
      go_wp2_with first | ((with_reducible apply wps_loada_el S 1 (hj:=HX.out) (q:=0) (vs:=[.int .i64 x.key.at_,.int .i64 x.key.src,.int .i64 x.key.sent,.int .i64 x.key.no,.int .i64 x.dst,.int .i64 x.kind,.int .i64 x.data]) (m:=7));(case hx|hi=>rfl);(case hn=>omega);(case hm|hv=>rfl);(case hT=>decide +kernel)) | ((with_reducible apply wps_loada (T:=58) (k:=7) S 0);(case hx|hi=>rfl);(case hk=>exact nle rfl);(case hT=>decide +kernel)) | (go_at_call 178;have hcz:=fun w=>HC.out w;(with_reducible refine Calls.mono (hcz _) ?_);clear hcz;rintro e wz ⟨rfl,hE⟩;replace S:=S.ext (Keep.of_below hE);clear hE) | ((with_reducible refine tot_done ?ht ?_);(case ht=>kernel_rfl)) | ((with_reducible apply wps_text S);(case hm=>kernel_rfl);(case hB=>decide +kernel);clear S;intro wz S)
      (try simp only [Exit.inBlock,Exit.then]);refine bodyPost_ret (results2 rfl (res_tmp rfl) (res_tmp rfl)) rfl ?_
      refine ⟨?_,S.below⟩
      rw [HD.out,Hpl.out]
      rfl
    · obtain rfl : i = l.length:=by omega
      have HD : Hid (decide (e ∈ l) = false):=Lib.hid (decide_eq_false fun hm=>by
       have:=HM.out.1 hm
       simp at this)
      have Hpl:=Lib.hid hpl
      clear hpl
      have f1 : decide ((l.length : Int) < l.length) = false:=decide_eq_false (by omega)
      clear HM hlt hjl hij
      go_wp2_with first | ((with_reducible refine tot_done ?ht ?_);(case ht=>kernel_rfl)) | ((with_reducible apply wps_text S);(case hm=>kernel_rfl);(case hB=>decide +kernel);clear S;intro wz S)
      (try simp only [Exit.inBlock,Exit.then]);refine bodyPost_ret (results2 rfl (res_tmp rfl) (res_tmp rfl)) rfl ?_
      refine ⟨?_,S.below⟩
      rw [HD.out,← Hpl.out]
      rfl
end Go.Proofs.YtmjljoaakdocaaaGreatDoor
/- Stable sorting, plain: events with their places, sorted by keys, and by places where keys are the same. -/
namespace Go.Proofs.YtmjljoaakdocaaaGreatDoor
abbrev TE:=Event × Nat
def tless (x y : TE) : Bool:=x.1.key.lt y.1.key
def slt (x y : TE) : Prop:=tless x y = true ∨ (tless y x = false ∧ x.2 < y.2)
abbrev Srt (l : List TE) : Prop:=l.Pairwise slt
theorem slt_trans {x y z : TE} (h : slt x y) (k : slt y z) : slt x z:=by
 simp only [slt,tless,Bool.eq_false_iff,ne_eq,Key.lt_iff] at *;omega
theorem slt_irrefl (x : TE) : ¬ slt x x:=by
 simp only [slt,tless,Bool.eq_false_iff,ne_eq,Key.lt_iff];omega
theorem slt_asymm {x y : TE} (h : slt x y) : ¬ slt y x:=fun k=>slt_irrefl _ (slt_trans h k)
theorem slt_yes {x y : TE} (h : tless x y = true) : slt x y:=.inl h
theorem slt_no {x y : TE} (h : tless y x = false) (k : x.2 < y.2) : slt x y:=.inr ⟨h,k⟩
theorem tless_down {x y z : TE} (h : slt x y) (k : tless y z = true) : tless x z = true:=by
 simp only [slt,tless,Bool.eq_false_iff,ne_eq,Key.lt_iff] at *;omega
theorem tless_up {x y z : TE} (h : slt x y) (k : tless z x = true) : tless z y = true:=by
 simp only [slt,tless,Bool.eq_false_iff,ne_eq,Key.lt_iff] at *;omega
theorem srt_uniq : ∀ {l m : List TE},Srt l → Srt m → l.Perm m → l = m
 | [],m,_,_,hp=>by simpa using hp
 | a :: l,[],_,_,hp=>by simpa using hp.length_eq
 | a :: l,b :: m,hl,hm,hp=>by
   have hl':=List.pairwise_cons.1 hl
   have hm':=List.pairwise_cons.1 hm
   have hab : a = b:=by
    have h1 : a ∈ b :: m:=hp.mem_iff.1 (by simp)
    have h2 : b ∈ a :: l:=hp.mem_iff.2 (by simp)
    rcases List.mem_cons.1 h1 with h | h
    · exact h
    · rcases List.mem_cons.1 h2 with h3 | h3
      · exact h3.symm
      · exact absurd (hl'.1 b h3) (slt_asymm (hm'.1 a h))
   subst hab
   rw [srt_uniq hl'.2 hm'.2 (List.Perm.cons_inv hp)]
structure BS (f : Nat → Bool) (lo hi i j : Nat) : Prop where
 le1 : lo ≤ i
 le2 : i ≤ j
 le3 : j ≤ hi
 yes : ∀ k,lo ≤ k → k < i → f k = true
 no : ∀ k,j ≤ k → k < hi → f k = false
def Falls (f : Nat → Bool) (lo hi : Nat) : Prop:=∀ k k',lo ≤ k → k ≤ k' → k' < hi → f k' = true → f k = true
theorem BS.start {f : Nat → Bool} {lo hi : Nat} (h : lo ≤ hi) : BS f lo hi lo hi:=⟨Nat.le_refl _,h,Nat.le_refl _,fun k h1 h2=>by omega,fun k h1 h2=>by omega⟩
theorem BS.up {f : Nat → Bool} {lo hi i j : Nat} (h : BS f lo hi i j) (hf : Falls f lo hi) {k : Nat} (h1 : i ≤ k) (h2 : k < j) (hk : f k = true) : BS f lo hi (k + 1) j:=
 ⟨by have:=h.le1;omega,by omega,h.le3,fun q hq hq'=>hf q k hq (by omega) (by have:=h.le3;omega) hk,h.no⟩
theorem BS.down {f : Nat → Bool} {lo hi i j : Nat} (h : BS f lo hi i j) (hf : Falls f lo hi) {k : Nat} (h1 : i ≤ k) (h2 : k < j) (hk : f k = false) : BS f lo hi i k:=
 ⟨h.le1,h1,by have:=h.le3;omega,h.yes,fun q hq hq'=>by
   cases hv : f q with
   | false=>rfl
   | true=>rw [hf k q (by have:=h.le1;omega) hq hq' hv] at hk;cases hk⟩
def Merged (p l r q ys : List TE) : Prop:=∃ s : List TE,s.Perm (l ++ r) ∧ Srt s ∧ ys = p ++ s ++ q
theorem srt_get {l : List TE} (h : Srt l) {i j : Nat} {x y : TE} (hij : i < j) (hx : l[i]? = some x) (hy : l[j]? = some y) : slt x y:=by
 obtain ⟨h1,rfl⟩:=List.getElem?_eq_some_iff.1 hx
 obtain ⟨h2,rfl⟩:=List.getElem?_eq_some_iff.1 hy
 exact List.pairwise_iff_getElem.1 h i j h1 h2 hij
theorem tless_run {l : List TE} (h : Srt l) {i j : Nat} {x y z : TE} (hij : i ≤ j) (hx : l[i]? = some x) (hy : l[j]? = some y) (hz : tless y z = true) : tless x z = true:=by
 by_cases e : i = j
 · subst e;rw [hx] at hy;cases hy;exact hz
 · exact tless_down (srt_get h (by omega) hx hy) hz
theorem tless_run' {l : List TE} (h : Srt l) {i j : Nat} {x y z : TE} (hij : i ≤ j) (hx : l[i]? = some x) (hy : l[j]? = some y) (hz : tless z x = true) : tless z y = true:=by
 by_cases e : i = j
 · subst e;rw [hx] at hy;cases hy;exact hz
 · exact tless_up (srt_get h (by omega) hx hy) hz
def att (xs : List TE) (k : Nat) : TE:=xs[k]?.getD (⟨⟨0,0,0,0⟩,0,0,0⟩,0)
theorem some_att {xs : List TE} {k : Nat} (h : k < xs.length) : xs[k]? = some (att xs k):=by simp [att,h]
section
variable {p l r q xs : List TE} {a m b : Nat}
structure Parts (p l r q xs : List TE) (a m b : Nat) : Prop where
 eq : xs = p ++ l ++ r ++ q
 ha : a = p.length
 hm : m = a + l.length
 hb : b = m + r.length
theorem Parts.left (h : Parts p l r q xs a m b) {k : Nat} (hk : k < l.length) : xs[a + k]? = l[k]?:=by
 obtain ⟨rfl,rfl,rfl,rfl⟩:=h
 rw [List.append_assoc,List.append_assoc,List.getElem?_append_right (by omega),List.getElem?_append_left (by omega)]
 congr 1;omega
theorem Parts.right (h : Parts p l r q xs a m b) {k : Nat} (hk : k < r.length) : xs[m + k]? = r[k]?:=by
 obtain ⟨rfl,rfl,rfl,rfl⟩:=h
 rw [List.append_assoc (p ++ l),List.getElem?_append_right (by simp),List.getElem?_append_left (by simp;omega)]
 congr 1;simp
theorem Parts.len (h : Parts p l r q xs a m b) : b + q.length = xs.length:=by obtain ⟨rfl,rfl,rfl,rfl⟩:=h;simp;omega
theorem Parts.l_at (h : Parts p l r q xs a m b) {k : Nat} (h1 : a ≤ k) (h2 : k < m) : l[k - a]? = some (att xs k):=by
 have hm:=h.hm
 rw [← h.left (by omega),show a + (k - a) = k by omega]
 exact some_att (by have:=h.len;have:=h.hb;omega)
theorem Parts.r_at (h : Parts p l r q xs a m b) {k : Nat} (h1 : m ≤ k) (h2 : k < b) : r[k - m]? = some (att xs k):=by
 have hb:=h.hb
 rw [← h.right (by omega),show m + (k - m) = k by omega]
 exact some_att (by have:=h.len;omega)
theorem falls1 (h : Parts p l r q xs a m b) (hr : Srt r) (z : TE) : Falls (fun k=>tless (att xs k) z) m b:=fun k k' h1 h2 h3 hv=>
 tless_run hr (i:=k - m) (j:=k' - m) (by omega) (h.r_at h1 (by omega)) (h.r_at (by omega) h3) hv
theorem falls2 (h : Parts p l r q xs a m b) (hl : Srt l) (z : TE) : Falls (fun k=>!tless z (att xs k)) a m:=fun k k' h1 h2 h3 hv=>by
 simp only [Bool.not_eq_true'] at *
 cases hk : tless z (att xs k) with
 | false=>rfl
 | true=>rw [tless_run' hl (i:=k - a) (j:=k' - a) (by omega) (h.l_at h1 (by omega)) (h.l_at (by omega) h3) hk] at hv;cases hv
theorem falls3 (h : Parts p l r q xs a m b) (hl : Srt l) (hr : Srt r) {s e n : Nat} (hs : a ≤ s) (he : e ≤ m) (h1 : ∀ c,s ≤ c → c < e → m ≤ n - c ∧ n - c < b ∧ c ≤ n) : Falls (fun k=>!tless (att xs (n - k)) (att xs k)) s e:=fun k k' g1 g2 g3 hv=>by
 simp only [Bool.not_eq_true'] at *
 cases hk : tless (att xs (n - k)) (att xs k) with
 | false=>rfl
 | true=>
   have c1:=h1 k g1 (by omega)
   have c2:=h1 k' (by omega) g3
   have e1:=tless_run' hl (i:=k - a) (j:=k' - a) (by omega) (h.l_at (by omega) (by omega)) (h.l_at (by omega) (by omega)) hk
   have e2:=tless_run hr (i:=n - k' - m) (j:=n - k - m) (by omega) (h.r_at c2.1 c2.2.1) (h.r_at c1.1 c1.2.1) e1
   rw [e2] at hv;cases hv
theorem merge1 {x : TE} {i : Nat} (h : Parts p [x] r q xs a m b) (hr : Srt r) (ht : ∀ y ∈ r,x.2 < y.2) (hB : BS (fun k=>tless (att xs k) x) m b i i) : Merged p [x] r q (p ++ r.take (i - m) ++ [x] ++ r.drop (i - m) ++ q):=by
 refine ⟨r.take (i - m) ++ [x] ++ r.drop (i - m),?_,?_,by simp⟩
 · have e : r.take (i - m) ++ r.drop (i - m) = r:=List.take_append_drop _ _
   rw [List.append_assoc]
   refine (List.perm_append_comm_assoc _ _ _).trans ?_
   rw [e]
 · have y1 : ∀ z ∈ r.take (i - m),slt z x:=fun z hz=>by
    obtain ⟨k,hk,rfl⟩:=List.mem_take_iff_getElem.1 hz
    have:=hB.yes (m + k) (by omega) (by omega)
    have hb:=h.hb
    have g:=h.r_at (k:=m + k) (by omega) (by omega)
    rw [show m + k - m = k by omega,List.getElem?_eq_getElem (by omega)] at g
    rw [Option.some.inj g];exact slt_yes this
   have y2 : ∀ z ∈ r.drop (i - m),slt x z:=fun z hz=>by
    obtain ⟨k,hk,rfl⟩:=List.mem_drop_iff_getElem.1 hz
    have hb:=h.hb
    have:=hB.no (i + k) (by omega) (by have:=hB.le1;omega)
    have g:=h.r_at (k:=i + k) (by have:=hB.le1;omega) (by have:=hB.le1;omega)
    rw [show i + k - m = (i - m) + k by have:=hB.le1;omega,List.getElem?_eq_getElem (by omega)] at g
    refine slt_no ?_ (ht _ (List.getElem_mem _))
    rw [Option.some.inj g];exact this
   rw [List.append_assoc]
   refine List.pairwise_append.2 ⟨hr.sublist (List.take_sublist _ _),List.pairwise_cons.2 ⟨y2,hr.sublist (List.drop_sublist _ _)⟩,fun u hu v hv=>?_⟩
   rcases List.mem_cons.1 hv with rfl | hv
   · exact y1 u hu
   · exact slt_trans (y1 u hu) (y2 v hv)
theorem merge2 {y : TE} {i : Nat} (h : Parts p l [y] q xs a m b) (hl : Srt l) (ht : ∀ x ∈ l,x.2 < y.2) (hB : BS (fun k=>!tless y (att xs k)) a m i i) : Merged p l [y] q (p ++ l.take (i - a) ++ [y] ++ l.drop (i - a) ++ q):=by
 refine ⟨l.take (i - a) ++ [y] ++ l.drop (i - a),?_,?_,by simp⟩
 · rw [List.append_assoc]
   refine (List.perm_append_comm_assoc _ _ _).trans ?_
   rw [List.take_append_drop]
   exact List.perm_append_comm
 · have hm:=h.hm
   have y1 : ∀ z ∈ l.take (i - a),slt z y:=fun z hz=>by
    obtain ⟨k,hk,rfl⟩:=List.mem_take_iff_getElem.1 hz
    have:=hB.yes (a + k) (by omega) (by omega)
    have g:=h.l_at (k:=a + k) (by omega) (by omega)
    rw [show a + k - a = k by omega,List.getElem?_eq_getElem (by omega)] at g
    refine slt_no ?_ (ht _ (List.getElem_mem _))
    rw [Option.some.inj g];simpa using this
   have y2 : ∀ z ∈ l.drop (i - a),slt y z:=fun z hz=>by
    obtain ⟨k,hk,rfl⟩:=List.mem_drop_iff_getElem.1 hz
    have:=hB.no (i + k) (by omega) (by have:=hB.le1;omega)
    have g:=h.l_at (k:=i + k) (by have:=hB.le1;omega) (by have:=hB.le1;omega)
    rw [show i + k - a = (i - a) + k by have:=hB.le1;omega,List.getElem?_eq_getElem (by omega)] at g
    rw [Option.some.inj g];exact slt_yes (by simpa using this)
   rw [List.append_assoc]
   refine List.pairwise_append.2 ⟨hl.sublist (List.take_sublist _ _),List.pairwise_cons.2 ⟨y2,hl.sublist (List.drop_sublist _ _)⟩,fun u hu v hv=>?_⟩
   rcases List.mem_cons.1 hv with rfl | hv
   · exact y1 u hu
   · exact slt_trans (y1 u hu) (y2 v hv)
structure Cut (l r l1 l2 r1 r2 : List TE) : Prop where
 el : l = l1 ++ l2
 er : r = r1 ++ r2
 h1 : ∀ x ∈ l1,∀ y ∈ r2,slt x y
 h2 : ∀ y ∈ r1,∀ x ∈ l2,slt y x
theorem cut3 (h : Parts p l r q xs a m b) (hl : Srt l) (hr : Srt r) (ht : ∀ x ∈ l,∀ y ∈ r,x.2 < y.2) {s e c mid : Nat} (hmid : mid = (a + b) / 2) (hse : (mid < m ∧ s + b = mid + m ∧ e = mid) ∨ (m ≤ mid ∧ s = a ∧ e = m))
 (hB : BS (fun k=>!tless (att xs (mid + m - 1 - k)) (att xs k)) s e c c) : Cut l r (l.take (c - a)) (l.drop (c - a)) (r.take (mid - c)) (r.drop (mid - c)):=by
 have hm:=h.hm
 have hb:=h.hb
 have b1:=hB.le1
 have b2:=hB.le3
 refine ⟨(List.take_append_drop _ _).symm,(List.take_append_drop _ _).symm,fun x hx y hy=>?_,fun y hy x hx=>?_⟩
 · obtain ⟨k,hk,rfl⟩:=List.mem_take_iff_getElem.1 hx
   obtain ⟨k',hk',rfl⟩:=List.mem_drop_iff_getElem.1 hy
   by_cases hcs : c = s
   · omega
   · have hv:=hB.no
     have:=hB.yes (c - 1) (by omega) (by omega)
     simp only [Bool.not_eq_true'] at this
     have gl:=h.l_at (k:=c - 1) (by omega) (by omega)
     have gr:=h.r_at (k:=mid + m - 1 - (c - 1)) (by omega) (by omega)
     have e1 : tless (att xs (mid + m - 1 - (c - 1))) l[k] = false:=by
      cases hz : tless (att xs (mid + m - 1 - (c - 1))) l[k] with
      | false=>rfl
      | true=>rw [tless_run' hl (i:=k) (j:=c - 1 - a) (by omega) (List.getElem?_eq_getElem (by omega)) gl hz] at this;cases this
     refine slt_no ?_ (ht _ (List.getElem_mem _) _ (List.getElem_mem _))
     cases hz : tless r[mid - c + k'] l[k] with
     | false=>rfl
     | true=>rw [tless_run hr (i:=mid + m - 1 - (c - 1) - m) (j:=mid - c + k') (by omega) gr (List.getElem?_eq_getElem (by omega)) hz] at e1;cases e1
 · obtain ⟨k,hk,rfl⟩:=List.mem_take_iff_getElem.1 hy
   obtain ⟨k',hk',rfl⟩:=List.mem_drop_iff_getElem.1 hx
   by_cases hce : c = e
   · omega
   · have:=hB.no c (by omega) (by omega)
     simp only [Bool.not_eq_false'] at this
     have gl:=h.l_at (k:=c) (by omega) (by omega)
     have gr:=h.r_at (k:=mid + m - 1 - c) (by omega) (by omega)
     refine slt_yes ?_
     have e1:=tless_run hr (i:=k) (j:=mid + m - 1 - c - m) (by omega) (List.getElem?_eq_getElem (by omega)) gr this
     exact tless_run' hl (i:=c - a) (j:=c - a + k') (by omega) gl (List.getElem?_eq_getElem (by omega)) e1
end
theorem merged_cut {p l r q l1 l2 r1 r2 s1 s2 : List TE} (hl : Srt l) (hr : Srt r) (h : Cut l r l1 l2 r1 r2) (h1 : s1.Perm (l1 ++ r1)) (g1 : Srt s1) (h2 : s2.Perm (l2 ++ r2)) (g2 : Srt s2) : Merged p l r q (p ++ s1 ++ s2 ++ q):=by
 obtain ⟨rfl,rfl,k1,k2⟩:=h
 have hl':=List.pairwise_append.1 hl
 have hr':=List.pairwise_append.1 hr
 refine ⟨s1 ++ s2,?_,List.pairwise_append.2 ⟨g1,g2,fun x hx y hy=>?_⟩,by simp⟩
 · refine (h1.append h2).trans ?_
   rw [List.append_assoc,List.append_assoc]
   refine List.Perm.append_left _ ?_
   rw [← List.append_assoc,← List.append_assoc]
   exact (List.perm_append_comm).append_right _
 · rcases List.mem_append.1 (h1.mem_iff.1 hx) with hx | hx <;> rcases List.mem_append.1 (h2.mem_iff.1 hy) with hy | hy
   · exact hl'.2.2 x hx y hy
   · exact k1 x hx y hy
   · exact k2 x hx y hy
   · exact hr'.2.2 x hx y hy
end Go.Proofs.YtmjljoaakdocaaaGreatDoor
/- The walks of slices.SortStableFunc's parts: swapRange and rotate. -/
namespace Go.Proofs.YtmjljoaakdocaaaGreatDoor
open Go Go.RowKit Reg Mem
open List (set_cons_succ set_cons_zero setIfInBounds_toArray cons_append nil_append)
def tcells (x : TE) : List Value:=x.1.cells
theorem tlen : ∀ x : TE,(tcells x).length = 7:=fun _=>rfl
theorem get_mid {α : Type} {p q : List α} {x : α} {k : Nat} (h : k = p.length) : (p ++ x :: q)[k]? = some x:=by subst h;simp
theorem set_mid {α : Type} {p q : List α} {x y : α} {k : Nat} (h : k = p.length) : (p ++ x :: q).set k y = p ++ y :: q:=by subst h;simp
def SwRel (F : Nat → Prop) (R c N : Nat) (p u md v q : List TE) (w : World) (i : Value) (wr : World) : Prop:=
 ∃ (k : Nat),k ≤ u.length ∧ i = .int .i64 k ∧ St F w wr [Own 58 tcells 7 (.slice (some ⟨R,0,none⟩) N c) (p ++ v.take k ++ (u.drop k ++ md ++ u.take k) ++ (v.drop k ++ q))]
theorem swapRange_calls (R c N a b n : Nat) (p u md v q : List TE) (cv : Value) (w : World) (F : Nat → Prop) (h : (Own 58 tcells 7 (.slice (some ⟨R,0,none⟩) N c) (p ++ u ++ md ++ v ++ q)).at_ w F)
 (hN : N = (p ++ u ++ md ++ v ++ q).length) (ha : a = p.length) (hu : u.length = n) (hv : v.length = n) (hb : b = p.length + u.length + md.length) (hn : N ≤ 65536) :
 Calls Tryz.prog 235 #[.slice (some ⟨R,0,none⟩) N c,.int .i64 a,.int .i64 b,.int .i64 n,cv] w fun e w'=>e = .returned (.tuple #[]) ∧ St F w w' [Own 58 tcells 7 (.slice (some ⟨R,0,none⟩) N c) (p ++ v ++ md ++ u ++ q)]:=by
 have S:=St.one w h
 clear h
 have hN' : N = p.length + n + md.length + n + q.length:=by rw [hN];simp;omega
 have Hu:=Lib.hid hu
 have Hv:=Lib.hid hv
 have Ha:=Lib.hid ha
 have Hb:=Lib.hid hb
 have g1 : a + n ≤ b:=by omega
 have g2 : b + n ≤ N:=by omega
 clear hu hv ha hb hN hN'
 go_enter Tryz.func235,Tryz.ntmps235
 go_wp2_with first | ((with_reducible apply wps_loada (T:=58) (k:=7) S 3);(case hx|hi=>rfl);(case hk=>exact nle rfl);(case hT=>decide +kernel))
 go_loopw [10] (fun i wr=>SwRel F R c N p u md v q w i wr) (fun i _=>n - (intOf i).toNat)
 case atStart=>exact ⟨0,Nat.zero_le _,rfl,by simpa using S⟩
 case round=>
  clear S
  obtain ⟨k,hk,rfl,S⟩:=hrel
  have Hk:=Lib.hid hk
  clear hk
  by_cases hlt : k < n
  · obtain ⟨x,hx⟩ : ∃ x,u[k]? = some x:=⟨_,List.getElem?_eq_getElem (by have:=Hu.out;omega)⟩
    obtain ⟨y,hy⟩ : ∃ y,v[k]? = some y:=⟨_,List.getElem?_eq_getElem (by have:=Hv.out;omega)⟩
    have hud : u.drop k = x :: u.drop (k + 1):=by obtain ⟨h1,rfl⟩:=List.getElem?_eq_some_iff.1 hx;exact List.drop_eq_getElem_cons h1
    have hvd : v.drop k = y :: v.drop (k + 1):=by obtain ⟨h1,rfl⟩:=List.getElem?_eq_some_iff.1 hy;exact List.drop_eq_getElem_cons h1
    have hut : u.take (k + 1) = u.take k ++ [x]:=by rw [List.take_add_one,hx];rfl
    have hvt : v.take (k + 1) = v.take k ++ [y]:=by rw [List.take_add_one,hy];rfl
    have l1 : (u.take k).length = k:=by simp;have:=Hu.out;omega
    have l2 : (v.take k).length = k:=by simp;have:=Hv.out;omega
    have l3 : (u.drop (k + 1)).length = n - (k + 1):=by simp;have:=Hu.out;omega
    have HX : Hid ((p ++ v.take k ++ (u.drop k ++ md ++ u.take k) ++ (v.drop k ++ q))[a + k]? = some x):=by
     rw [hud];have:=get_mid (p:=p ++ v.take k) (q:=u.drop (k + 1) ++ md ++ u.take k ++ (v.drop k ++ q)) (x:=x) (k:=a + k) (by simp [l2];exact Ha.out)
     simp only [List.append_assoc,cons_append] at *;exact this
    have HY : Hid ((p ++ v.take k ++ (u.drop k ++ md ++ u.take k) ++ (v.drop k ++ q))[b + k]? = some y):=by
     rw [hvd]
     have e : b + k = (p ++ v.take k ++ (u.drop k ++ md ++ u.take k)).length:=by simp [l1,l2];have:=Hb.out;have:=Hu.out;omega
     rw [e,cons_append];exact get_mid rfl
    have HS : Hid (((p ++ v.take k ++ (u.drop k ++ md ++ u.take k) ++ (v.drop k ++ q)).set (a + k) y).set (b + k) x = p ++ v.take (k + 1) ++ (u.drop (k + 1) ++ md ++ u.take (k + 1)) ++ (v.drop (k + 1) ++ q)):=by
     rw [hut,hvt,hud,hvd]
     have e1:=set_mid (p:=p ++ v.take k) (q:=u.drop (k + 1) ++ md ++ u.take k ++ (y :: v.drop (k + 1) ++ q)) (x:=x) (y:=y) (k:=a + k) (by simp [l2];exact Ha.out)
     have e2:=set_mid (p:=p ++ v.take k ++ y :: (u.drop (k + 1) ++ md ++ u.take k)) (q:=v.drop (k + 1) ++ q) (x:=y) (y:=x) (k:=b + k) (by simp [l1,l2,l3];have:=Hb.out;have:=Hu.out;omega)
     simp only [List.append_assoc,cons_append,nil_append] at *
     rw [e1,e2];rfl
    have HY2 : Hid (((p ++ v.take k ++ (u.drop k ++ md ++ u.take k) ++ (v.drop k ++ q)).set (a + k) y)[b + k]? = some y):=by
     rw [List.getElem?_set_ne (by omega)];exact HY.out
    generalize p ++ v.take k ++ (u.drop k ++ md ++ u.take k) ++ (v.drop k ++ q) = cur at *
    obtain ⟨nxt,HN⟩ : ∃ nxt,Hid (p ++ v.take (k + 1) ++ (u.drop (k + 1) ++ md ++ u.take (k + 1)) ++ (v.drop (k + 1) ++ q) = nxt):=⟨_,rfl⟩
    rw [HN.out] at HS
    clear hx hy hud hvd hut hvt l1 l2 l3
    go_wp2_with first | ((with_reducible apply wps_loada_own tlen S 0 (hj:=HX.out) (q:=0) (vs:=[.int .i64 x.1.key.at_,.int .i64 x.1.key.src,.int .i64 x.1.key.sent,.int .i64 x.1.key.no,.int .i64 x.1.dst,.int .i64 x.1.kind,.int .i64 x.1.data]) (m:=7));(case hx|hi=>rfl);(case hn=>omega);(case hm|hv=>rfl);(case hT=>decide +kernel)) | ((with_reducible apply wps_loada_own tlen S 0 (hj:=HY.out) (q:=0) (vs:=[.int .i64 y.1.key.at_,.int .i64 y.1.key.src,.int .i64 y.1.key.sent,.int .i64 y.1.key.no,.int .i64 y.1.dst,.int .i64 y.1.kind,.int .i64 y.1.data]) (m:=7));(case hx|hi=>rfl);(case hn=>omega);(case hm|hv=>rfl);(case hT=>decide +kernel)) | ((with_reducible apply wps_store_owna tlen S 0 (hj:=HX.out) (e':=y) (q:=0) (vs:=[.int .i64 y.1.key.at_,.int .i64 y.1.key.src,.int .i64 y.1.key.sent,.int .i64 y.1.key.no,.int .i64 y.1.dst,.int .i64 y.1.kind,.int .i64 y.1.data]) (m:=7));(case hx=>rfl);(case hn=>omega);(case hi|hy|hm|h1|he=>rfl);(case hq=>exact nle rfl);(case hT=>decide +kernel);clear S;intro wz S;simp only [set_cons_zero] at S) | ((with_reducible apply wps_store_owna tlen S 0 (hj:=HY2.out) (e':=x) (q:=0) (vs:=[.int .i64 x.1.key.at_,.int .i64 x.1.key.src,.int .i64 x.1.key.sent,.int .i64 x.1.key.no,.int .i64 x.1.dst,.int .i64 x.1.kind,.int .i64 x.1.data]) (m:=7));(case hx=>rfl);(case hn=>omega);(case hi|hy|hm|h1|he=>rfl);(case hq=>exact nle rfl);(case hT=>decide +kernel);clear S;intro wz S;simp only [set_cons_zero] at S) | ((with_reducible refine tot_done ?ht ?_);(case ht=>kernel_rfl)) | ((with_reducible apply wps_text S);(case hm=>kernel_rfl);(case hB=>decide +kernel);clear S;intro wz S)
    rw [HS.out] at S
    go_roundw
    case rel=>exact ⟨k + 1,by have:=Hu.out;omega,by go_num,by rw [HN.out];exact S⟩
    case measure=>simp [intOf];omega
  · have hkn : k = n:=by have:=Hk.out;have:=Hu.out;omega
    have HE : Hid (p ++ v.take k ++ (u.drop k ++ md ++ u.take k) ++ (v.drop k ++ q) = p ++ v ++ md ++ u ++ q):=by
     rw [List.take_of_length_le (by have:=Hv.out;omega),List.drop_eq_nil_of_le (by have:=Hu.out;omega),List.take_of_length_le (by have:=Hu.out;omega),List.drop_eq_nil_of_le (by have:=Hv.out;omega)]
     simp [Hid]
    rw [HE.out] at S
    clear hkn HE
    go_wp2_with first | ((with_reducible apply wps_loada (T:=58) (k:=7) S 3);(case hx|hi=>rfl);(case hk=>exact nle rfl);(case hT=>decide +kernel))
    go_end0
    exact ⟨rfl,S⟩
theorem swapRange_int (R c N : Nat) (a b n : Int) (p u md v q : List TE) (cv : Value) (w : World) (F : Nat → Prop) (h : (Own 58 tcells 7 (.slice (some ⟨R,0,none⟩) N c) (p ++ u ++ md ++ v ++ q)).at_ w F)
 (hN : N = (p ++ u ++ md ++ v ++ q).length) (ha : a = p.length) (hu : (u.length : Int) = n) (hv : (v.length : Int) = n) (hb : b = p.length + u.length + md.length) (hn : N ≤ 65536) :
 Calls Tryz.prog 235 #[.slice (some ⟨R,0,none⟩) N c,.int .i64 a,.int .i64 b,.int .i64 n,cv] w fun e w'=>e = .returned (.tuple #[]) ∧ St F w w' [Own 58 tcells 7 (.slice (some ⟨R,0,none⟩) N c) (p ++ v ++ md ++ u ++ q)]:=by
 have e1 : a = ((p.length : Nat) : Int):=ha
 have e2 : b = ((p.length + u.length + md.length : Nat) : Int):=by omega
 have e3 : n = ((u.length : Nat) : Int):=by omega
 rw [e1,e2,e3]
 exact swapRange_calls R c N _ _ _ p u md v q cv w F h hN rfl rfl (by omega) rfl hn
structure RotAt (m i j : Nat) (T p u v q : List TE) : Prop where
 hm : p.length + u.length = m
 hi : u.length = i
 hj : v.length = j
 hT : p ++ v ++ u ++ q = T
def RotRel (F : Nat → Prop) (R c N m : Nat) (T : List TE) (w : World) (iv jv : Value) (wr : World) : Prop:=
 ∃ (i j : Nat) (p u v q : List TE),0 < i ∧ 0 < j ∧ i ≤ m ∧ m + j ≤ N ∧ iv = .int .i64 i ∧ jv = .int .i64 j ∧ RotAt m i j T p u v q ∧ N = (p ++ u ++ v ++ q).length ∧ St F w wr [Own 58 tcells 7 (.slice (some ⟨R,0,none⟩) N c) (p ++ u ++ v ++ q)]
theorem rot_more {m i j : Nat} {T p u v q : List TE} (h : RotAt m i j T p u v q) (hij : j < i) : u.take j ++ u.drop j = u ∧ (u.take j).length = j ∧ RotAt m (i - j) j T (p ++ v) (u.drop j) (u.take j) q:=by
 obtain ⟨hm,hi,hj,hT⟩:=h
 have e:=List.take_append_drop j u
 refine ⟨e,by simp;omega,by simp;omega,by simp;omega,by simp;omega,?_⟩
 rw [← hT];conv=>rhs;rw [← e]
 simp
theorem rot_less {m i j : Nat} {T p u v q : List TE} (h : RotAt m i j T p u v q) (hij : i < j) : v.take (j - i) ++ v.drop (j - i) = v ∧ (v.drop (j - i)).length = i ∧ RotAt m i (j - i) T p (v.drop (j - i)) (v.take (j - i)) (u ++ q):=by
 obtain ⟨hm,hi,hj,hT⟩:=h
 have e:=List.take_append_drop (j - i) v
 refine ⟨e,by simp;omega,by simp;omega,by simp;omega,by simp;omega,?_⟩
 rw [← hT];conv=>rhs;rw [← e]
 simp
theorem rotate_calls (R c N a m b : Nat) (p u v q : List TE) (cv : Value) (w : World) (F : Nat → Prop) (h : (Own 58 tcells 7 (.slice (some ⟨R,0,none⟩) N c) (p ++ u ++ v ++ q)).at_ w F)
 (hN : N = (p ++ u ++ v ++ q).length) (ha : a = p.length) (hm : m = a + u.length) (hb : b = m + v.length) (h1 : 0 < u.length) (h2 : 0 < v.length) (hn : N ≤ 65536) :
 Calls Tryz.prog 189 #[.slice (some ⟨R,0,none⟩) N c,.int .i64 a,.int .i64 m,.int .i64 b,cv] w fun e w'=>e = .returned (.tuple #[]) ∧ St F w w' [Own 58 tcells 7 (.slice (some ⟨R,0,none⟩) N c) (p ++ v ++ u ++ q)]:=by
 have S:=St.one w h
 clear h
 have g1 : a < m:=by omega
 have g2 : m < b:=by omega
 have g3 : b ≤ N:=by rw [hN];simp;omega
 have HR : Hid (RotAt m (m - a) (b - m) (p ++ v ++ u ++ q) p u v q):=⟨by omega,by omega,by omega,rfl⟩
 have HN:=Lib.hid hN
 clear hN ha hm hb h1 h2
 generalize p ++ v ++ u ++ q = T at *
 go_enter Tryz.func189,Tryz.ntmps189
 go_wp2_with first | ((with_reducible refine tot_done ?ht ?_);(case ht=>kernel_rfl))
 go_loopw [10,11] (fun i j wr=>RotRel F R c N m T w i j wr) (fun i j _=>((intOf i) + (intOf j)).toNat)
 case atStart=>exact ⟨m - a,b - m,p,u,v,q,by omega,by omega,by omega,by omega,by congr 1;omega,by congr 1;omega,HR.out,HN.out,S⟩
 case round=>
  clear S HR HN
  obtain ⟨i,j,p,u,v,q,hi,hj,him,hjm,rfl,rfl,hR,hN,S⟩:=hrel
  have HR:=Lib.hid hR
  have HN:=Lib.hid hN
  clear hR hN
  by_cases hlt : j < i
  · have hne : ((i : Int) != (j : Int)) = true:=by simp;omega
    have hgt : (j : Int) < i:=by omega
    have HM:=Lib.hid (rot_more HR.out hlt)
    rw [← HM.out.1] at S
    rw [← HM.out.1] at HN
    have HE : Hid (p ++ (u.take j ++ u.drop j) ++ v ++ q = p ++ u.take j ++ u.drop j ++ v ++ q):=by simp [Hid]
    rw [HE.out] at S
    rw [HE.out] at HN
    have hpu:=HR.out.hm
    have hpi:=HR.out.hi
    have hpj:=HR.out.hj
    have l1:=HM.out.2.1
    have l2 : (u.drop j).length = i - j:=by simp;omega
    have Hpu:=Lib.hid hpu
    have Hpi:=Lib.hid hpi
    have Hpj:=Lib.hid hpj
    have L1:=Lib.hid l1
    have L2:=Lib.hid l2
    clear hpu hpi hpj l1 l2
    go_wp2_with first | (go_at_call 235;obtain ⟨Fz,hF,hBk⟩:=S.lend1 0 rfl rfl;refine Calls.mono (swapRange_int _ _ _ _ _ _ p (u.take j) (u.drop j) v q _ _ _ hF HN.out (by have:=Hpu.out;have:=Hpi.out;omega) (by have:=L1.out;omega) (by have:=Hpj.out;omega) (by have:=L1.out;have:=L2.out;have:=Hpu.out;have:=Hpi.out;omega) hn) ?_;rintro e wz ⟨rfl,T⟩;replace S:=hBk _ _ rfl T;clear hBk hF T;simp only [set_cons_zero] at S)
    have HE2 : Hid (p ++ v ++ u.drop j ++ u.take j ++ q = (p ++ v) ++ u.drop j ++ u.take j ++ q):=rfl
    go_roundw
    case rel=>exact ⟨i - j,j,p ++ v,u.drop j,u.take j,q,by omega,hj,by omega,by omega,by congr 1;omega,rfl,HM.out.2.2,by rw [HN.out];simp;omega,S⟩
    case measure=>simp [intOf];omega
  · by_cases heq : i = j
    · have hne : ((i : Int) != (j : Int)) = false:=by simp [heq]
      have hpu:=HR.out.hm
      have hpi:=HR.out.hi
      have hpj:=HR.out.hj
      have hpT:=HR.out.hT
      have HE : Hid (p ++ u ++ v ++ q = p ++ u ++ [] ++ v ++ q):=by simp [Hid]
      rw [HE.out] at S
      rw [HE.out] at HN
      have HE2 : Hid (p ++ v ++ [] ++ u ++ q = T):=by simpa [Hid] using hpT
      have Hpu:=Lib.hid hpu
      have Hpi:=Lib.hid hpi
      have Hpj:=Lib.hid hpj
      have Heq:=Lib.hid heq
      have HpT:=Lib.hid hpT
      clear hpu hpi hpj heq hpT
      go_wp2_with first | (go_at_call 235;obtain ⟨Fz,hF,hBk⟩:=S.lend1 0 rfl rfl;refine Calls.mono (swapRange_int _ _ _ _ _ _ p u [] v q _ _ _ hF HN.out (by have:=Hpu.out;have:=Hpi.out;omega) (by have:=Hpi.out;omega) (by have:=Hpj.out;have:=Heq.out;omega) (by have:=Hpu.out;simp;omega) hn) ?_;rintro e wz ⟨rfl,T⟩;replace S:=hBk _ _ rfl T;clear hBk hF T;simp only [set_cons_zero] at S)
      rw [HE2.out] at S
      go_end0
      exact ⟨rfl,S⟩
    · have hne : ((i : Int) != (j : Int)) = true:=by simp;omega
      have hgt : ¬ (j : Int) < i:=by omega
      have hlt2 : i < j:=by omega
      have HM:=Lib.hid (rot_less HR.out hlt2)
      have HE : Hid (p ++ u ++ v ++ q = p ++ u ++ v.take (j - i) ++ v.drop (j - i) ++ q):=by
       show p ++ u ++ v ++ q = _
       rw [List.append_assoc (p ++ u) (v.take (j - i)),HM.out.1]
      rw [HE.out] at S
      rw [HE.out] at HN
      have hpu:=HR.out.hm
      have hpi:=HR.out.hi
      have l1:=HM.out.2.1
      have l2 : (v.take (j - i)).length = j - i:=by have:=HR.out.hj;simp;omega
      have Hpu:=Lib.hid hpu
      have Hpi:=Lib.hid hpi
      have L1:=Lib.hid l1
      have L2:=Lib.hid l2
      clear hpu hpi l1 l2
      go_wp2_with first | (go_at_call 235;obtain ⟨Fz,hF,hBk⟩:=S.lend1 0 rfl rfl;refine Calls.mono (swapRange_int _ _ _ _ _ _ p u (v.take (j - i)) (v.drop (j - i)) q _ _ _ hF HN.out (by have:=Hpu.out;have:=Hpi.out;omega) (by have:=Hpi.out;omega) (by have:=L1.out;omega) (by have:=L2.out;have:=Hpu.out;omega) hn) ?_;rintro e wz ⟨rfl,T⟩;replace S:=hBk _ _ rfl T;clear hBk hF T;simp only [set_cons_zero] at S)
      have HE2 : Hid (p ++ v.drop (j - i) ++ v.take (j - i) ++ u ++ q = p ++ v.drop (j - i) ++ v.take (j - i) ++ (u ++ q)):=by simp [Hid]
      rw [HE2.out] at S
      go_roundw
      case rel=>exact ⟨i,j - i,p,v.drop (j - i),v.take (j - i),u ++ q,hi,by omega,him,by omega,rfl,by congr 1;omega,HM.out.2.2,by rw [HN.out];simp;omega,S⟩
      case measure=>simp [intOf];omega
end Go.Proofs.YtmjljoaakdocaaaGreatDoor
