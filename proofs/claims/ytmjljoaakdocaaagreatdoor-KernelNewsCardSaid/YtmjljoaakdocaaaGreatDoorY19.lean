import Derived.Test.YtmjljoaakdocaaaGreatDoorY12
import Derived.Test.YtmjljoaakdocaaaGreatDoorY07
import Derived.Test.YtmjljoaakdocaaaGreatDoorY18
import Derived.Test.YtmjljoaakdocaaaGreatDoorY04
import Derived.Test.YtmjljoaakdocaaaGreatDoorY05
import Derived.Test.YtmjljoaakdocaaaGreatDoorY06
import Derived.Test.YtmjljoaakdocaaaGreatDoorY09
import Derived.Laws.CopyRow
/- The walk of slices.Insert of one event. -/
set_option maxHeartbeats 16000000
set_option maxRecDepth 100000
namespace Go.Proofs.YtmjljoaakdocaaaGreatDoor
open Go Go.RowKit Reg Mem
open List (set_cons_succ set_cons_zero setIfInBounds_toArray cons_append nil_append)
theorem zero_Ev : zeroIs Tryz.prog 58 7 (Event.cells ⟨⟨0,0,0,0⟩,0,0,0⟩):=⟨_,.agg #[.int .i64 0,.int .i64 0,.int .i64 0,.int .i64 0,.int .i64 0,.int .i64 0,.int .i64 0],rfl,by kernel_rfl,by kernel_rfl,rfl,by decide⟩
theorem sizeEv (w : World) : (sizeOf 58).run Tryz.prog w = .ok 7 w:=by kernel_rfl
theorem over_ev {b b2 o lb cb : Nat} {cs cs2 : Array Value} {t t2 : TypeId} {w : World} (h1 : w.heap[b]? = some (.cells cs t (0,0))) (h2 : w.heap[b2]? = some (.cells cs2 t2 (0,0))) (hne : b2 ≠ b) (h0 : cs.size ≠ 0) (n c : Nat) :
 (callFunc 243 #[.slice (some ⟨b2,0,none⟩) n c,.slice (some ⟨b,o,none⟩) lb cb]).run Tryz.prog w = .ok (.value (.bool false)) w:=
 run_over (tR:=4) Tryz.func243 (by kernel_rfl) (by kernel_rfl) (by kernel_rfl) (by kernel_rfl) Tryz.underlying53 sizeEv h1 h2 hne h0 n c
theorem ival_eq {a b : Int} (h : a = b) : (Value.int .i64 a) = .int .i64 b:=by rw [h]
def InsEPost (l : List Event) (F : Nat → Prop) (w : World) (r : Ending) (w' : World) : Prop:=
 ∃ ad c,r = .returned (.slice ad l.length c) ∧ St F w w' [Mem.Own 58 Event.cells 7 (.slice ad l.length c) l]
theorem nthlen {l : List Event} {e : Event} {i : Nat} : (l.take i ++ e :: l.drop i).length = l.length + 1:=by
 rw [List.length_append,List.length_cons,List.length_take,List.length_drop];omega
theorem inse_calls (v : Value) (l : List Event) (e : Event) (i bv : Nat) (w : World) (F : Nat → Prop) (S0 : St F w w [Mem.Own 58 Event.cells 7 v l,Blk true bv #[.int .i64 e.key.at_,.int .i64 e.key.src,.int .i64 e.key.sent,.int .i64 e.key.no,.int .i64 e.dst,.int .i64 e.kind,.int .i64 e.data] 58]) (hi : i ≤ l.length) (hn : l.length ≤ 65536) :
 Calls Tryz.prog 197 #[v,.int .i64 i,.slice (some ⟨bv,0,none⟩) 1 1] w (InsEPost (l.take i ++ e :: l.drop i) F w):=by
 have S:=S0
 clear S0
 obtain ⟨ad,c,rfl,hlc,hnc⟩ : ∃ ad c,v = .slice ad l.length c ∧ l.length ≤ c ∧ (ad = none → c = 0):=by
  obtain ⟨F1,h1⟩:=S.get (i:=0) rfl
  obtain ⟨a,c,e1⟩:=h1.1.form
  refine ⟨a,c,e1,?_⟩
  rcases h1.1.2 with ⟨h2,h3⟩ | ⟨g,cap,cur,h2,_,_,h4,_⟩
  · rw [e1] at h2;simp only [Value.slice.injEq] at h2;exact ⟨by omega,fun _=>h2.2.2⟩
  · rw [e1] at h2;simp only [Value.slice.injEq] at h2;exact ⟨by omega,fun h=>by rw [h2.1] at h;cases h⟩
 have hn2 : (l.length : Int) ≤ 65536:=by omega
 have hi2 : (i : Int) ≤ l.length:=by omega
 rcases Nat.lt_or_eq_of_le hi with hlt | rfl
 · obtain ⟨R,o,rfl⟩ : ∃ R o,ad = some ⟨R,o,none⟩:=by
    obtain ⟨R,c2,e1⟩:=own_hdE 0 S rfl (by omega)
    simp only [Value.slice.injEq] at e1
    exact ⟨R,0,e1.1⟩
   have ho : o = 0:=by
    obtain ⟨R2,c2,e1⟩:=own_hdE 0 S rfl (by omega)
    simp only [Value.slice.injEq,Option.some.injEq,Addr.mk.injEq] at e1
    exact e1.1.2.1
   subst ho
   clear hnc
   have hlt2 : (i : Int) < l.length:=by omega
   have hne : ((i : Int) == l.length) = false:=by simp;omega
   by_cases hroom : l.length + 1 ≤ c
   · have hr1 : ((l.length : Int) + 1 > c) = False:=by simp;omega
     obtain ⟨cur,hcs,-,-,hcm,hct,S2⟩:=S.raw 0 rfl
     clear S
     have S:=S2
     clear S2
     simp only [set_cons_zero] at S
     have hne2 : bv ≠ R:=(S.blk_ne 0 1 rfl rfl (by decide)).symm
     have hc0 : cur.size ≠ 0:=by omega
     obtain ⟨us,hus⟩ : ∃ us,flatE Event.cells (l.drop i) = us:=⟨_,rfl⟩
     have HUL : Hid (us.length = (l.length - i) * 7):=Lib.hid (by rw [← hus,flatE_length ecells,List.length_drop])
     have HUS : Hid (∀ (q : Nat) v,us[q]? = some v → cur[i * 7 + q]? = some v):=Lib.hid fun q v h=>flat_src ecells hct q v (by rw [hus];exact h)
     have HU1 : Hid (∀ v ∈ us,v.oneCell' = true):=Lib.hid (by rw [← hus];exact flat_ones eone)
     have HEND:=Lib.hid (splice_ins (n:=l.length) (i:=i) ecells e rfl hi (by omega) hct)
     rw [hus] at HEND
     have HFIT : Hid ((i + 1) * 7 + us.length ≤ cur.size):=Lib.hid (by rw [HUL.out];omega)
     have HFIT2 : Hid (i * 7 + 7 ≤ (splice cur ((i + 1) * 7) us).size):=Lib.hid (by rw [splice_size HFIT.out];omega)
     have Hcs:=Lib.hid hcs
     have Hct:=Lib.hid hct
     have Hus:=Lib.hid hus
     clear hcs hct hus
     go_enter Tryz.func197,Tryz.ntmps197
     go_wp2_with first | ((with_reducible apply wps_slany Tryz.underlying53 sizeEv (n:=l.length) (c:=c) (l:=i) (u:=l.length));(case hx=>rfl);(case hlo=>exact .inr rfl);(case hhi=>exact .inl ⟨rfl,rfl⟩);(case h1=>omega);(case h2=>exact hlc);intro adz) | (simp only [over_ev (S.blk 0 rfl) (S.blk 1 rfl) hne2 hc0]) | ((with_reducible apply wps_copyk S 0 rfl 0 rfl us (l.length - i));(case hx|hy=>rfl);(case hu=>exact Tryz.underlying53);(case hE=>exact sizeEv);(case hnn=>simp only [Nat.min_def];split <;> omega);(case hn=>exact HUL.out);(case hsrc=>exact HUS.out);(case hfit=>exact HFIT.out);(case h1=>exact HU1.out);clear S;intro wz S;simp only [set_cons_zero] at S) | ((with_reducible apply wps_copyk S 0 rfl 1 rfl (Event.cells e) 1);(case hx|hy=>rfl);(case hu=>exact Tryz.underlying53);(case hE=>exact sizeEv);(case hnn=>simp only [Nat.min_def];split <;> omega);(case hn=>rfl);(case hsrc=>intro q v h;rw [Nat.zero_add,List.getElem?_toArray];exact h);(case hfit=>exact HFIT2.out);(case h1=>exact eone e);clear S;intro wz S;simp only [set_cons_zero] at S) | ((with_reducible refine tot_done ?ht ?_);(case ht=>kernel_rfl)) | ((with_reducible apply wps_text S);(case hm=>kernel_rfl);(case hB=>decide +kernel);clear S;intro wz S)
     go_ret
     refine ⟨some ⟨R,0,none⟩,c,by rw [nthlen];rfl,?_⟩
     rw [nthlen]
     have S2:=(S.unraw (n:=l.length + 1) (c:=c) (xs:=l.take i ++ e :: l.drop i) ecells 0 rfl (by rw [HEND.out.2];exact Hcs.out) nthlen.symm hroom hcm HEND.out.1).pick [0] rfl
     exact S2
   · have hcc : c = l.length:=by omega
     subst hcc
     clear hroom hlc
     have hr1 : ((l.length : Int) + 1 > l.length) = True:=by simp;omega
     have HSD : Hid ((l.take i ++ List.replicate (l.length + 1 - i) (⟨⟨0,0,0,0⟩,0,0,0⟩ : Event)).take i = l.take i):=Lib.hid (by rw [List.take_left' (by rw [List.length_take];omega)])
     obtain ⟨us,hus⟩ : ∃ us,flatE Event.cells (l.drop i) = us:=⟨_,rfl⟩
     have HUL : Hid (us.length = (l.length - i) * 7):=Lib.hid (by rw [← hus,flatE_length ecells,List.length_drop])
     have HU1 : Hid (∀ v ∈ us,v.oneCell' = true):=Lib.hid (by rw [← hus];exact flat_ones eone)
     have HSRC : Hid (∀ cur : Array Value,cur.toList.take (l.length * 7) = flatE Event.cells l → ∀ (q : Nat) v,us[q]? = some v → cur[i * 7 + q]? = some v):=Lib.hid fun cur ht q v h=>flat_src ecells ht q v (by rw [hus];exact h)
     have HEND : Hid (∀ cur : Array Value,(l.length + 1) * 7 ≤ cur.size → cur.toList.take ((l.length + 1) * 7) = flatE Event.cells (l.take i ++ List.replicate (l.length + 1 - i) (⟨⟨0,0,0,0⟩,0,0,0⟩ : Event)) → (splice (splice cur (i * 7) (Event.cells e)) ((i + 1) * 7) us).toList.take ((l.length + 1) * 7) = flatE Event.cells (l.take i ++ e :: l.drop i) ∧ (splice (splice cur (i * 7) (Event.cells e)) ((i + 1) * 7) us).size = cur.size):=Lib.hid fun cur hs ht=>by
      have:=splice_ins2 (cur:=cur) (xs:=l) (n:=l.length) (i:=i) ecells e rfl hi hs (by
       have h2:=congrArg (List.take (i * 7)) ht
       rw [List.take_take,Nat.min_eq_left (by omega),← flatE_take ecells,List.take_left' (by rw [List.length_take];omega)] at h2
       exact h2)
      rw [hus] at this;exact this
     have hcl : ¬ (l.length = i):=by omega
     have Hus:=Lib.hid hus
     clear hus
     go_enter Tryz.func197,Tryz.ntmps197
     go_wp2_with first | ((with_reducible apply wps_appendz elem_Ev ecells Tryz.underlying3 ⟨⟨0,0,0,0⟩,0,0,0⟩ zero_Ev S 0 rfl (u:=i) (m:=l.length + 1 - i) (nn:=l.length + 1));(case hx=>rfl);(case hy=>exact ival_eq (by omega));(case hu|h0|hg|hl=>omega);(case hby=>decide);(case hnn=>omega);clear S;intro b2 c2 wz S;obtain ⟨cur2,hcs2,-,hle2,hcm2,hct2,S2⟩:=S.raw 0 rfl;clear S;simp only [set_cons_zero] at S2;obtain ⟨cur,-,-,-,-,hct,S⟩:=S2.raw 1 rfl;clear S2;simp only [set_cons_zero,set_cons_succ] at S;have HE2:=Lib.hid (HEND.out cur2 (by omega) hct2);have HS2:=Lib.hid (HSRC.out cur hct);have Hcs2:=Lib.hid hcs2;have hf1 : i * 7 + 7 ≤ cur2.size:=(by omega);have HF2:=Lib.hid (show (i + 1) * 7 + us.length ≤ (splice cur2 (i * 7) (Event.cells e)).size from (by rw [splice_size (by exact hf1),HUL.out];omega));have HF1:=Lib.hid hf1;have Hcm2:=Lib.hid hcm2;have hci : ¬ (c2 = i):=(by omega);have hci2 : ¬ (c2 = i + 1):=(by omega);have Hle2:=Lib.hid hle2;clear hcs2 hct2 hct HEND HSRC hf1 hcm2 hle2) | ((with_reducible apply wps_copyk S 0 rfl 2 rfl (Event.cells e) 1);(case hx|hy=>rfl);(case hu=>exact Tryz.underlying53);(case hE=>exact sizeEv);(case hnn=>simp only [Nat.min_def];split <;> omega);(case hn=>rfl);(case hsrc=>intro q v h;rw [Nat.zero_add,List.getElem?_toArray];exact h);(case hfit=>exact HF1.out);(case h1=>exact eone e);clear S;intro wz S;simp only [set_cons_zero] at S) | ((with_reducible apply wps_copyk S 0 rfl 1 rfl us (l.length - i));(case hx|hy=>rfl);(case hu=>exact Tryz.underlying53);(case hE=>exact sizeEv);(case hnn=>simp only [Nat.min_def];split <;> omega);(case hn=>exact HUL.out);(case hsrc=>exact HS2.out);(case hfit=>exact HF2.out);(case h1=>exact HU1.out);clear S;intro wz S;simp only [set_cons_zero] at S) | ((with_reducible refine tot_done ?ht ?_);(case ht=>kernel_rfl)) | ((with_reducible apply wps_text S);(case hm=>kernel_rfl);(case hB=>decide +kernel);clear S;intro wz S)
     go_ret
     refine ⟨some ⟨b2,0,none⟩,c2,by rw [nthlen];rfl,?_⟩
     rw [nthlen]
     have S2:=(S.unraw (n:=l.length + 1) (c:=c2) (xs:=l.take i ++ e :: l.drop i) ecells 0 rfl (by rw [HE2.out.2];exact Hcs2.out) nthlen.symm Hle2.out Hcm2.out HE2.out.1).pick [0] rfl
     exact S2
 · clear hi hi2 hnc
   rw [List.take_length,List.drop_length]
   replace S:=S.weak (i:=1) (A':=Sl true Event.cells 7 (.slice (some ⟨bv,0,none⟩) 1 1) [e]) rfl (fun e=>by cases e) (fun F h=>⟨F,fun _ hb=>hb,blk_sl (n:=1) [e] ecells h rfl rfl⟩)
   simp only [set_cons_zero,set_cons_succ] at S
   have HLE : Hid ((l ++ [e]).length = l.length + 1):=Lib.hid (by simp)
   go_enter Tryz.func197,Tryz.ntmps197
   go_wp2_with first | ((with_reducible apply wps_slany Tryz.underlying53 sizeEv (n:=l.length) (c:=c) (l:=l.length) (u:=l.length));(case hx=>rfl);(case hlo=>exact .inr rfl);(case hhi=>exact .inl ⟨rfl,rfl⟩);(case h1=>exact Nat.le_refl _);(case h2=>exact hlc);intro adz) | ((with_reducible apply wps_appends elem_Ev ecells eone (by decide) S 0 rfl 1 rfl);(case hx|hy=>rfl);(case hl=>simp only [List.length_cons,List.length_nil];omega);clear S;intro az nz cz wz hnz S;simp only [set_cons_zero] at S;obtain rfl : nz = l.length + 1:=hnz.out)
   go_ret
   refine ⟨az,cz,by rw [HLE.out];rfl,?_⟩
   rw [HLE.out]
   exact S.pick [0] rfl
end Go.Proofs.YtmjljoaakdocaaaGreatDoor
/- Many things that lie apart, as one: of which one may be lent. Over any program. -/
namespace Go.Proofs.YtmjljoaakdocaaaGreatDoor.Mem
open Go Go.RowKit Reg
open List (set_cons_succ set_cons_zero setIfInBounds_toArray cons_append nil_append)
def stars : List Asn → Asn
 | []=>pur True
 | A :: As=>sep false A (stars As)
theorem stars_sh : ∀ As : List Asn,(stars As).sh = false
 | []=>rfl
 | _ :: _=>rfl
theorem stars_part : ∀ (As : List Asn) (k : Nat) (A : Asn) (w : World) (F : Nat → Prop),(stars As).at_ w F → As[k]? = some A → ∃ Fk,A.at_ w Fk ∧ (∀ b,Fk b → F b) ∧
 ∀ w' A' (Fk' : Nat → Prop),Keep Fk w w' → A'.at_ w' Fk' → (∀ b,Fk' b → Fk b ∨ w.heap.size ≤ b) → ∃ F',(stars (As.set k A')).at_ w' F' ∧ ∀ b,F' b → F b ∨ w.heap.size ≤ b
 | [],k,A,w,F,_,hk=>by simp at hk
 | A0 :: As,0,A,w,F,h,hk=>by
   simp at hk;subst hk
   obtain ⟨F1,F2,h1,h2,hd,hF⟩:=h
   refine ⟨F1,h1,fun b hb=>(hF b).2 (.inl hb),fun w' A' Fk' hK hA' hn=>?_⟩
   have h2' : (stars As).at_ w' F2:=(stars As).loc h2 fun b hb=>hK.block b ((stars As).lt h2 b hb) (fun h=>hd b h hb)
   refine ⟨fun b=>Fk' b ∨ F2 b,⟨Fk',F2,hA',h2',fun b hb hb2=>?_,fun _=>Iff.rfl⟩,fun b hb=>?_⟩
   · rcases hn b hb with h | h
     · exact hd b h hb2
     · have:=(stars As).lt h2 b hb2;omega
   · rcases hb with hb | hb
     · rcases hn b hb with h | h
       · exact .inl ((hF b).2 (.inl h))
       · exact .inr h
     · exact .inl ((hF b).2 (.inr hb))
 | A0 :: As,k + 1,A,w,F,h,hk=>by
   obtain ⟨F1,F2,h1,h2,hd,hF⟩:=h
   obtain ⟨Fk,g1,g2,g3⟩:=stars_part As k A w F2 h2 (by simpa using hk)
   refine ⟨Fk,g1,fun b hb=>(hF b).2 (.inr (g2 b hb)),fun w' A' Fk' hK hA' hn=>?_⟩
   obtain ⟨F2',k1,k2⟩:=g3 w' A' Fk' hK hA' hn
   have h1' : A0.at_ w' F1:=A0.loc h1 fun b hb=>hK.block b (A0.lt h1 b hb) (fun h=>hd b hb (g2 b h))
   refine ⟨fun b=>F1 b ∨ F2' b,⟨F1,F2',h1',k1,fun b hb hb2=>?_,fun _=>Iff.rfl⟩,fun b hb=>?_⟩
   · rcases k2 b hb2 with h | h
     · exact hd b hb h
     · have:=A0.lt h1 b hb;omega
   · rcases hb with hb | hb
     · exact .inl ((hF b).2 (.inl hb))
     · rcases k2 b hb with h | h
       · exact .inl ((hF b).2 (.inr h))
       · exact .inr h
theorem stars_snoc : ∀ (As : List Asn) (A : Asn) (w : World) (F F' : Nat → Prop),A.at_ w F → (stars As).at_ w F' → (∀ b,F b → ¬ F' b) → (stars (As ++ [A])).at_ w (fun b=>F b ∨ F' b)
 | [],A,w,F,F',h,h',hd=>⟨F,F',h,h',hd,fun _=>Iff.rfl⟩
 | A0 :: As,A,w,F,F',h,⟨F1,F2,h1,h2,hd2,hF⟩,hd=>by
   have ih:=stars_snoc As A w F F2 h h2 (fun b hb hb2=>hd b hb ((hF b).2 (.inr hb2)))
   refine ⟨F1,fun b=>F b ∨ F2 b,h1,ih,fun b hb hb2=>?_,fun b=>?_⟩
   · rcases hb2 with h | h
     · exact hd b h ((hF b).2 (.inl hb))
     · exact hd2 b hb h
   · show (F b ∨ F' b) ↔ (F1 b ∨ (F b ∨ F2 b));rw [hF b];exact ⟨fun h=>h.elim (fun h=>.inr (.inl h)) (fun h=>h.elim .inl (fun h=>.inr (.inr h))),fun h=>h.elim (fun h=>.inr (.inl h)) (fun h=>h.elim .inl (fun h=>.inr (.inr h)))⟩
section
variable {G : Nat → Prop} {w0 w : World} {L As : List Asn} {A : Asn}
theorem St.starGet (S : St G w0 w L) (i : Nat) (hi : L[i]? = some (stars As)) (k : Nat) (hk : As[k]? = some A) : ∃ F,A.at_ w F:=by
 obtain ⟨F,h⟩:=S.get hi
 obtain ⟨Fk,g1,_⟩:=stars_part As k A w F h hk
 exact ⟨Fk,g1⟩
theorem St.starNil (S : St G w0 w L) : St G w0 w (stars [] :: L):=S.close_pur trivial
theorem St.starSnoc (S : St G w0 w (A :: stars As :: L)) (ho : A.sh = false) : St G w0 w (stars (As ++ [A]) :: L):=by
 have S1:=S.close_sep ho (stars_sh As)
 have S2:=S1.weak (i:=0) (A':=stars (As ++ [A])) rfl (fun _=>rfl) fun F h=>by
  obtain ⟨F1,F2,h1,h2,hd,hF⟩:=h
  refine ⟨fun b=>F1 b ∨ F2 b,fun b hb=>(hF b).2 hb,stars_snoc As A w F1 F2 h1 h2 hd⟩
 simpa using S2
end
section
variable {G : Nat → Prop} {w0 w w' : World} {L : List Asn} {A A' B B' : Asn} {i j : Nat}
def rd (A : Asn) : Asn:=⟨true,A.at_,A.loc,A.lt⟩
theorem star_get {As : List Asn} {k : Nat} (h : ∃ F,(rd (stars As)).at_ w F) (hk : As[k]? = some A) : ∃ F,A.at_ w F:=by
 obtain ⟨F,h⟩:=h
 obtain ⟨Fk,g1,_⟩:=stars_part As k A w F h hk
 exact ⟨Fk,g1⟩
end
end Go.Proofs.YtmjljoaakdocaaaGreatDoor.Mem
/- Plain: the machine that runs a handler's program. No program in sight. -/
namespace Go.Proofs.YtmjljoaakdocaaaGreatDoor
open Go Go.RowKit Mem
open List (set_cons_succ set_cons_zero setIfInBounds_toArray cons_append nil_append)
structure Emit where
 dst : Int
 delay : Int
 kind : Int
 data : Int
 deriving DecidableEq
instance : Inhabited Emit:=⟨⟨0,0,0,0⟩⟩
def Emit.cells (x : Emit) : List Value:=[.int .i64 x.dst,.int .i64 x.delay,.int .i64 x.kind,.int .i64 x.data]
structure Mach where
 cs : List Int
 at_ : Int
 sent : List Emit
def Mach.get (m : Mach) (a : Int) : Int:=m.cs[a.toNat]?.getD 0
def Mach.put (m : Mach) (a v : Int) : Mach:={ m with cs:=m.cs.set a.toNat v }
def reckonE (op b c : Int) : Int:=
 if op = 4 then wrap64 (b + wrap64 (-c)) else if op = 3 then wrap64 (b + c) else if op = 5 then wrap64 (b * c) else if op = 6 then (if c ≠ 0 then b.tmod c else 0) else if op = 7 then (if b < c then 1 else 0) else 0
def doE (e : Event) (fan : Int) (m : Mach) (x : Instr) : Mach:=
 if x.op = 1 then m.put x.a x.b
 else if x.op = 2 then m.put x.a (m.get x.b)
 else if 3 ≤ x.op ∧ x.op ≤ 7 then m.put x.a (reckonE x.op (m.get x.b) (m.get x.c))
 else if x.op = 8 then { m with at_:=x.a }
 else if x.op = 9 then (if m.get x.a = 0 then { m with at_:=x.b } else m)
 else if x.op = 10 then m.put x.a e.key.at_
 else if x.op = 11 then m.put x.a e.kind
 else if x.op = 12 then m.put x.a e.data
 else if x.op = 13 then m.put x.a e.dst
 else if x.op = 14 then (if (m.sent.length : Int) < fan then { m with sent:=m.sent ++ [⟨m.get x.a,m.get x.b,x.d,m.get x.c⟩] } else m)
 else m
def stepE (p : List Instr) (e : Event) (fan : Int) (m : Mach) : Option Mach:=
 if m.at_ < 0 ∨ (p.length : Int) ≤ m.at_ then none
 else match p[m.at_.toNat]? with
  | none=>none
  | some x=>if x.op = 15 ∨ mayE x p.length ≠ 0 then none else some (doE e fan { m with at_:=m.at_ + 1 } x)
def stepsE (p : List Instr) (e : Event) (fan : Int) : Nat → Mach → Mach
 | 0,m=>m
 | f + 1,m=>match stepE p e fan m with
   | none=>m
   | some n=>stepsE p e fan f n
def startE (s : State) : Mach:=⟨[s.n0,s.n1,s.n2,s.n3,0,0,0,0],0,[]⟩
def machCells (e : Event) (vp : Value) (m : Mach) (fan : Int) (vs : Value) : Array Value:=
 (e.cells ++ vp :: (m.cs.map (Value.int .i64) ++ [.int .i64 m.at_,.int .i64 fan,vs])).toArray
section
variable {e : Event} {vp vs u : Value} {m : Mach} {fan : Int}
end
end Go.Proofs.YtmjljoaakdocaaaGreatDoor
/- The walk of vm.reckon. -/
namespace Go.Proofs.YtmjljoaakdocaaaGreatDoor
open Go Go.RowKit Reg Mem
open List (set_cons_succ set_cons_zero setIfInBounds_toArray cons_append nil_append)
end Go.Proofs.YtmjljoaakdocaaaGreatDoor
/- The walk of a machine's do. -/
namespace Go.Proofs.YtmjljoaakdocaaaGreatDoor
open Go Go.RowKit Reg Mem
open List (set_cons_succ set_cons_zero setIfInBounds_toArray cons_append nil_append)
def cellN (v : Int) : Prop:=∃ n : Nat,n < 8 ∧ v = n
def MayOp (x : Instr) (many : Nat) : Prop:=
 (x.op = 1 ∧ cellN x.a) ∨ (x.op = 2 ∧ cellN x.a ∧ cellN x.b) ∨ ((3 ≤ x.op ∧ x.op ≤ 7) ∧ cellN x.a ∧ cellN x.b ∧ cellN x.c) ∨ (x.op = 8 ∧ 0 ≤ x.a ∧ x.a ≤ many) ∨
 (x.op = 9 ∧ cellN x.a ∧ 0 ≤ x.b ∧ x.b ≤ many) ∨ (x.op = 10 ∧ cellN x.a) ∨ (x.op = 11 ∧ cellN x.a) ∨ (x.op = 12 ∧ cellN x.a) ∨ (x.op = 13 ∧ cellN x.a) ∨ (x.op = 14 ∧ cellN x.a ∧ cellN x.b ∧ cellN x.c) ∨ x.op = 15
def DoPost (F : Nat → Prop) (R : Nat) (e : Event) (vp : Value) (fan : Int) (n : Mach) (w : World) (r : Ending) (w' : World) : Prop:=
 ∃ vs',r = .returned (.tuple #[]) ∧ St F w w' [Blk false R (machCells e vp n fan vs') 418,Own 385 Emit.cells 4 vs' n.sent]
end Go.Proofs.YtmjljoaakdocaaaGreatDoor
/- The walks of model.Check and New. -/
namespace Go.Proofs.YtmjljoaakdocaaaGreatDoor
open Go Go.RowKit Reg Mem
open List (set_cons_succ set_cons_zero setIfInBounds_toArray cons_append nil_append)
theorem elem_In : Elem Tryz.prog 157 160 5 40:=⟨_,.agg #[.int .i64 0,.int .i64 0,.int .i64 0,.int .i64 0,.int .i64 0],Tryz.underlying157,rfl,by kernel_rfl,by kernel_rfl,by kernel_rfl,by kernel_rfl,by omega⟩
theorem elem_Pl : Elem Tryz.prog 40 163 5 40:=⟨_,.agg #[.int .i64 0,.int .i64 0,.int .i64 0,.int .i64 0,.int .i64 0],Tryz.underlying40,rfl,by kernel_rfl,by kernel_rfl,by kernel_rfl,by kernel_rfl,by omega⟩
theorem elem_Sta : Elem Tryz.prog 41 112 4 32:=⟨_,.agg #[.int .i64 0,.int .i64 0,.int .i64 0,.int .i64 0],Tryz.underlying41,rfl,by kernel_rfl,by kernel_rfl,by kernel_rfl,by kernel_rfl,by omega⟩
theorem clone_In {ad : Option Addr} {n c : Nat} {xs : List _} (w : World) (F : Nat → Prop) (h : (Sl true Instr.cells 5 (.slice ad n c) xs).at_ w F) (hn : xs.length ≤ 4294967296) :
 Calls Tryz.prog 65 #[.slice ad n c] w fun e w'=>∃ ad' c',e = .returned (.slice ad' xs.length c') ∧ (0 < xs.length → ∃ R,ad' = some ⟨R,0,none⟩) ∧ St (fun _=>False) w w' [Own 160 Instr.cells 5 (.slice ad' xs.length c') xs]:=by
 have S : St (fun _=>False) w w [Sl true Instr.cells 5 (.slice ad n c) xs]:=(St.init _ w).share rfl rfl h
 have hq : ∀ (w : World) (a : Option Addr) (n c n' c' : Nat),(binOp .eql 157 (.slice a n c) (.slice none n' c')).run Tryz.prog w = .ok (.bool a.isNone) w:=fun w a n c n' c'=>Lib.run_eql_slice_nil w _ _ a n c n' c' Tryz.underlying157
 cases ad with
 | none=>
   have hx : xs = []:=by
    obtain ⟨a,c',e,h1,h2,_⟩:=h.1
    simp only [Value.slice.injEq] at e
    obtain ⟨rfl,rfl,rfl⟩:=e
    exact List.eq_nil_of_length_eq_zero (by have:=h2 rfl;omega)
   subst hx
   go_enter Tryz.func65,Tryz.ntmps65
   go_wp2_with first | ((with_reducible refine tot_done ?ht ?_);(case ht=>kernel_rfl))
   go_ret
   exact ⟨_,_,rfl,fun h=>absurd h (by simp),((S.nil 160 Instr.cells 5).pick [0] rfl)⟩
 | some a0=>
   go_enter Tryz.func65,Tryz.ntmps65
   go_wp2_with first | ((with_reducible apply wps_build0 (T:=157) (E:=160) Instr.cells 5 S);(case hr=>intro w;kernel_rfl);clear S;intro bz wz S) | ((with_reducible apply wps_appends elem_In incells inone (by decide) S 0 (j:=1));(case hx|hy|hi|hj=>rfl);(case hl=>first | omega | (simp;omega));clear S;intro az nz cz wz hnz S;simp only [set_cons_zero] at S)
   go_ret
   obtain rfl : nz = xs.length:=by have:=hnz.out;simp at this;omega
   simp only [nil_append] at S
   refine ⟨_,_,rfl,fun h0=>?_,S.pick [0] rfl⟩
   obtain ⟨F,hF⟩:=S.get (i:=0) rfl
   rcases hF.1.2 with ⟨_,e⟩ | ⟨g,cap,cur,e,_⟩
   · omega
   · simp only [Value.slice.injEq] at e;exact ⟨g,e.1⟩
theorem clone_Pl {ad : Option Addr} {n c : Nat} {xs : List _} (w : World) (F : Nat → Prop) (h : (Sl true Place.cells 5 (.slice ad n c) xs).at_ w F) (hn : xs.length ≤ 4294967296) :
 Calls Tryz.prog 66 #[.slice ad n c] w fun e w'=>∃ ad' c',e = .returned (.slice ad' xs.length c') ∧ (0 < xs.length → ∃ R,ad' = some ⟨R,0,none⟩) ∧ St (fun _=>False) w w' [Own 163 Place.cells 5 (.slice ad' xs.length c') xs]:=by
 have S : St (fun _=>False) w w [Sl true Place.cells 5 (.slice ad n c) xs]:=(St.init _ w).share rfl rfl h
 have hq : ∀ (w : World) (a : Option Addr) (n c n' c' : Nat),(binOp .eql 40 (.slice a n c) (.slice none n' c')).run Tryz.prog w = .ok (.bool a.isNone) w:=fun w a n c n' c'=>Lib.run_eql_slice_nil w _ _ a n c n' c' Tryz.underlying40
 cases ad with
 | none=>
   have hx : xs = []:=by
    obtain ⟨a,c',e,h1,h2,_⟩:=h.1
    simp only [Value.slice.injEq] at e
    obtain ⟨rfl,rfl,rfl⟩:=e
    exact List.eq_nil_of_length_eq_zero (by have:=h2 rfl;omega)
   subst hx
   go_enter Tryz.func66,Tryz.ntmps66
   go_wp2_with first | ((with_reducible refine tot_done ?ht ?_);(case ht=>kernel_rfl))
   go_ret
   exact ⟨_,_,rfl,fun h=>absurd h (by simp),((S.nil 163 Place.cells 5).pick [0] rfl)⟩
 | some a0=>
   go_enter Tryz.func66,Tryz.ntmps66
   go_wp2_with first | ((with_reducible apply wps_build0 (T:=40) (E:=163) Place.cells 5 S);(case hr=>intro w;kernel_rfl);clear S;intro bz wz S) | ((with_reducible apply wps_appends elem_Pl plcells plone (by decide) S 0 (j:=1));(case hx|hy|hi|hj=>rfl);(case hl=>first | omega | (simp;omega));clear S;intro az nz cz wz hnz S;simp only [set_cons_zero] at S)
   go_ret
   obtain rfl : nz = xs.length:=by have:=hnz.out;simp at this;omega
   simp only [nil_append] at S
   refine ⟨_,_,rfl,fun h0=>?_,S.pick [0] rfl⟩
   obtain ⟨F,hF⟩:=S.get (i:=0) rfl
   rcases hF.1.2 with ⟨_,e⟩ | ⟨g,cap,cur,e,_⟩
   · omega
   · simp only [Value.slice.injEq] at e;exact ⟨g,e.1⟩
theorem clone_Sta {ad : Option Addr} {n c : Nat} {xs : List _} (w : World) (F : Nat → Prop) (h : (Sl true Start.cells 4 (.slice ad n c) xs).at_ w F) (hn : xs.length ≤ 4294967296) :
 Calls Tryz.prog 67 #[.slice ad n c] w fun e w'=>∃ ad' c',e = .returned (.slice ad' xs.length c') ∧ (0 < xs.length → ∃ R,ad' = some ⟨R,0,none⟩) ∧ St (fun _=>False) w w' [Own 112 Start.cells 4 (.slice ad' xs.length c') xs]:=by
 have S : St (fun _=>False) w w [Sl true Start.cells 4 (.slice ad n c) xs]:=(St.init _ w).share rfl rfl h
 have hq : ∀ (w : World) (a : Option Addr) (n c n' c' : Nat),(binOp .eql 41 (.slice a n c) (.slice none n' c')).run Tryz.prog w = .ok (.bool a.isNone) w:=fun w a n c n' c'=>Lib.run_eql_slice_nil w _ _ a n c n' c' Tryz.underlying41
 cases ad with
 | none=>
   have hx : xs = []:=by
    obtain ⟨a,c',e,h1,h2,_⟩:=h.1
    simp only [Value.slice.injEq] at e
    obtain ⟨rfl,rfl,rfl⟩:=e
    exact List.eq_nil_of_length_eq_zero (by have:=h2 rfl;omega)
   subst hx
   go_enter Tryz.func67,Tryz.ntmps67
   go_wp2_with first | ((with_reducible refine tot_done ?ht ?_);(case ht=>kernel_rfl))
   go_ret
   exact ⟨_,_,rfl,fun h=>absurd h (by simp),((S.nil 112 Start.cells 4).pick [0] rfl)⟩
 | some a0=>
   go_enter Tryz.func67,Tryz.ntmps67
   go_wp2_with first | ((with_reducible apply wps_build0 (T:=41) (E:=112) Start.cells 4 S);(case hr=>intro w;kernel_rfl);clear S;intro bz wz S) | ((with_reducible apply wps_appends elem_Sta stcells stone (by decide) S 0 (j:=1));(case hx|hy|hi|hj=>rfl);(case hl=>first | omega | (simp;omega));clear S;intro az nz cz wz hnz S;simp only [set_cons_zero] at S)
   go_ret
   obtain rfl : nz = xs.length:=by have:=hnz.out;simp at this;omega
   simp only [nil_append] at S
   refine ⟨_,_,rfl,fun h0=>?_,S.pick [0] rfl⟩
   obtain ⟨F,hF⟩:=S.get (i:=0) rfl
   rcases hF.1.2 with ⟨_,e⟩ | ⟨g,cap,cur,e,_⟩
   · omega
   · simp only [Value.slice.injEq] at e;exact ⟨g,e.1⟩
theorem zero_Hdr : zeroIs Tryz.prog 157 1 (vcell (.slice none 0 0)):=⟨_,.slice none 0 0,rfl,by kernel_rfl,by kernel_rfl,rfl,by decide⟩
theorem within_or (n a b : Int) : withinE n a b = 0 ∨ withinE n a b = 10:=by unfold withinE;split <;> simp
theorem within_iff {n a b : Int} : withinE n a b = 0 ↔ a ≤ n ∧ n ≤ b:=by
 unfold withinE;split <;> simp <;> omega
theorem sizes_eq (c : Cfg) : firstE [withinE c.lps.length 1 32,withinE c.programs.length 1 32,withinE c.fin 1 1073741824,withinE c.fuel 1 1024,withinE c.fan 0 8] = sizesE c:=by
 obtain ⟨l,hl⟩ : ∃ l,[withinE c.lps.length 1 32,withinE c.programs.length 1 32,withinE c.fin 1 1073741824,withinE c.fuel 1 1024,withinE c.fan 0 8] = l:=⟨_,rfl⟩
 have hz : firstE l = 0 ↔ sizesOk c:=by
  rw [firstE_zero,← hl]
  simp only [List.mem_cons,List.not_mem_nil,or_false,forall_eq_or_imp,forall_eq,within_iff,sizesOk]
  omega
 rw [hl]
 unfold sizesE
 split
 · exact hz.2 ‹_›
 · rcases firstE_mem l with h | h
   · exact absurd (hz.1 h) ‹_›
   · have hn : firstE l ≠ 0:=fun h=>absurd (hz.1 h) ‹_›
     rw [← hl] at h
     simp only [List.mem_cons,List.not_mem_nil,or_false] at h
     rw [hl] at h
     rcases h with h | h | h | h | h <;> rw [h] at hn ⊢
     · exact (within_or _ _ _).resolve_left hn
     · exact (within_or _ _ _).resolve_left hn
     · exact (within_or _ _ _).resolve_left hn
     · exact (within_or _ _ _).resolve_left hn
     · exact (within_or _ _ _).resolve_left hn
structure Mid (c : Cfg) : Prop where
 p : c.programs.length ≤ 65536
 l : c.lps.length ≤ 65536
 s : c.starts.length ≤ 65536
theorem mcheck_calls (vs hs : List Value) (c : Cfg) (w : World) (F F2 : Nat → Prop) (h : (CfgA true vs hs c).at_ w F) (ht : Tab.at_ w F2) (hm : Mid c) :
 Calls Tryz.prog 64 #[.agg vs.toArray] w fun r w'=>r = .returned (.int .i64 (cfgE c)) ∧ Below w.heap.size w w':=by
 have S : St (fun _=>False) w w [CfgA true vs hs c,Tab]:=((St.init _ w).share rfl rfl ht).share rfl rfl h
 obtain ⟨aP,cP,aL,cL,aS,cS,rfl,hlen,S⟩:=S.cfg 0 rfl
 replace S:=S.pick [0,1,2,3,5] rfl
 simp only [pick,nth] at S
 clear h ht
 have hm1:=hm.p
 have hm2:=hm.l
 have hm3:=hm.s
 obtain ⟨ps,ls,ss,fin,fuel,fan⟩:=c
 simp only at *
 obtain ⟨r,hr⟩ : ∃ r,cfgE ⟨ps,ls,ss,fin,fuel,fan⟩ = r:=⟨_,rfl⟩
 have hq:=sizes_eq ⟨ps,ls,ss,fin,fuel,fan⟩
 simp only at hq
 have e : firstE [firstE [withinE ls.length 1 32,withinE ps.length 1 32,withinE fin 1 1073741824,withinE fuel 1 1024,withinE fan 0 8],(if 256 < ss.length then 11 else 0),firstE (ps.map codeE),
  (if (∀ p ∈ ls,plOk ps.length p) ∧ (∀ s ∈ ss,stOk ls.length s) then 0 else 14),(if ∀ s ∈ ss,0 ≤ s.at_ ∧ s.at_ ≤ fin then 0 else 18)] = r:=by
  rw [← hr,hq];rfl
 rw [hr]
 obtain ⟨x1,hx1⟩ : ∃ x,firstE [withinE ls.length 1 32,withinE ps.length 1 32,withinE fin 1 1073741824,withinE fuel 1 1024,withinE fan 0 8] = x:=⟨_,rfl⟩
 obtain ⟨x2,hx2⟩ : ∃ x : Int,(if 256 < ss.length then 11 else 0) = x:=⟨_,rfl⟩
 obtain ⟨x3,hx3⟩ : ∃ x,firstE (ps.map codeE) = x:=⟨_,rfl⟩
 obtain ⟨x4,hx4⟩ : ∃ x : Int,(if (∀ p ∈ ls,plOk ps.length p) ∧ (∀ s ∈ ss,stOk ls.length s) then 0 else 14) = x:=⟨_,rfl⟩
 obtain ⟨x5,hx5⟩ : ∃ x : Int,(if ∀ s ∈ ss,0 ≤ s.at_ ∧ s.at_ ≤ fin then 0 else 18) = x:=⟨_,rfl⟩
 have c1:=sizes_calls aP aL aS ps.length cP ls.length cL ss.length cS fin fuel fan
 have c2:=starts_calls aP aL aS ps.length cP ls.length cL ss.length cS fin fuel fan
 have c3:=fun w F1 F2 F3 h1 h2 h3=>programs_calls aP aL aS cP ls.length cL ss.length cS fin fuel fan hs ps w F1 F2 F3 h1 h2 h3 hm1
 have c4:=fun w F1 F2 h1 h2=>ends_calls aP aL aS ps.length cP cL cS fin fuel fan ls ss w F1 F2 h1 h2 hm2 hm3
 have c5:=fun w F1 h1=>times_calls aP aL aS ps.length cP ls.length cL cS fin fuel fan ss w F1 h1 hm3
 rw [hx1] at c1 e
 rw [hx2] at c2 e
 rw [hx3] at c3 e
 rw [hx4] at c4 e
 rw [hx5] at c5 e
 clear hx1 hx2 hx3 hx4 hx5 hr hq
 have C1:=Lib.hid c1
 have C2:=Lib.hid c2
 have C3:=Lib.hid c3
 have C4:=Lib.hid c4
 have C5:=Lib.hid c5
 have E:=Lib.hid e
 clear c1 c2 c3 c4 c5 e
 go_enter Tryz.func64,Tryz.ntmps64
 go_wp2_with first | ((with_reducible apply wps_boxa S);(case hx=>rfl);clear S;intro bx wz S)
 (refine wp_region_w (soft:=[0,1,2,3,4,5,6,7,8,9]) S ?hm ?hB ?_);(case hm=>kernel_rfl);(case hB=>decide +kernel);clear S
 iterate 10
  (with_reducible apply softs_cons)
  (case hw=>
    (with_reducible apply soft_of);(case hi=>rfl)
    intro T wz S
    simp only [cons_append,nil_append] at S
    go_wp2_with first | (go_at_call 107;refine Calls.mono (C1.out _) ?_;rintro e wz ⟨rfl,hE⟩;replace S:=S.ext (Keep.of_below hE);clear hE) | (go_at_call 108;refine Calls.mono (C2.out _) ?_;rintro e wz ⟨rfl,hE⟩;replace S:=S.ext (Keep.of_below hE);clear hE) | (go_at_call 109;refine Calls.mono (C3.out _ _ _ _ (S.get (i:=2) rfl).choose_spec (S.get (i:=1) rfl).choose_spec (S.get (i:=5) rfl).choose_spec) ?_;rintro e wz ⟨rfl,hE⟩;replace S:=S.ext (Keep.of_below hE);clear hE) | (go_at_call 110;refine Calls.mono (C4.out _ _ _ (S.get (i:=3) rfl).choose_spec (S.get (i:=4) rfl).choose_spec) ?_;rintro e wz ⟨rfl,hE⟩;replace S:=S.ext (Keep.of_below hE);clear hE) | (go_at_call 111;refine Calls.mono (C5.out _ _ (S.get (i:=4) rfl).choose_spec) ?_;rintro e wz ⟨rfl,hE⟩;replace S:=S.ext (Keep.of_below hE);clear hE) | ((with_reducible refine tot_done ?ht ?_);(case ht=>kernel_rfl)) | ((with_reducible apply wps_loada (T:=43) (k:=6) S 0);(case hx|hi=>rfl);(case hk=>exact nle rfl);(case hT=>decide +kernel))
    exact ⟨rfl,S⟩)
  (case hs=>exact ⟨_,rfl,by kernel_rfl⟩)
 refine softs_nil ?_
 repeat'
  (first
    | ((with_reducible apply W_hard1 (i:=10));(case hn=>rfl);(case hr=>decide +kernel)) | ((with_reducible apply W_hard1 (i:=11));(case hn=>rfl);(case hr=>decide +kernel)) | ((with_reducible apply W_hard1 (i:=12));(case hn=>rfl);(case hr=>decide +kernel)) | ((with_reducible apply W_hard2 (i:=11) (i':=12));(case hn=>rfl);(case hr=>decide +kernel)))
  all_goals
   intro wz S
   (with_reducible apply hard_of);(case hi=>rfl)
   simp only [cons_append,nil_append] at S
   try simp only [pick,nth] at S
   go_wp2_with first | ((with_reducible apply wps_buildSlice (T:=277) (E:=25) (cs:=#[.int .i64 x1,.int .i64 x2,.int .i64 x3,.int .i64 x4,.int .i64 x5]) S);(case hr=>intro w;kernel_rfl);clear S;intro bz wz S) | (go_at_call 106;refine Calls.mono (first_calls _ [x1,x2,x3,x4,x5] _ _ (blk_sl _ intE_len (S.get (i:=6) rfl).choose_spec rfl rfl) (Nat.le_of_ble_eq_true rfl)) ?_;rintro e wz ⟨rfl,hE⟩;replace S:=S.ext (Keep.of_below hE);clear hE) | ((with_reducible refine tot_done ?ht ?_);(case ht=>kernel_rfl))
   first
    | refine ⟨_,S.pick [1,2,3,4,5,6,7,8,9,10,0] rfl,?_⟩
    | refine ⟨_,S.pick [1,2,3,4,5,6,7,8,9,0] rfl,?_⟩
    | refine ⟨_,S.pick [1,2,3,4,5,6,7,8,0] rfl,?_⟩
    | refine ⟨_,S.pick [1,2,3,4,5,6,7,0] rfl,?_⟩
    | refine ⟨_,S.pick [1,2,3,4,5,6,0] rfl,?_⟩
    | refine ⟨_,S,?_⟩
 (with_reducible apply W_done);(case hn=>rfl);(case hr=>decide +kernel)
 clear S
 intro wz S
 simp only [cons_append,nil_append] at S
 try simp only [pick,nth] at S
 go_wp2_with first | ((with_reducible apply wps_loada (T:=43) (k:=6) S 0);(case hx|hi=>rfl);(case hk=>exact nle rfl);(case hT=>decide +kernel))
 go_ret
 exact ⟨ret_int E.out,S.below⟩
end Go.Proofs.YtmjljoaakdocaaaGreatDoor
/- 'copy' between blocks that are known whole. Over any program. -/
namespace Go.Proofs.YtmjljoaakdocaaaGreatDoor.Mem
open Go Go.RowKit Reg
open List (set_cons_succ set_cons_zero setIfInBounds_toArray cons_append nil_append)
section
variable {P : Program} {ops : Array Oper} {rest : List Oper} {a : Act} {Q : Exit → Act → World → Prop} {d : Option Tmp} {tt : TypeId} {p : String} {af : Array Edge} {gd : Option (Nat × Bool)} {x y : Operand}
variable {G : Nat → Prop} {w0 w w' : World} {L : List Asn}
end
end Go.Proofs.YtmjljoaakdocaaaGreatDoor.Mem
/- The walks of vm.New and of a machine's Step. -/
namespace Go.Proofs.YtmjljoaakdocaaaGreatDoor
open Go Go.RowKit Reg Mem
open List (set_cons_succ set_cons_zero setIfInBounds_toArray cons_append nil_append)
def StepPost (F : Nat → Prop) (R : Nat) (e : Event) (vp : Value) (fan : Int) (o : Option Mach) (m : Mach) (w : World) (r : Ending) (w' : World) : Prop:=
 ∃ vs',r = .returned (.bool o.isSome) ∧ St F w w' [Blk false R (machCells e vp (o.getD m) fan vs') 418,Own 385 Emit.cells 4 vs' (o.getD m).sent]
end Go.Proofs.YtmjljoaakdocaaaGreatDoor
/- The walk of model.New. -/
namespace Go.Proofs.YtmjljoaakdocaaaGreatDoor
open Go Go.RowKit Reg Mem
open List (set_cons_succ set_cons_zero setIfInBounds_toArray cons_append nil_append)
def nilS : Value:=.slice none 0 0
def NewRel (bx R0 : Nat) (cs : Array Value) (aP : Option Addr) (cP : Nat) (vL vS : Value) (hs : List Value) (c : Cfg) (w : World) (i : Value) (wr : World) : Prop:=
 ∃ (j : Nat) (gs : List Value),j ≤ c.programs.length ∧ i = .int .i64 j ∧ gs.length = j ∧
  St (fun _=>False) w wr [Blk false bx cs 43,Own 157 vcell 1 (.slice (some ⟨R0,0,none⟩) c.programs.length c.programs.length) (gs ++ List.replicate (c.programs.length - j) nilS),Sls false Instr.cells 5 gs (c.programs.take j),Sls true Instr.cells 5 hs c.programs,Sl true vcell 1 (.slice aP c.programs.length cP) hs,Sl true Place.cells 5 vL c.lps,Sl true Start.cells 4 vS c.starts]
def NewPost (c : Cfg) (w : World) (e : Ending) (w' : World) : Prop:=
 (cfgE c ≠ 0 ∧ e = .returned (.tuple #[.pointer none,.int .i64 (cfgE c)]) ∧ Below w.heap.size w w') ∨
 (cfgE c = 0 ∧ ∃ R vs hs,e = .returned (.tuple #[.pointer (some ⟨R,0,none⟩),.int .i64 0]) ∧ St (fun _=>False) w w' [ModA false 110 R vs hs c])
theorem new_calls (vs hs : List Value) (c : Cfg) (w : World) (F F2 : Nat → Prop) (h : (CfgA true vs hs c).at_ w F) (ht : Tab.at_ w F2) (hm : Mid c) (hm2 : ∀ p ∈ c.programs,p.length ≤ 65536) :
 Calls Tryz.prog 39 #[.agg vs.toArray] w (NewPost c w):=by
 have S : St (fun _=>False) w w [CfgA true vs hs c,Tab]:=((St.init _ w).share rfl rfl ht).share rfl rfl h
 obtain ⟨aP,cP,aL,cL,aS,cS,rfl,hlen,S⟩:=S.cfg 0 rfl
 clear h ht
 have hp1:=hm.p
 have hp2:=hm.l
 have hp3:=hm.s
 have HC : Hid (∀ w F F2,(CfgA true [.slice aP c.programs.length cP,.slice aL c.lps.length cL,.slice aS c.starts.length cS,.int .i64 c.fin,.int .i64 c.fuel,.int .i64 c.fan] hs c).at_ w F → Tab.at_ w F2 →
  Calls Tryz.prog 64 #[.agg #[.slice aP c.programs.length cP,.slice aL c.lps.length cL,.slice aS c.starts.length cS,.int .i64 c.fin,.int .i64 c.fuel,.int .i64 c.fan]] w fun r w'=>r = .returned (.int .i64 (cfgE c)) ∧ Below w.heap.size w w'):=
  fun w F F2 h ht=>mcheck_calls _ hs c w F F2 h ht hm
 obtain ⟨e,he⟩ : ∃ e,cfgE c = e:=⟨_,rfl⟩
 unfold NewPost
 rw [he] at HC ⊢
 have He:=Lib.hid he
 clear he
 by_cases h0 : e = 0
 case neg=>
  have h1 : (e != 0) = true:=by simpa using h0
  have H0:=Lib.hid h0
  clear h0
  go_enter Tryz.func39,Tryz.ntmps39
  go_wp2_with first | ((with_reducible apply wps_boxa S);(case hx=>rfl);clear S;intro bx wz S) | (go_at_call 64;refine Calls.mono (HC.out _ _ _ (S.get (i:=5) rfl).choose_spec (S.get (i:=6) rfl).choose_spec) ?_;rintro e wz ⟨rfl,hE⟩;replace S:=S.ext (Keep.of_below hE);clear hE) | ((with_reducible apply wps_loada (T:=43) (k:=6) S 0);(case hx|hi=>rfl);(case hk=>exact nle rfl);(case hT=>decide +kernel))
  go_ret2
  exact .inl ⟨H0.out,by simp,S.below⟩
 case pos=>
  subst h0
  go_enter Tryz.func39,Tryz.ntmps39
  go_wp2_with first | ((with_reducible apply wps_boxa S);(case hx=>rfl);clear S;intro bx wz S) | (go_at_call 64;refine Calls.mono (HC.out _ _ _ (S.get (i:=5) rfl).choose_spec (S.get (i:=6) rfl).choose_spec) ?_;rintro e wz ⟨rfl,hE⟩;replace S:=S.ext (Keep.of_below hE);clear hE) | ((with_reducible apply wps_make vcells Tryz.underlying39 _ zero_Hdr S (n:=c.programs.length));(case hx|hy=>rfl);(case hn=>omega);clear S;intro bz wz S) | ((with_reducible apply wps_load S 0);(case hx|hi|hu=>rfl);(case hT=>decide +kernel)) | ((with_reducible apply wps_loada (T:=43) (k:=6) S 0);(case hx|hi=>rfl);(case hk=>exact nle rfl);(case hT=>decide +kernel)) | ((with_reducible apply wps_load S 1);(case hx|hi|hu=>rfl);(case hT=>decide +kernel))
  clear HC
  replace S:=(S.slsNil Instr.cells 5).pick [2,1,0,3,4,5,6] rfl
  simp only [pick,nth] at S
  go_loopw [20] (fun i wr=>NewRel bx bz #[.slice aP c.programs.length cP,.slice aL c.lps.length cL,.slice aS c.starts.length cS,.int .i64 c.fin,.int .i64 c.fuel,.int .i64 c.fan] aP cP (.slice aL c.lps.length cL) (.slice aS c.starts.length cS) hs c w i wr) (fun i _=>c.programs.length - (intOf i).toNat)
  case atStart=>exact ⟨0,[],Nat.zero_le _,rfl,rfl,S⟩
  case round=>
   clear S
   obtain ⟨j,gs,hj,rfl,hgs,S⟩:=hrel
   by_cases hlt : j < c.programs.length
   · obtain ⟨p,hp⟩ : ∃ p,c.programs[j]? = some p:=⟨_,List.getElem?_eq_getElem hlt⟩
     obtain ⟨v,hv⟩ : ∃ v,hs[j]? = some v:=⟨_,List.getElem?_eq_getElem (by omega)⟩
     obtain ⟨R,o,rfl⟩ : ∃ R o,aP = some ⟨R,o,none⟩:=(S.sl 4 rfl).elim fun F h=>h.head (by omega)
     have hlt2 : (j : Int) < c.programs.length:=by omega
     have hpn:=hm2 p (List.mem_of_getElem? hp)
     obtain ⟨av,cv,rfl,_⟩:=(S.sls 3 rfl).elim fun F h=>(h.2 j v p hv hp).form
     have hr : List.replicate (c.programs.length - j) nilS = nilS :: List.replicate (c.programs.length - (j + 1)) nilS:=by
      rw [← List.replicate_succ];congr 1;omega
     rw [hr] at S
     have hj0 : (gs ++ nilS :: List.replicate (c.programs.length - (j + 1)) nilS)[j]? = some nilS:=by rw [← hgs];simp
     clear hr
     have Hp:=Lib.hid hp
     have Hv:=Lib.hid hv
     have Hj0:=Lib.hid hj0
     clear hp hv hj0
     go_wp2_with first | ((with_reducible apply wps_load_el S 4 (hj:=Hv.out) (q:=0) (u:=(.slice av p.length cv)));(case hx|hi=>rfl);(case hn=>omega);(case hu=>rfl);(case hT=>decide +kernel))
     refine Calls.mono (clone_In _ _ ((S.slsEl 3 rfl Hv.out Hp.out).get (i:=0) rfl).choose_spec (by omega)) ?_
     rintro e wz ⟨ad2,c2,rfl,_,T⟩
     replace S:=S.join T rfl
     simp only [cons_append,nil_append] at S
     clear T
     go_wp2_with first | ((with_reducible apply wps_store_own vcells S 2 (hj:=Hj0.out) (e':=(.slice ad2 p.length c2)) (q:=0));(case hx=>rfl);(case hn=>omega);(case hi|hy|h1|he=>rfl);(case hq=>decide);(case hT=>decide +kernel);clear S;intro wz S;simp only [set_cons_succ,set_cons_zero] at S)
     rw [hset hgs.symm] at S
     replace S:=((S.freeze false 0 incells rfl).pick [0,3,1,2,4,5,6,7] rfl)
     simp only [set_cons_zero,pick,nth] at S
     replace S:=S.slsSnoc.pick [1,2,0,3,4,5,6] rfl
     simp only [pick,nth] at S
     go_roundw
     case rel=>
      refine ⟨j + 1,gs ++ [.slice ad2 p.length c2],by omega,by go_num,by simp [hgs],?_⟩
      have ht : c.programs.take (j + 1) = c.programs.take j ++ [p]:=by rw [List.take_add_one,Hp.out];rfl
      rw [ht]
      exact S
     case measure=>first | (simp [intOf];done) | (simp [intOf];omega)
   · obtain rfl : j = c.programs.length:=by omega
     rw [Nat.sub_self,List.replicate_zero,List.append_nil,List.take_length] at S
     replace S:=S.freeze false 1 vcells rfl
     simp only [set_cons_succ,set_cons_zero] at S
     obtain ⟨ps,ls,ss,fin,fuel,fan⟩:=c
     have hz:=He.out
     simp only at S hp1 hp2 hp3 hlen
     go_wp2_with first | ((with_reducible apply wps_store S 0);(case hx|hy|hi|h1=>rfl);(case hn=>exact nle rfl);(case hT=>decide +kernel);clear S;intro wz S;simp only [set_cons_zero,setIfInBounds_toArray] at S) | ((with_reducible apply wps_load S 0);(case hx|hi|hu=>rfl);(case hT=>decide +kernel))
     refine Calls.mono (clone_Pl _ _ (S.get (i:=5) rfl).choose_spec (by omega)) ?_
     rintro e wz ⟨ad2,c2,rfl,_,T⟩
     replace S:=((S.join T rfl).freeze false 0 plcells rfl).pick [1,0,2,3,7] rfl
     simp only [cons_append,nil_append,set_cons_zero,pick,nth] at S
     clear T
     go_wp2_with first | ((with_reducible apply wps_store S 0);(case hx|hy|hi|h1=>rfl);(case hn=>exact nle rfl);(case hT=>decide +kernel);clear S;intro wz S;simp only [set_cons_succ,set_cons_zero,setIfInBounds_toArray] at S) | ((with_reducible apply wps_load S 0);(case hx|hi|hu=>rfl);(case hT=>decide +kernel))
     refine Calls.mono (clone_Sta _ _ (S.get (i:=4) rfl).choose_spec (by omega)) ?_
     rintro e wz ⟨ad3,c3,rfl,_,T⟩
     replace S:=((S.join T rfl).freeze false 0 stcells rfl).pick [1,3,2,0,4] rfl
     simp only [cons_append,nil_append,set_cons_zero,pick,nth] at S
     clear T
     go_wp2_with first | ((with_reducible apply wps_store S 0);(case hx|hy|hi|h1=>rfl);(case hn=>exact nle rfl);(case hT=>decide +kernel);clear S;intro wz S;simp only [set_cons_succ,set_cons_zero,setIfInBounds_toArray] at S) | ((with_reducible apply wps_boxa S);(case hx=>rfl);clear S;intro b2 wz S) | ((with_reducible apply wps_loada (T:=43) (k:=6) S 0);(case hx|hi=>rfl);(case hk=>exact nle rfl);(case hT=>decide +kernel))
     go_ret2
     replace S:=S.pick [0,2,3,4,5] rfl
     simp only [pick,nth] at S
     refine .inr ⟨trivial,_,_,_,rfl,S.modNew⟩
end Go.Proofs.YtmjljoaakdocaaaGreatDoor
/- The walk of vm.New. -/
namespace Go.Proofs.YtmjljoaakdocaaaGreatDoor
open Go Go.RowKit Reg Mem
open List (set_cons_succ set_cons_zero setIfInBounds_toArray cons_append nil_append)
def VNewPost (s : State) (e : Event) (p : List Instr) (fan : Int) (w : World) (r : Ending) (w' : World) : Prop:=
 ∃ R vp,r = .returned (.pointer (some ⟨R,0,none⟩)) ∧ St (fun _=>False) w w' [Blk false R (machCells e vp (startE s) fan nilS) 418,Own 385 Emit.cells 4 nilS [],Own 160 Instr.cells 5 vp p]
end Go.Proofs.YtmjljoaakdocaaaGreatDoor
/- The walks of a machine's Sent and of vm.Run. -/
namespace Go.Proofs.YtmjljoaakdocaaaGreatDoor
open Go Go.RowKit Reg Mem
open List (set_cons_succ set_cons_zero setIfInBounds_toArray cons_append nil_append)
def runE (p : List Instr) (s : State) (e : Event) (fuel fan : Int) : Mach:=stepsE p e fan (min fuel 1024).toNat (startE s)
def Mach.state (m : Mach) : State:=⟨m.get 0,m.get 1,m.get 2,m.get 3⟩
def VRunRel (Rm bo : Nat) (cso : Array Value) (p : List Instr) (s : State) (e : Event) (N : Nat) (fan : Int) (w : World) (steps : Value) (wr : World) : Prop:=
 ∃ (k : Nat) (m : Mach) (vs : Value) (vp2 : Value),k ≤ N ∧ steps = .int .i64 k ∧ Hid (stepsE p e fan (N - k) m = stepsE p e fan N (startE s)) ∧ Hid (m.cs.length = 8) ∧ Hid (0 ≤ m.at_) ∧ Hid (m.sent.length ≤ k) ∧
  St (fun _=>False) w wr [Blk false Rm (machCells e vp2 m fan vs) 418,Own 385 Emit.cells 4 vs m.sent,Sl true Instr.cells 5 vp2 p,Tab,Blk false bo cso 141]
def VRunPost (m : Mach) (w : World) (r : Ending) (w' : World) : Prop:=
 ∃ (k : Int) (ad : Option Addr) (c : Nat),r = .returned (.tuple #[.agg #[.int .i64 m.state.n0,.int .i64 m.state.n1,.int .i64 m.state.n2,.int .i64 m.state.n3],.slice ad m.sent.length c,.int .i64 k]) ∧ St (fun _=>False) w w' [Own 385 Emit.cells 4 (.slice ad m.sent.length c) m.sent]
end Go.Proofs.YtmjljoaakdocaaaGreatDoor
/- Plain: batches. No program in sight. -/
namespace Go.Proofs.YtmjljoaakdocaaaGreatDoor
open Go Go.RowKit Mem
open List (set_cons_succ set_cons_zero setIfInBounds_toArray cons_append nil_append)
def twiceB (l : List Event) : Bool:=!decide ((l.map (·.key)).Nodup)
def procE (n : Nat) (lp : Int) : Int:=if lp < 0 ∨ (n : Int) ≤ lp then 10 else 0
def atE (l : List Event) : Int:=match l with | []=>0 | x :: _=>x.key.at_
def wrongE (n : Nat) (lp : Int) (l : List Event) : Int:=
 if lp < 0 ∨ (n : Int) ≤ lp then 10 else if l.length = 0 then 14 else if ¬ (∀ x ∈ l,x.dst = lp) then 10 else if ¬ (∀ x ∈ l,x.key.at_ = atE l) then 18 else if twiceB l = true then 13 else 0
def msgE (n : Nat) (fin at_ : Int) (y : Emit) : Bool:=decide (0 ≤ y.dst ∧ y.dst < n ∧ 1 ≤ y.delay ∧ y.delay ≤ 1073741824 ∧ at_ + y.delay ≤ fin)
def sendE (n : Nat) (fin lp at_ : Int) (out : List Event) (y : Emit) : List Event:=
 if msgE n fin at_ y = true then out ++ [⟨⟨at_ + y.delay,lp,at_,out.length⟩,y.dst,y.kind,y.data⟩] else out
def oneE (p : List Instr) (n : Nat) (fin fuel fan lp at_ : Int) (st : State × List Event) (x : Event) : State × List Event:=
 ((runE p st.1 x fuel fan).state,(runE p st.1 x fuel fan).sent.foldl (sendE n fin lp at_) st.2)
def batchE (p : List Instr) (n : Nat) (fin fuel fan lp : Int) (s : State) (l : List Event) : State × List Event:=
 (sortE l).foldl (oneE p n fin fuel fan lp (atE l)) (s,[])
end Go.Proofs.YtmjljoaakdocaaaGreatDoor
