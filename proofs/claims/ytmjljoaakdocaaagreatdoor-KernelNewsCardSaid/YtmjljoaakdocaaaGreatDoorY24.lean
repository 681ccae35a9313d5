import Derived.Test.YtmjljoaakdocaaaGreatDoorY20
import Derived.Test.YtmjljoaakdocaaaGreatDoorY07
import Derived.Deep.Cut
import Derived.Test.YtmjljoaakdocaaaGreatDoorY04
import Derived.Test.YtmjljoaakdocaaaGreatDoorY09
import Derived.Test.YtmjljoaakdocaaaGreatDoorProg
import Derived.Shelf.SlLaysF0
import Derived.KernelRfl
import Derived.Test.YtmjljoaakdocaaaGreatDoorY12
import Derived.Shelf.SlSortCmp.NoneTotal
/- A log as a thing of the state; the walks of New, Time, Len and States. -/
set_option maxHeartbeats 16000000
set_option maxRecDepth 100000
namespace Go.Proofs.YtmjljoaakdocaaaGreatDoor
open Go Go.RowKit Reg Mem
open List (set_cons_succ set_cons_zero setIfInBounds_toArray cons_append nil_append)
def logA (X R : Nat) (g : LogE) : Asn:=exs false fun p : Value × Value × List BatV=>
 sep false (pur (p.2.2.map (·.b) = g.done)) (sep false (Blk false X #[.pointer (some ⟨R,0,none⟩),p.1,.int .i64 g.time,p.2.1] 119)
  (sep false (Own 141 State.cells 4 p.1 g.ss) (sep false (Own 304 BatV.cells 8 p.2.1 p.2.2)
    (sep false (Sls false Event.cells 7 (p.2.2.map (·.vi)) (p.2.2.map (·.b.ins))) (Sls false Event.cells 7 (p.2.2.map (·.vo)) (p.2.2.map (·.b.sent)))))))
theorem log_open {G : Nat → Prop} {w0 w : World} {L : List Asn} {X R : Nat} {g : LogE} (S : St G w0 w (logA X R g :: L)) :
 ∃ v1 v2 l,l.map (·.b) = g.done ∧ St G w0 w (Sls false Event.cells 7 (l.map (·.vi)) (l.map (·.b.ins)) :: Sls false Event.cells 7 (l.map (·.vo)) (l.map (·.b.sent)) :: Own 304 BatV.cells 8 v2 l :: Own 141 State.cells 4 v1 g.ss :: Blk false X #[.pointer (some ⟨R,0,none⟩),v1,.int .i64 g.time,v2] 119 :: L):=by
 obtain ⟨⟨v1,v2,l⟩,S⟩:=S.open_exs (fun _=>rfl)
 obtain ⟨h1,S⟩:=(S.open_sep rfl rfl).open_pur
 exact ⟨v1,v2,l,h1,(((S.open_sep rfl rfl).swap2.open_sep rfl rfl).swap2.open_sep rfl rfl).swap2.open_sep rfl rfl⟩
theorem log_close {G : Nat → Prop} {w0 w : World} {L : List Asn} {X R : Nat} {g : LogE} {v1 v2 : Value} {l : List BatV} (hl : l.map (·.b) = g.done)
 (S : St G w0 w (Sls false Event.cells 7 (l.map (·.vi)) (l.map (·.b.ins)) :: Sls false Event.cells 7 (l.map (·.vo)) (l.map (·.b.sent)) :: Own 304 BatV.cells 8 v2 l :: Own 141 State.cells 4 v1 g.ss :: Blk false X #[.pointer (some ⟨R,0,none⟩),v1,.int .i64 g.time,v2] 119 :: L)) : St G w0 w (logA X R g :: L):=
 ((((((S.close_sep rfl rfl).swap2.close_sep rfl rfl).swap2.close_sep rfl rfl).swap2.close_sep rfl rfl).close_pur hl).close_sep rfl rfl).close_exs (A:=fun p : Value × Value × List BatV=>
 sep false (pur (p.2.2.map (·.b) = g.done)) (sep false (Blk false X #[.pointer (some ⟨R,0,none⟩),p.1,.int .i64 g.time,p.2.1] 119)
  (sep false (Own 141 State.cells 4 p.1 g.ss) (sep false (Own 304 BatV.cells 8 p.2.1 p.2.2)
    (sep false (Sls false Event.cells 7 (p.2.2.map (·.vi)) (p.2.2.map (·.b.ins))) (Sls false Event.cells 7 (p.2.2.map (·.vo)) (p.2.2.map (·.b.sent)))))))) (v1,v2,l) rfl
theorem logR_st {X R : Nat} {g : LogE} {w : World} {F : Nat → Prop} (h : (logA X R g).at_ w F) :
 ∃ v1 v2 l,l.map (·.b) = g.done ∧ St (fun _=>False) w w [Sls true Event.cells 7 (l.map (·.vi)) (l.map (·.b.ins)),Sls true Event.cells 7 (l.map (·.vo)) (l.map (·.b.sent)),Sl true BatV.cells 8 v2 l,Sl true State.cells 4 v1 g.ss,Blk true X #[.pointer (some ⟨R,0,none⟩),v1,.int .i64 g.time,v2] 119]:=by
 obtain ⟨⟨v1,v2,l⟩,F1,F2,⟨h1,_⟩,⟨F3,F4,h3,⟨F5,F6,h5,⟨F7,F8,h7,⟨F9,F10,h9,h10,_,_⟩,_,_⟩,_,_⟩,_,_⟩,_,_⟩:=h
 refine ⟨v1,v2,l,h1,?_⟩
 have S1 : St (fun _=>False) w w [Blk true X #[.pointer (some ⟨R,0,none⟩),v1,.int .i64 g.time,v2] 119]:=(St.init _ w).share rfl rfl h3
 have S2:=S1.share (A:=Sl true State.cells 4 v1 g.ss) rfl rfl (own_sl (sh:=true) sacells h5)
 have S3:=S2.share (A:=Sl true BatV.cells 8 v2 l) rfl rfl (own_sl (sh:=true) bvcells h7)
 have S4:=S3.share (A:=Sls true Event.cells 7 (l.map fun x : BatV=>x.vo) (l.map fun x : BatV=>x.b.sent)) rfl rfl h10
 exact S4.share (A:=Sls true Event.cells 7 (l.map fun x : BatV=>x.vi) (l.map fun x : BatV=>x.b.ins)) rfl rfl h9
def LNewRel (X R : Nat) (vs hs : List Value) (c : Cfg) (w : World) (i : Value) (wr : World) : Prop:=
 ∃ (j : Nat) (v1 : Value),j ≤ c.lps.length ∧ i = .int .i64 j ∧
  St (fun _=>False) w wr [ModA true 110 R vs hs c,Blk false X #[.pointer (some ⟨R,0,none⟩),v1,.int .i64 0,.slice none 0 0] 119,Own 141 State.cells 4 v1 ((c.lps.take j).map (·.first))]
def LNewPost (R : Nat) (c : Cfg) (w : World) (e : Ending) (w' : World) : Prop:=
 ∃ X,e = .returned (.tuple #[.pointer (some ⟨X,0,none⟩),.int .i64 0]) ∧ St (fun _=>False) w w' [logA X R (newL c)]
theorem lnew_calls (R : Nat) (vs hs : List Value) (c : Cfg) (w : World) (F : Nat → Prop) (h : (ModA true 110 R vs hs c).at_ w F) (hn : c.lps.length ≤ 32) :
 Calls Tryz.prog 28 #[.pointer (some ⟨R,0,none⟩)] w (LNewPost R c w):=by
 have S : St (fun _=>False) w w [ModA true 110 R vs hs c]:=(St.init _ w).share rfl rfl h
 clear h
 go_enter Tryz.func28,Tryz.ntmps28
 go_wp2_with first | ((with_reducible apply wps_boxa (E:=119) S);(case hx=>rfl);clear S;intro bx wz S) | (go_at_call 17;refine Calls.mono (lps_calls _ _ _ _ _ _ (S.get (i:=1) rfl).choose_spec) ?_;rintro e wz ⟨rfl,hE⟩;replace S:=S.ext (Keep.of_below hE);clear hE) | ((with_reducible apply wps_load S 0);(case hx|hi|hu=>rfl);(case hT=>decide +kernel))
 go_loopw [18] (fun i wr=>LNewRel bx R vs hs c w i wr) (fun i _=>c.lps.length - (intOf i).toNat)
 case atStart=>
  exact ⟨0,.slice none 0 0,Nat.zero_le _,rfl,((S.nil 141 State.cells 4).pick [2,1,0] rfl)⟩
 case round=>
  clear S
  obtain ⟨j,v1,hj,rfl,S⟩:=hrel
  by_cases hlt : j < c.lps.length
  · obtain ⟨p,hp⟩ : ∃ p,c.lps[j]? = some p:=⟨_,List.getElem?_eq_getElem hlt⟩
    have hlt2 : (j : Int) < c.lps.length:=by omega
    obtain ⟨ssj,HSJ⟩ : ∃ l,Hid ((c.lps.take j).map (·.first) = l):=⟨_,rfl⟩
    rw [HSJ.out] at S
    have htl : Hid (ssj.length = j):=Lib.hid (by rw [← HSJ.out,List.length_map,List.length_take];omega)
    have hcl1 : ssj.length < 4294967296:=by rw [htl.out];omega
    have HTS : Hid ((c.lps.take (j + 1)).map (·.first) = ssj ++ [p.first]):=Lib.hid (by rw [take_snoc hp,List.map_append,HSJ.out];rfl)
    obtain ⟨a1,c1,rfl,_⟩:=(S.ownsl sacells 2 rfl).elim fun _ h=>h.form
    have Hp:=Lib.hid hp
    clear hp
    go_upto_region 7 with first | ((with_reducible apply wps_load S 3);(case hx|hi|hu=>rfl);(case hT=>decide +kernel))
    (refine wp_region_wt (soft:=[0,1,2,3,5,6,7,8,10]) (L:=[_]) (T:=[_,_]) S ?hm ?hB ?_);(case hm=>kernel_rfl);(case hB=>decide +kernel);clear S
    iterate 9
     (with_reducible apply softs_cons)
     (case hw=>
       (with_reducible apply soft_of);(case hi=>rfl)
       intro T wz S
       simp only [cons_append,nil_append] at S
       go_wp2_with first | ((with_reducible refine tot_done ?ht ?_);(case ht=>kernel_rfl))
       exact ⟨rfl,S⟩)
     (case hs=>exact ⟨_,rfl,by kernel_rfl⟩)
    refine softs_nil ?_
    (with_reducible apply W_hard2 (i:=4) (i':=9));(case hn=>rfl);(case hr=>decide +kernel)
    focus
     intro wz S
     (with_reducible apply hard_of);(case hi=>rfl)
     simp only [cons_append,nil_append] at S
     go_wp2_with first | ((with_reducible refine tot_done ?ht ?_);(case ht=>kernel_rfl)) | ((with_reducible apply wps_load S 1);(case hx|hi|hu=>rfl);(case hT=>decide +kernel))
     refine ⟨_,S,?_⟩
     clear S
     (with_reducible apply W_hard1 (i:=9));(case hn=>rfl);(case hr=>decide +kernel)
     intro wz S
     (with_reducible apply hard_of);(case hi=>rfl)
     simp only [cons_append,nil_append] at S
     go_wp2_with first | ((with_reducible refine tot_done ?ht ?_);(case ht=>kernel_rfl)) | ((with_reducible apply wps_load S 1);(case hx|hi|hu=>rfl);(case hT=>decide +kernel))
     refine ⟨_,S,?_⟩
     clear S
     (refine W_mid (f:=5) (soft:=[11]) rfl ?hB ?_);(case hB=>decide +kernel)
     iterate 1
      (with_reducible apply softs_cons)
      (case hw=>
        (with_reducible apply soft_of);(case hi=>rfl)
        intro T wz S
        simp only [cons_append,nil_append] at S
        go_wp2_with first | (go_at_call 50;refine Calls.mono (first_at _ _ _ _ _ _ j p (S.get (i:=0) rfl).choose_spec Hp.out) ?_;rintro e wz ⟨rfl,hE⟩;replace S:=S.ext (Keep.of_below hE);clear hE) | ((with_reducible refine tot_done ?ht ?_);(case ht=>kernel_rfl))
        exact ⟨rfl,S⟩)
      (case hs=>exact ⟨_,rfl,by kernel_rfl⟩)
     refine softs_nil ?_
     (with_reducible apply W_hard1 (i:=12));(case hn=>rfl);(case hr=>decide +kernel)
     intro wz S
     (with_reducible apply hard_of);(case hi=>rfl)
     simp only [cons_append,nil_append] at S
     go_wp2_with first | ((with_reducible apply wps_build1a (T:=116) (E:=141) S);(case hx=>rfl);(case hr=>intro w;kernel_rfl);clear S;intro bz wz S) | ((with_reducible refine tot_done ?ht ?_);(case ht=>kernel_rfl))
     refine ⟨_,S.pick [1,2,3,0] rfl,?_⟩
     clear S
     (with_reducible apply W_hard1 (i:=13));(case hn=>rfl);(case hr=>decide +kernel)
     intro wz S
     (with_reducible apply hard_of);(case hi=>rfl)
     simp only [cons_append,nil_append] at S
     go_wp2_with first | ((with_reducible apply wps_append1 elem_Sst sacells saone (by decide) S 2 (j:=3) (e:=p.first));(case hx|hy|hi|hj|he=>rfl);(case hl=>omega);clear S;intro az nz cz wz hnz S;simp only [set_cons_succ] at S) | ((with_reducible refine tot_done ?ht ?_);(case ht=>kernel_rfl))
     refine ⟨_,S,?_⟩
     clear S
     (refine W_mid (f:=1) (soft:=[14,15]) rfl ?hB ?_);(case hB=>decide +kernel)
     iterate 2
      (with_reducible apply softs_cons)
      (case hw=>
        (with_reducible apply soft_of);(case hi=>rfl)
        intro T wz S
        simp only [cons_append,nil_append] at S
        go_wp2_with first | ((with_reducible refine tot_done ?ht ?_);(case ht=>kernel_rfl))
        exact ⟨rfl,S⟩)
      (case hs=>exact ⟨_,rfl,by kernel_rfl⟩)
     refine softs_nil ?_
     (with_reducible apply W_hard1 (i:=16));(case hn=>rfl);(case hr=>decide +kernel)
     intro wz S
     (with_reducible apply hard_of);(case hi=>rfl)
     simp only [cons_append,nil_append] at S
     go_wp2_with first | ((with_reducible apply wps_store (u:=(.slice az nz cz)) S 1);(case hx|hy|hi|h1=>rfl);(case hn=>exact nle rfl);(case hT=>decide +kernel);clear S;intro wz S;simp only [set_cons_succ,set_cons_zero,setIfInBounds_toArray] at S) | ((with_reducible refine tot_done ?ht ?_);(case ht=>kernel_rfl))
     refine ⟨_,S,?_⟩
     clear S
     (with_reducible apply W_done);(case hn=>rfl);(case hr=>decide +kernel)
     intro wz S
     repeat (first | simp only at S | simp only [pick] at S | simp only [nth] at S | simp only [set_cons_succ] at S | simp only [set_cons_zero] at S | simp only [setIfInBounds_toArray] at S | simp only [setAll] at S | simp only [cons_append] at S | simp only [nil_append] at S | simp only [List.append_nil] at S)
    rotate_left 1
    focus
     intro wz S
     (with_reducible apply hard_of);(case hi=>rfl)
     simp only [cons_append,nil_append] at S
     go_wp2_with first | ((with_reducible refine tot_done ?ht ?_);(case ht=>kernel_rfl)) | ((with_reducible apply wps_load S 1);(case hx|hi|hu=>rfl);(case hT=>decide +kernel))
     refine ⟨_,S,?_⟩
     clear S
     (refine W_mid (f:=6) (soft:=[11]) rfl ?hB ?_);(case hB=>decide +kernel)
     iterate 1
      (with_reducible apply softs_cons)
      (case hw=>
        (with_reducible apply soft_of);(case hi=>rfl)
        intro T wz S
        simp only [cons_append,nil_append] at S
        go_wp2_with first | (go_at_call 50;refine Calls.mono (first_at _ _ _ _ _ _ j p (S.get (i:=0) rfl).choose_spec Hp.out) ?_;rintro e wz ⟨rfl,hE⟩;replace S:=S.ext (Keep.of_below hE);clear hE) | ((with_reducible refine tot_done ?ht ?_);(case ht=>kernel_rfl))
        exact ⟨rfl,S⟩)
      (case hs=>exact ⟨_,rfl,by kernel_rfl⟩)
     refine softs_nil ?_
     (with_reducible apply W_hard2 (i:=4) (i':=12));(case hn=>rfl);(case hr=>decide +kernel)
     focus
      intro wz S
      (with_reducible apply hard_of);(case hi=>rfl)
      simp only [cons_append,nil_append] at S
      go_wp2_with first | ((with_reducible refine tot_done ?ht ?_);(case ht=>kernel_rfl)) | ((with_reducible apply wps_load S 1);(case hx|hi|hu=>rfl);(case hT=>decide +kernel))
      refine ⟨_,S,?_⟩
      clear S
      (with_reducible apply W_hard1 (i:=12));(case hn=>rfl);(case hr=>decide +kernel)
      intro wz S
      (with_reducible apply hard_of);(case hi=>rfl)
      simp only [cons_append,nil_append] at S
      go_wp2_with first | ((with_reducible apply wps_build1a (T:=116) (E:=141) S);(case hx=>rfl);(case hr=>intro w;kernel_rfl);clear S;intro bz wz S) | ((with_reducible refine tot_done ?ht ?_);(case ht=>kernel_rfl))
      refine ⟨_,S.pick [1,2,3,0] rfl,?_⟩
      clear S
      (with_reducible apply W_hard1 (i:=13));(case hn=>rfl);(case hr=>decide +kernel)
      intro wz S
      (with_reducible apply hard_of);(case hi=>rfl)
      simp only [cons_append,nil_append] at S
      go_wp2_with first | ((with_reducible apply wps_append1 elem_Sst sacells saone (by decide) S 2 (j:=3) (e:=p.first));(case hx|hy|hi|hj|he=>rfl);(case hl=>omega);clear S;intro az nz cz wz hnz S;simp only [set_cons_succ] at S) | ((with_reducible refine tot_done ?ht ?_);(case ht=>kernel_rfl))
      refine ⟨_,S,?_⟩
      clear S
      (refine W_mid (f:=1) (soft:=[14,15]) rfl ?hB ?_);(case hB=>decide +kernel)
      iterate 2
       (with_reducible apply softs_cons)
       (case hw=>
         (with_reducible apply soft_of);(case hi=>rfl)
         intro T wz S
         simp only [cons_append,nil_append] at S
         go_wp2_with first | ((with_reducible refine tot_done ?ht ?_);(case ht=>kernel_rfl))
         exact ⟨rfl,S⟩)
       (case hs=>exact ⟨_,rfl,by kernel_rfl⟩)
      refine softs_nil ?_
      (with_reducible apply W_hard1 (i:=16));(case hn=>rfl);(case hr=>decide +kernel)
      intro wz S
      (with_reducible apply hard_of);(case hi=>rfl)
      simp only [cons_append,nil_append] at S
      go_wp2_with first | ((with_reducible apply wps_store (u:=(.slice az nz cz)) S 1);(case hx|hy|hi|h1=>rfl);(case hn=>exact nle rfl);(case hT=>decide +kernel);clear S;intro wz S;simp only [set_cons_succ,set_cons_zero,setIfInBounds_toArray] at S) | ((with_reducible refine tot_done ?ht ?_);(case ht=>kernel_rfl))
      refine ⟨_,S,?_⟩
      clear S
      (with_reducible apply W_done);(case hn=>rfl);(case hr=>decide +kernel)
      intro wz S
      repeat (first | simp only at S | simp only [pick] at S | simp only [nth] at S | simp only [set_cons_succ] at S | simp only [set_cons_zero] at S | simp only [setIfInBounds_toArray] at S | simp only [setAll] at S | simp only [cons_append] at S | simp only [nil_append] at S | simp only [List.append_nil] at S)
     rotate_left 1
     focus
      intro wz S
      (with_reducible apply hard_of);(case hi=>rfl)
      simp only [cons_append,nil_append] at S
      go_wp2_with first | ((with_reducible apply wps_build1a (T:=116) (E:=141) S);(case hx=>rfl);(case hr=>intro w;kernel_rfl);clear S;intro bz wz S) | ((with_reducible refine tot_done ?ht ?_);(case ht=>kernel_rfl))
      refine ⟨_,S.pick [1,2,3,0] rfl,?_⟩
      clear S
      (with_reducible apply W_hard1 (i:=4));(case hn=>rfl);(case hr=>decide +kernel)
      intro wz S
      (with_reducible apply hard_of);(case hi=>rfl)
      simp only [cons_append,nil_append] at S
      go_wp2_with first | ((with_reducible refine tot_done ?ht ?_);(case ht=>kernel_rfl)) | ((with_reducible apply wps_load S 1);(case hx|hi|hu=>rfl);(case hT=>decide +kernel))
      refine ⟨_,S,?_⟩
      clear S
      (with_reducible apply W_hard1 (i:=13));(case hn=>rfl);(case hr=>decide +kernel)
      intro wz S
      (with_reducible apply hard_of);(case hi=>rfl)
      simp only [cons_append,nil_append] at S
      go_wp2_with first | ((with_reducible apply wps_append1 elem_Sst sacells saone (by decide) S 2 (j:=3) (e:=p.first));(case hx|hy|hi|hj|he=>rfl);(case hl=>omega);clear S;intro az nz cz wz hnz S;simp only [set_cons_succ] at S) | ((with_reducible refine tot_done ?ht ?_);(case ht=>kernel_rfl))
      refine ⟨_,S,?_⟩
      clear S
      (refine W_mid (f:=1) (soft:=[14,15]) rfl ?hB ?_);(case hB=>decide +kernel)
      iterate 2
       (with_reducible apply softs_cons)
       (case hw=>
         (with_reducible apply soft_of);(case hi=>rfl)
         intro T wz S
         simp only [cons_append,nil_append] at S
         go_wp2_with first | ((with_reducible refine tot_done ?ht ?_);(case ht=>kernel_rfl))
         exact ⟨rfl,S⟩)
       (case hs=>exact ⟨_,rfl,by kernel_rfl⟩)
      refine softs_nil ?_
      (with_reducible apply W_hard1 (i:=16));(case hn=>rfl);(case hr=>decide +kernel)
      intro wz S
      (with_reducible apply hard_of);(case hi=>rfl)
      simp only [cons_append,nil_append] at S
      go_wp2_with first | ((with_reducible apply wps_store (u:=(.slice az nz cz)) S 1);(case hx|hy|hi|h1=>rfl);(case hn=>exact nle rfl);(case hT=>decide +kernel);clear S;intro wz S;simp only [set_cons_succ,set_cons_zero,setIfInBounds_toArray] at S) | ((with_reducible refine tot_done ?ht ?_);(case ht=>kernel_rfl))
      refine ⟨_,S,?_⟩
      clear S
      (with_reducible apply W_done);(case hn=>rfl);(case hr=>decide +kernel)
      intro wz S
      repeat (first | simp only at S | simp only [pick] at S | simp only [nth] at S | simp only [set_cons_succ] at S | simp only [set_cons_zero] at S | simp only [setIfInBounds_toArray] at S | simp only [setAll] at S | simp only [cons_append] at S | simp only [nil_append] at S | simp only [List.append_nil] at S)
    all_goals
     go_wp2_with first | ((with_reducible apply wps_load S 3);(case hx|hi|hu=>rfl);(case hT=>decide +kernel))
     go_roundw
     case rel=>
      refine ⟨j + 1,.slice az nz cz,by omega,by go_num,?_⟩
      rw [HTS.out]
      exact S.pick [0,1,2] rfl
     case measure=>simp [intOf];omega
  · obtain rfl : j = c.lps.length:=by omega
    rw [List.take_length] at S
    have S2:=(((S.nil 304 BatV.cells 8).slsNil Event.cells 7).slsNil Event.cells 7).pick [0,1,2,5,4] rfl
    simp only [pick,nth] at S2
    have S3:=log_close (g:=newL c) (l:=[]) rfl S2
    clear S2
    go_wp2_with first | ((with_reducible apply wps_load S 3);(case hx|hi|hu=>rfl);(case hT=>decide +kernel))
    (try simp only [Exit.inBlock,Exit.then]);refine bodyPost_ret (results2 rfl (res_tmp rfl) (res_tmp rfl)) rfl ?_
    exact ⟨bx,rfl,S3⟩
theorem ltime_calls (X R : Nat) (g : LogE) (w : World) (F : Nat → Prop) (h : (logA X R g).at_ w F) : Calls Tryz.prog 18 #[.pointer (some ⟨X,0,none⟩)] w fun e w'=>e = .returned (.int .i64 g.time) ∧ Below w.heap.size w w':=by
 obtain ⟨v1,v2,l,hl,S⟩:=logR_st h
 clear h hl
 go_enter Tryz.func18,Tryz.ntmps18
 go_wp2_with first | ((with_reducible apply wps_load S 4);(case hx|hi|hu=>rfl);(case hT=>decide +kernel))
 go_ret
 exact ⟨rfl,S.below⟩
theorem llen_calls (X R : Nat) (g : LogE) (w : World) (F : Nat → Prop) (h : (logA X R g).at_ w F) : Calls Tryz.prog 19 #[.pointer (some ⟨X,0,none⟩)] w fun e w'=>e = .returned (.int .i64 (g.done.length : Int)) ∧ Below w.heap.size w w':=by
 obtain ⟨v1,v2,l,hl,S⟩:=logR_st h
 have hd : g.done.length = l.length:=by rw [← hl,List.length_map]
 rw [hd]
 obtain ⟨a2,c2,rfl,_⟩:=(S.sl 2 rfl).elim fun _ h=>h.form
 clear h hl hd
 go_enter Tryz.func19,Tryz.ntmps19
 go_wp2_with first | ((with_reducible apply wps_load S 4);(case hx|hi|hu=>rfl);(case hT=>decide +kernel))
 go_ret
 exact ⟨rfl,S.below⟩
end Go.Proofs.YtmjljoaakdocaaaGreatDoor
/- Plain: the events that are there at first, in order. No program in sight. -/
namespace Go.Proofs.YtmjljoaakdocaaaGreatDoor
open Go Go.RowKit Mem
open List (set_cons_succ set_cons_zero setIfInBounds_toArray cons_append nil_append)
def evsOf (c : Cfg) : List Event:=sortE (startsFrom 0 c.starts)
theorem evsOf_len (c : Cfg) : (evsOf c).length = c.starts.length:=by rw [evsOf,sortE_len,startsFrom_len]
theorem startsFrom_get (l : List Start) (i k : Nat) : (startsFrom i l)[k]? = (l[k]?).map (startEv (i + k)):=by
 induction l generalizing i k with
 | nil=>simp [startsFrom]
 | cons x l ih=>
   cases k with
   | zero=>simp [startsFrom]
   | succ k=>simp only [startsFrom,List.getElem?_cons_succ,ih];rw [show i + 1 + k = i + (k + 1) by omega]
structure CfgOk (c : Cfg) : Prop where
 sizes : sizesOk c
 starts : c.starts.length ≤ 256
 progs : ∀ p ∈ c.programs,codeE p = 0
 lps : ∀ p ∈ c.lps,0 ≤ p.program ∧ p.program < c.programs.length
 dst : ∀ s ∈ c.starts,0 ≤ s.dst ∧ s.dst < c.lps.length
 at_ : ∀ s ∈ c.starts,0 ≤ s.at_ ∧ s.at_ ≤ c.fin
theorem cfg_ok {c : Cfg} : cfgE c = 0 ↔ CfgOk c:=by
 unfold cfgE
 rw [firstE_zero]
 simp only [List.mem_cons,List.not_mem_nil,or_false,forall_eq_or_imp,forall_eq]
 constructor
 · rintro ⟨h1,h2,h3,h4,h5⟩
   unfold sizesE at h1;unfold startsE at h2;unfold programsE at h3;unfold endsE at h4;unfold timesE at h5
   split at h1
   · split at h2
     · cases h2
     · split at h4
       · split at h5
         · rename_i a1 a2 a3 a4
           exact ⟨a1,by omega,fun p hp=>firstE_zero.1 h3 _ (List.mem_map_of_mem hp),a3.1,a3.2,a4⟩
         · cases h5
       · cases h4
   · cases h1
 · rintro ⟨h1,h2,h3,h4,h5,h6⟩
   exact ⟨if_pos h1,if_neg (by omega),firstE_zero.2 (fun x hx=>by obtain ⟨p,hp,rfl⟩:=List.mem_map.1 hx;exact h3 p hp),if_pos ⟨h4,h5⟩,if_pos h6⟩
end Go.Proofs.YtmjljoaakdocaaaGreatDoor
/- The walk of the net's Send. -/
namespace Go.Proofs.YtmjljoaakdocaaaGreatDoor
open Go Go.RowKit Reg Mem
open List (set_cons_succ set_cons_zero setIfInBounds_toArray cons_append nil_append)
def NetE.sent (n : NetE) (a b : Int) (x : ItemE) : NetE:=⟨n.boxes,n.next + 1,n.way ++ [⟨n.next,a,b,x⟩]⟩
def SendRel (X : Nat) (n : NetE) (a b : Int) (v : Value) (x : ItemE) (F : Nat → Prop) (w : World) (i : Value) (wr : World) : Prop:=
 (i = .int .i64 0 ∧ ∃ vw,St F w wr [Blk false X #[.int .i64 n.boxes,.int .i64 n.next,vw] 147,Mem.Own 100 pkcell 14 vw n.way,Sl true itcell 11 v [x]]) ∨
 (i = .int .i64 1 ∧ ∃ vw,St F w wr [Blk false X #[.int .i64 n.boxes,.int .i64 (n.next + 1),vw] 147,Mem.Own 100 pkcell 14 vw (n.sent a b x).way,Sl true itcell 11 v [x]])
theorem netsend_calls (X : Nat) (n : NetE) (a b : Int) (v : Value) (x : ItemE) (w : World) (F : Nat → Prop) (S0 : St F w w [netA X n,Sl true itcell 11 v [x]]) (ha : boxB n.boxes a = true) (hb : boxB n.boxes b = true) (h0 : 0 ≤ n.next) (h1 : n.next < 4611686018427387904) (hw : n.way.length < 1000000) :
 Calls Tryz.prog 91 #[.pointer (some ⟨X,0,none⟩),.int .i64 a,.int .i64 b,v] w fun e w'=>e = .returned (.tuple #[.int .i64 n.next,.int .i64 0]) ∧ St F w w' [netA X (n.sent a b x)]:=by
 obtain ⟨vw,S⟩:=net_open S0
 clear S0
 obtain ⟨ad,c,rfl,_⟩:=(S.sl 2 rfl).elim fun _ h=>h.form
 obtain ⟨R,o,rfl⟩ : ∃ R o,ad = some ⟨R,o,none⟩:=(S.sl 2 rfl).elim fun F h=>h.head (by simp)
 have HB:=Lib.hid fun v' w F h=>netbox_calls X n v' a w F h
 have HB2:=Lib.hid fun v' w F h=>netbox_calls X n v' b w F h
 rw [ha] at HB
 rw [hb] at HB2
 have HX : Hid ([x][0]? = some x):=Lib.hid rfl
 have e1 : ([x] : List ItemE).length = 1:=rfl
 rw [e1] at S ⊢
 clear ha hb e1
 go_enter Tryz.func91,Tryz.ntmps91
 go_wp2_with first | ((with_reducible apply wps_load S 0);(case hx|hi|hu=>rfl);(case hT=>decide +kernel)) | (go_at_call 128;have hcz:=HB.out _ _ _ (S.get (i:=0) rfl).choose_spec;(with_reducible refine Calls.mono hcz ?_);clear hcz;rintro e wz ⟨rfl,hE⟩;replace S:=S.ext (Keep.of_below hE);clear hE) | (go_at_call 128;have hcz:=HB2.out _ _ _ (S.get (i:=0) rfl).choose_spec;(with_reducible refine Calls.mono hcz ?_);clear hcz;rintro e wz ⟨rfl,hE⟩;replace S:=S.ext (Keep.of_below hE);clear hE)
 go_loopw [31] (fun i wr=>SendRel X n a b (.slice (some ⟨R,o,none⟩) 1 c) x F w i wr) (fun i _=>1 - (intOf i).toNat)
 case atStart=>exact .inl ⟨rfl,vw,S⟩
 case round=>
  clear S
  obtain (⟨rfl,vw2,S⟩ | ⟨rfl,vw2,S⟩):=hrel
  · skip
    go_upto_region 9 with first | ((with_reducible apply wps_loada_el S 2 (hj:=HX.out) (q:=0) (vs:=[.int .i64 x.kind,.int .i64 x.m.ev.key.at_,.int .i64 x.m.ev.key.src,.int .i64 x.m.ev.key.sent,.int .i64 x.m.ev.key.no,.int .i64 x.m.ev.dst,.int .i64 x.m.ev.kind,.int .i64 x.m.ev.data,.bool x.m.anti,.int .i64 x.no,.int .i64 x.at_]) (m:=11));(case hx|hi=>rfl);(case hn=>omega);(case hm|hv=>rfl);(case hT=>decide +kernel)) | ((with_reducible apply wps_alloca (E:=86) S);(case hz=>exact Tryz.zeroValue86);clear S;intro b12 wz S) | ((with_reducible apply wps_storea (T:=86) S 0 (vs:=[.int .i64 x.kind,.int .i64 x.m.ev.key.at_,.int .i64 x.m.ev.key.src,.int .i64 x.m.ev.key.sent,.int .i64 x.m.ev.key.no,.int .i64 x.m.ev.dst,.int .i64 x.m.ev.kind,.int .i64 x.m.ev.data,.bool x.m.anti,.int .i64 x.no,.int .i64 x.at_]) (m:=11));(case hx|hy|hi|hm|h1=>rfl);(case hn=>exact nle rfl);(case hT=>decide +kernel);clear S;intro wz S;simp only [set_cons_zero,set_cons_succ,setAll,setIfInBounds_toArray] at S)
    obtain ⟨aw,cw,rfl,_⟩:=(S.ownsl pkcells 2 rfl).elim fun _ h=>h.form
    replace S:=S.pick [0,3,1,2] rfl
    simp only [pick,nth] at S
    (refine wp_region_wt (soft:=[0,1,2,3,5,6,7,9,10,11]) (L:=[_,_]) (T:=[_,_]) S ?hm ?hB ?_);(case hm=>kernel_rfl);(case hB=>decide +kernel);clear S
    iterate 10
     (with_reducible apply softs_cons)
     (case hw=>
       (with_reducible apply soft_of);(case hi=>rfl)
       intro T wz S
       simp only [cons_append,nil_append] at S
       go_wp2_with first | ((with_reducible apply wps_loada (T:=86) (k:=11) S 0);(case hx|hi=>rfl);(case hk=>exact nle rfl);(case hT=>decide +kernel)) | ((with_reducible refine tot_done ?ht ?_);(case ht=>kernel_rfl))
       exact ⟨rfl,S⟩)
     (case hs=>exact ⟨_,rfl,by kernel_rfl⟩)
    refine softs_nil ?_
    (with_reducible apply W_hard2 (i:=4) (i':=8));(case hn=>rfl);(case hr=>decide +kernel)
    focus
     intro wz S
     (with_reducible apply hard_of);(case hi=>rfl)
     simp only [cons_append,nil_append] at S
     go_wp2_with first | ((with_reducible apply wps_load S 2);(case hx|hi|hu=>rfl);(case hT=>decide +kernel)) | ((with_reducible refine tot_done ?ht ?_);(case ht=>kernel_rfl))
     refine ⟨_,S,?_⟩
     clear S
     (with_reducible apply W_hard1 (i:=8));(case hn=>rfl);(case hr=>decide +kernel)
     intro wz S
     (with_reducible apply hard_of);(case hi=>rfl)
     simp only [cons_append,nil_append] at S
     go_wp2_with first | ((with_reducible apply wps_load S 2);(case hx|hi|hu=>rfl);(case hT=>decide +kernel)) | ((with_reducible refine tot_done ?ht ?_);(case ht=>kernel_rfl))
     refine ⟨_,S,?_⟩
     clear S
     (refine W_mid (f:=5) (soft:=[12]) rfl ?hB ?_);(case hB=>decide +kernel)
     iterate 1
      (with_reducible apply softs_cons)
      (case hw=>
        (with_reducible apply soft_of);(case hi=>rfl)
        intro T wz S
        simp only [cons_append,nil_append] at S
        go_wp2_with first | ((with_reducible refine tot_done ?ht ?_);(case ht=>kernel_rfl))
        exact ⟨rfl,S⟩)
      (case hs=>exact ⟨_,rfl,by kernel_rfl⟩)
     refine softs_nil ?_
     (with_reducible apply W_hard1 (i:=13));(case hn=>rfl);(case hr=>decide +kernel)
     intro wz S
     (with_reducible apply hard_of);(case hi=>rfl)
     simp only [cons_append,nil_append] at S
     go_wp2_with first | ((with_reducible apply wps_buildSlice (T:=145) (E:=100) (cs:=#[.int .i64 n.next,.int .i64 a,.int .i64 b,.int .i64 x.kind,.int .i64 x.m.ev.key.at_,.int .i64 x.m.ev.key.src,.int .i64 x.m.ev.key.sent,.int .i64 x.m.ev.key.no,.int .i64 x.m.ev.dst,.int .i64 x.m.ev.kind,.int .i64 x.m.ev.data,.bool x.m.anti,.int .i64 x.no,.int .i64 x.at_]) S);(case hr=>intro w;kernel_rfl);clear S;intro bz wz S) | ((with_reducible refine tot_done ?ht ?_);(case ht=>kernel_rfl))
     refine ⟨_,S.pick [1,2,3,4,0] rfl,?_⟩
     clear S
     (with_reducible apply W_hard1 (i:=14));(case hn=>rfl);(case hr=>decide +kernel)
     intro wz S
     (with_reducible apply hard_of);(case hi=>rfl)
     simp only [cons_append,nil_append] at S
     go_wp2_with first | ((with_reducible apply wps_append1 elem_Pk pkcells pkone (by decide) S 3 (j:=4) (e:=(⟨n.next,a,b,x⟩ : PkE)));(case hx|hy|hi|hj|he=>rfl);(case hl=>first | omega | (simp;omega));clear S;intro az nz cz wz hnz S;simp only [set_cons_succ,set_cons_zero] at S) | ((with_reducible refine tot_done ?ht ?_);(case ht=>kernel_rfl))
     refine ⟨_,S,?_⟩
     clear S
     (refine W_mid (f:=1) (soft:=[15,16]) rfl ?hB ?_);(case hB=>decide +kernel)
     iterate 2
      (with_reducible apply softs_cons)
      (case hw=>
        (with_reducible apply soft_of);(case hi=>rfl)
        intro T wz S
        simp only [cons_append,nil_append] at S
        go_wp2_with first | ((with_reducible refine tot_done ?ht ?_);(case ht=>kernel_rfl))
        exact ⟨rfl,S⟩)
      (case hs=>exact ⟨_,rfl,by kernel_rfl⟩)
     refine softs_nil ?_
     (with_reducible apply W_hard1 (i:=17));(case hn=>rfl);(case hr=>decide +kernel)
     intro wz S
     (with_reducible apply hard_of);(case hi=>rfl)
     simp only [cons_append,nil_append] at S
     go_wp2_with first | ((with_reducible apply wps_store (u:=(.slice az nz cz)) S 2);(case hx|hy|hi|h1=>rfl);(case hn=>exact nle rfl);(case hT=>decide +kernel);clear S;intro wz S;simp only [set_cons_succ,set_cons_zero,setIfInBounds_toArray] at S) | ((with_reducible refine tot_done ?ht ?_);(case ht=>kernel_rfl))
     refine ⟨_,S,?_⟩
     clear S
     (with_reducible apply W_done);(case hn=>rfl);(case hr=>decide +kernel)
     intro wz S
     repeat (first | simp only at S | simp only [pick] at S | simp only [nth] at S | simp only [set_cons_succ] at S | simp only [set_cons_zero] at S | simp only [setIfInBounds_toArray] at S | simp only [setAll] at S | simp only [cons_append] at S | simp only [nil_append] at S | simp only [List.append_nil] at S)
    rotate_left 1
    focus
     intro wz S
     (with_reducible apply hard_of);(case hi=>rfl)
     simp only [cons_append,nil_append] at S
     go_wp2_with first | ((with_reducible apply wps_load S 2);(case hx|hi|hu=>rfl);(case hT=>decide +kernel)) | ((with_reducible refine tot_done ?ht ?_);(case ht=>kernel_rfl))
     refine ⟨_,S,?_⟩
     clear S
     (refine W_mid (f:=6) (soft:=[12]) rfl ?hB ?_);(case hB=>decide +kernel)
     iterate 1
      (with_reducible apply softs_cons)
      (case hw=>
        (with_reducible apply soft_of);(case hi=>rfl)
        intro T wz S
        simp only [cons_append,nil_append] at S
        go_wp2_with first | ((with_reducible refine tot_done ?ht ?_);(case ht=>kernel_rfl))
        exact ⟨rfl,S⟩)
      (case hs=>exact ⟨_,rfl,by kernel_rfl⟩)
     refine softs_nil ?_
     (with_reducible apply W_hard2 (i:=4) (i':=13));(case hn=>rfl);(case hr=>decide +kernel)
     focus
      intro wz S
      (with_reducible apply hard_of);(case hi=>rfl)
      simp only [cons_append,nil_append] at S
      go_wp2_with first | ((with_reducible apply wps_load S 2);(case hx|hi|hu=>rfl);(case hT=>decide +kernel)) | ((with_reducible refine tot_done ?ht ?_);(case ht=>kernel_rfl))
      refine ⟨_,S,?_⟩
      clear S
      (with_reducible apply W_hard1 (i:=13));(case hn=>rfl);(case hr=>decide +kernel)
      intro wz S
      (with_reducible apply hard_of);(case hi=>rfl)
      simp only [cons_append,nil_append] at S
      go_wp2_with first | ((with_reducible apply wps_buildSlice (T:=145) (E:=100) (cs:=#[.int .i64 n.next,.int .i64 a,.int .i64 b,.int .i64 x.kind,.int .i64 x.m.ev.key.at_,.int .i64 x.m.ev.key.src,.int .i64 x.m.ev.key.sent,.int .i64 x.m.ev.key.no,.int .i64 x.m.ev.dst,.int .i64 x.m.ev.kind,.int .i64 x.m.ev.data,.bool x.m.anti,.int .i64 x.no,.int .i64 x.at_]) S);(case hr=>intro w;kernel_rfl);clear S;intro bz wz S) | ((with_reducible refine tot_done ?ht ?_);(case ht=>kernel_rfl))
      refine ⟨_,S.pick [1,2,3,4,0] rfl,?_⟩
      clear S
      (with_reducible apply W_hard1 (i:=14));(case hn=>rfl);(case hr=>decide +kernel)
      intro wz S
      (with_reducible apply hard_of);(case hi=>rfl)
      simp only [cons_append,nil_append] at S
      go_wp2_with first | ((with_reducible apply wps_append1 elem_Pk pkcells pkone (by decide) S 3 (j:=4) (e:=(⟨n.next,a,b,x⟩ : PkE)));(case hx|hy|hi|hj|he=>rfl);(case hl=>first | omega | (simp;omega));clear S;intro az nz cz wz hnz S;simp only [set_cons_succ,set_cons_zero] at S) | ((with_reducible refine tot_done ?ht ?_);(case ht=>kernel_rfl))
      refine ⟨_,S,?_⟩
      clear S
      (refine W_mid (f:=1) (soft:=[15,16]) rfl ?hB ?_);(case hB=>decide +kernel)
      iterate 2
       (with_reducible apply softs_cons)
       (case hw=>
         (with_reducible apply soft_of);(case hi=>rfl)
         intro T wz S
         simp only [cons_append,nil_append] at S
         go_wp2_with first | ((with_reducible refine tot_done ?ht ?_);(case ht=>kernel_rfl))
         exact ⟨rfl,S⟩)
       (case hs=>exact ⟨_,rfl,by kernel_rfl⟩)
      refine softs_nil ?_
      (with_reducible apply W_hard1 (i:=17));(case hn=>rfl);(case hr=>decide +kernel)
      intro wz S
      (with_reducible apply hard_of);(case hi=>rfl)
      simp only [cons_append,nil_append] at S
      go_wp2_with first | ((with_reducible apply wps_store (u:=(.slice az nz cz)) S 2);(case hx|hy|hi|h1=>rfl);(case hn=>exact nle rfl);(case hT=>decide +kernel);clear S;intro wz S;simp only [set_cons_succ,set_cons_zero,setIfInBounds_toArray] at S) | ((with_reducible refine tot_done ?ht ?_);(case ht=>kernel_rfl))
      refine ⟨_,S,?_⟩
      clear S
      (with_reducible apply W_done);(case hn=>rfl);(case hr=>decide +kernel)
      intro wz S
      repeat (first | simp only at S | simp only [pick] at S | simp only [nth] at S | simp only [set_cons_succ] at S | simp only [set_cons_zero] at S | simp only [setIfInBounds_toArray] at S | simp only [setAll] at S | simp only [cons_append] at S | simp only [nil_append] at S | simp only [List.append_nil] at S)
     rotate_left 1
     focus
      intro wz S
      (with_reducible apply hard_of);(case hi=>rfl)
      simp only [cons_append,nil_append] at S
      go_wp2_with first | ((with_reducible apply wps_buildSlice (T:=145) (E:=100) (cs:=#[.int .i64 n.next,.int .i64 a,.int .i64 b,.int .i64 x.kind,.int .i64 x.m.ev.key.at_,.int .i64 x.m.ev.key.src,.int .i64 x.m.ev.key.sent,.int .i64 x.m.ev.key.no,.int .i64 x.m.ev.dst,.int .i64 x.m.ev.kind,.int .i64 x.m.ev.data,.bool x.m.anti,.int .i64 x.no,.int .i64 x.at_]) S);(case hr=>intro w;kernel_rfl);clear S;intro bz wz S) | ((with_reducible refine tot_done ?ht ?_);(case ht=>kernel_rfl))
      refine ⟨_,S.pick [1,2,3,4,0] rfl,?_⟩
      clear S
      (with_reducible apply W_hard1 (i:=4));(case hn=>rfl);(case hr=>decide +kernel)
      intro wz S
      (with_reducible apply hard_of);(case hi=>rfl)
      simp only [cons_append,nil_append] at S
      go_wp2_with first | ((with_reducible apply wps_load S 2);(case hx|hi|hu=>rfl);(case hT=>decide +kernel)) | ((with_reducible refine tot_done ?ht ?_);(case ht=>kernel_rfl))
      refine ⟨_,S,?_⟩
      clear S
      (with_reducible apply W_hard1 (i:=14));(case hn=>rfl);(case hr=>decide +kernel)
      intro wz S
      (with_reducible apply hard_of);(case hi=>rfl)
      simp only [cons_append,nil_append] at S
      go_wp2_with first | ((with_reducible apply wps_append1 elem_Pk pkcells pkone (by decide) S 3 (j:=4) (e:=(⟨n.next,a,b,x⟩ : PkE)));(case hx|hy|hi|hj|he=>rfl);(case hl=>first | omega | (simp;omega));clear S;intro az nz cz wz hnz S;simp only [set_cons_succ,set_cons_zero] at S) | ((with_reducible refine tot_done ?ht ?_);(case ht=>kernel_rfl))
      refine ⟨_,S,?_⟩
      clear S
      (refine W_mid (f:=1) (soft:=[15,16]) rfl ?hB ?_);(case hB=>decide +kernel)
      iterate 2
       (with_reducible apply softs_cons)
       (case hw=>
         (with_reducible apply soft_of);(case hi=>rfl)
         intro T wz S
         simp only [cons_append,nil_append] at S
         go_wp2_with first | ((with_reducible refine tot_done ?ht ?_);(case ht=>kernel_rfl))
         exact ⟨rfl,S⟩)
       (case hs=>exact ⟨_,rfl,by kernel_rfl⟩)
      refine softs_nil ?_
      (with_reducible apply W_hard1 (i:=17));(case hn=>rfl);(case hr=>decide +kernel)
      intro wz S
      (with_reducible apply hard_of);(case hi=>rfl)
      simp only [cons_append,nil_append] at S
      go_wp2_with first | ((with_reducible apply wps_store (u:=(.slice az nz cz)) S 2);(case hx|hy|hi|h1=>rfl);(case hn=>exact nle rfl);(case hT=>decide +kernel);clear S;intro wz S;simp only [set_cons_succ,set_cons_zero,setIfInBounds_toArray] at S) | ((with_reducible refine tot_done ?ht ?_);(case ht=>kernel_rfl))
      refine ⟨_,S,?_⟩
      clear S
      (with_reducible apply W_done);(case hn=>rfl);(case hr=>decide +kernel)
      intro wz S
      repeat (first | simp only at S | simp only [pick] at S | simp only [nth] at S | simp only [set_cons_succ] at S | simp only [set_cons_zero] at S | simp only [setIfInBounds_toArray] at S | simp only [setAll] at S | simp only [cons_append] at S | simp only [nil_append] at S | simp only [List.append_nil] at S)
    all_goals
     go_wp2_with first | ((with_reducible apply wps_load S 2);(case hx|hi|hu=>rfl);(case hT=>decide +kernel)) | ((with_reducible apply wps_store (u:=(.int .i64 (n.next + 1))) S 2);(case hx|hy|hi|h1=>rfl);(case hn=>exact nle rfl);(case hT=>decide +kernel);clear S;intro wz S;simp only [set_cons_succ,set_cons_zero,setIfInBounds_toArray] at S)
     replace S:=S.pick [2,3,1] rfl
     simp only [pick,nth] at S
     go_roundw
     case rel=>exact .inr ⟨by go_num,_,S⟩
     case measure=>first | (simp [intOf];done) | (simp [intOf];omega)
  · skip
    go_wp2_with first | ((with_reducible apply wps_loada (T:=86) (k:=11) S 0);(case hx|hi=>rfl);(case hk=>exact nle rfl);(case hT=>decide +kernel))
    (try simp only [Exit.inBlock,Exit.then]);refine bodyPost_ret (results2 rfl (res_tmp rfl) (res_tmp rfl)) rfl ?_
    exact ⟨rfl,net_close (n:=n.sent a b x) (S.pick [0,1] rfl)⟩
end Go.Proofs.YtmjljoaakdocaaaGreatDoor
/- The walk of slices.CompactFunc of events, by their keys. -/
namespace Go.Proofs.YtmjljoaakdocaaaGreatDoor
open Go Go.RowKit Reg Mem
open List (set_cons_succ set_cons_zero setIfInBounds_toArray cons_append nil_append)
theorem zero_EvF : zeroIs Tryz.prog 58 7 (Event.cells ⟨⟨0,0,0,0⟩,0,0,0⟩):=⟨_,.agg #[.int .i64 0,.int .i64 0,.int .i64 0,.int .i64 0,.int .i64 0,.int .i64 0,.int .i64 0],rfl,by kernel_rfl,by kernel_rfl,rfl,by decide⟩
theorem sizeEvF (w : World) : (sizeOf 58).run Tryz.prog w = .ok 7 w:=by kernel_rfl
def lastKey : Option Key → List Event → Option Key
 | k,[]=>k
 | _,y :: l=>lastKey (some y.key) l
def CompRel (R c : Nat) (l : List Event) (F : Nat → Prop) (w : World) (i : Value) (wr : World) : Prop:=
 ∃ k : Nat,k < l.length ∧ i = .int .i64 ((k : Int) + 1) ∧ Hid (once (l.take (k + 1)) = l.take (k + 1)) ∧ St F w wr [Own 58 Event.cells 7 (.slice (some ⟨R,0,none⟩) l.length c) l]
def CompRel2 (R c : Nat) (l : List Event) (k : Nat) (F : Nat → Prop) (w : World) (i i2 : Value) (wr : World) : Prop:=
 ∃ (kk k2 : Nat) (m : List Event),i = .int .i64 ((kk : Int) + 1) ∧ i2 = .int .i64 ((k2 : Int) + 1) ∧ k + k2 + 2 ≤ l.length ∧ kk ≤ k + k2 ∧ Hid (m.take (kk + 1) = once (l.take (k + k2 + 2))) ∧ Hid (∀ j : Nat,kk + 1 ≤ j → m[j]? = l[j]?) ∧ m.length = l.length ∧
  St F w wr [Own 58 Event.cells 7 (.slice (some ⟨R,0,none⟩) l.length c) m]
def CpPost (l : List Event) (F : Nat → Prop) (w : World) (e : Ending) (w' : World) : Prop:=
 ∃ ad c,e = .returned (.slice ad (once l).length c) ∧ St F w w' [Own 58 Event.cells 7 (.slice ad (once l).length c) (once l)]
end Go.Proofs.YtmjljoaakdocaaaGreatDoor
namespace Go.Proofs.YtmjljoaakdocaaaGreatDoor
open Go Go.Shelf
open List (set_cons_succ set_cons_zero setIfInBounds_toArray cons_append nil_append)
set_option maxRecDepth 100000
def sortEvs_ren : Go.Shelf.Ren:=⟨fun | 6=>177 | 14=>216 | 15=>186 | 20=>153 | 21=>260 | 22=>261 | 23=>262 | 24=>263 | 25=>264 | 26=>265 | 27=>266 | 28=>230 | 29=>231 | 46=>290 | 47=>274 | 48=>275 | 49=>291 | 50=>292 | 57=>307 | n=>n,fun | 0=>0 | 1=>1 | 2=>2 | 3=>3 | 4=>4 | 5=>5 | 6=>6 | 7=>7 | 8=>8 | 9=>9 | 10=>10 | 11=>11 | 12=>12 | 13=>13 | 14=>14 | 15=>15 | 16=>16 | 17=>17 | 18=>18 | 19=>19 | 20=>20 | 21=>21 | 22=>53 | 23=>171 | 24=>58 | 25=>173 | 26=>428 | 27=>92 | 29=>136 | 30=>273 | 37=>283 | 38=>309 | 39=>310 | 40=>254 | 42=>148 | 44=>282 | 45=>341 | 46=>342 | 47=>375 | 48=>376 | 49=>377 | 50=>71 | 51=>378 | 52=>347 | 53=>348 | 54=>349 | 55=>350 | 66=>387 | 67=>388 | 68=>389 | 69=>409 | 70=>391 | 71=>410 | 76=>420 | 77=>219 | 78=>430 | 81=>451 | 82=>452 | 83=>453 | 84=>454 | 85=>455 | 86=>456 | 87=>33 | 88=>457 | 89=>458 | 90=>459 | 91=>435 | 92=>460 | 93=>461 | 94=>462 | 95=>463 | 96=>466 | n=>n,fun n=>n⟩
theorem sortEvs : SlLaysF0.n6 Tryz.prog sortEvs_ren:={
 mixed:=by kernel_rfl,
 f6:=⟨Tryz.f177.name,by decide,Tryz.func177.trans (congrArg some (by kernel_rfl))⟩,
 f14:=⟨Tryz.f216.name,by decide,Tryz.func216.trans (congrArg some (by kernel_rfl))⟩,
 f15:=Tryz.func186.trans (congrArg some (by kernel_rfl)),
 f20:=⟨Tryz.f153.name,by decide,Tryz.func153.trans (congrArg some (by kernel_rfl))⟩,
 f21:=⟨Tryz.f260.name,by decide,Tryz.func260.trans (congrArg some (by kernel_rfl))⟩,
 f22:=⟨Tryz.f261.name,by decide,Tryz.func261.trans (congrArg some (by kernel_rfl))⟩,
 f23:=⟨Tryz.f262.name,by decide,Tryz.func262.trans (congrArg some (by kernel_rfl))⟩,
 f24:=⟨Tryz.f263.name,by decide,Tryz.func263.trans (congrArg some (by kernel_rfl))⟩,
 f25:=⟨Tryz.f264.name,by decide,Tryz.func264.trans (congrArg some (by kernel_rfl))⟩,
 f26:=⟨Tryz.f265.name,by decide,Tryz.func265.trans (congrArg some (by kernel_rfl))⟩,
 f27:=⟨Tryz.f266.name,by decide,Tryz.func266.trans (congrArg some (by kernel_rfl))⟩,
 f28:=Tryz.func230.trans (congrArg some (by kernel_rfl)),
 f29:=Tryz.func231.trans (congrArg some (by kernel_rfl)),
 f46:=⟨Tryz.f290.name,by decide,Tryz.func290.trans (congrArg some (by kernel_rfl))⟩,
 f47:=Tryz.func274.trans (congrArg some (by kernel_rfl)),
 f48:=Tryz.func275.trans (congrArg some (by kernel_rfl)),
 f49:=⟨Tryz.f291.name,by decide,Tryz.func291.trans (congrArg some (by kernel_rfl))⟩,
 f50:=⟨Tryz.f292.name,by decide,Tryz.func292.trans (congrArg some (by kernel_rfl))⟩,
 f57:=⟨Tryz.f307.name,by decide,Tryz.func307.trans (congrArg some (by kernel_rfl))⟩,
 t0:=Tryz.underlying0,
 a0:=Tryz.isAgg0,
 z0:=Tryz.sizeOf0,
 v0:=Tryz.zeroValue0,
 t3:=Tryz.underlying3,
 a3:=Tryz.isAgg3,
 z3:=Tryz.sizeOf3,
 v3:=Tryz.zeroValue3,
 t4:=Tryz.underlying4,
 a4:=Tryz.isAgg4,
 z4:=Tryz.sizeOf4,
 v4:=Tryz.zeroValue4,
 t5:=Tryz.underlying5,
 a5:=Tryz.isAgg5,
 z5:=Tryz.sizeOf5,
 v5:=Tryz.zeroValue5,
 t9:=Tryz.underlying9,
 a9:=Tryz.isAgg9,
 z9:=Tryz.sizeOf9,
 v9:=Tryz.zeroValue9,
 t22:=Tryz.underlying53,
 a22:=Tryz.isAgg53,
 z22:=Tryz.sizeOf53,
 v22:=Tryz.zeroValue53,
 t25:=Tryz.underlying173,
 a25:=Tryz.isAgg173,
 z25:=Tryz.sizeOf173,
 v25:=Tryz.zeroValue173,
 t39:=Tryz.underlying310,
 a39:=Tryz.isAgg310,
 z39:=Tryz.sizeOf310,
 v39:=Tryz.zeroValue310,
 t45:=Tryz.underlying341,
 a45:=Tryz.isAgg341,
 z45:=Tryz.sizeOf341,
 v45:=Tryz.zeroValue341,
 t46:=Tryz.underlying342,
 a46:=Tryz.isAgg342,
 z46:=Tryz.sizeOf342,
 v46:=Tryz.zeroValue342,
 t50:=Tryz.underlying71,
 a50:=Tryz.isAgg71,
 z50:=Tryz.sizeOf71,
 v50:=Tryz.zeroValue71,
 t53:=Tryz.underlying348,
 a53:=Tryz.isAgg348,
 z53:=Tryz.sizeOf348,
 v53:=Tryz.zeroValue348,
 t55:=Tryz.underlying350,
 a55:=Tryz.isAgg350,
 z55:=Tryz.sizeOf350,
 v55:=Tryz.zeroValue350,
 t66:=Tryz.underlying387,
 a66:=Tryz.isAgg387,
 z66:=Tryz.sizeOf387,
 v66:=Tryz.zeroValue387,
 t70:=Tryz.underlying391,
 a70:=Tryz.isAgg391,
 z70:=Tryz.sizeOf391,
 v70:=Tryz.zeroValue391,
 t76:=Tryz.underlying420,
 a76:=Tryz.isAgg420,
 z76:=Tryz.sizeOf420,
 v76:=Tryz.zeroValue420,
 t77:=Tryz.underlying219,
 a77:=Tryz.isAgg219,
 z77:=Tryz.sizeOf219,
 v77:=Tryz.zeroValue219 }
end Go.Proofs.YtmjljoaakdocaaaGreatDoor
/- slices.SortFunc of events by inq.Compare; the walk of a model's rules. -/
namespace Go.Proofs.YtmjljoaakdocaaaGreatDoor
open Go Go.RowKit Reg Mem Go.Shelf Go.Sort
open List (set_cons_succ set_cons_zero setIfInBounds_toArray cons_append nil_append)
theorem sortev_calls {G : Nat → Prop} {w0 w : World} {L : List Asn} (i : Nat) {v : Value} {l : List Event} (S : St G w0 w L) (hi : L[i]? = some (Own 58 Event.cells 7 v l)) (hn : l.length ≤ 65536) :
 Calls Tryz.prog 177 #[v,.func (.func 178) #[] #[]] w fun e w'=>e = .returned (.tuple #[]) ∧ St G w0 w' (L.set i (Own 58 Event.cells 7 v (sortT l))):=by
 obtain ⟨ad,c,rfl,_⟩:=(S.ownsl ecells i hi).elim fun _ h=>h.form
 by_cases h0 : l.length = 0
 · obtain rfl : l = []:=List.eq_nil_of_length_eq_zero h0
   refine Calls.mono (AnyF.slices_SortFunc_none (P:=Tryz.prog) (ρ:=sortEvs_ren) { sortEvs with } _ _ _ _) ?_
   rintro e wz ⟨rfl,rfl⟩
   refine ⟨rfl,?_⟩
   have e : L.set i (Own 58 Event.cells 7 (.slice ad ([] : List Event).length c) (sortT [])) = L:=by
    obtain ⟨h1,h2⟩:=List.getElem?_eq_some_iff.1 hi
    rw [show sortT [] = [] from rfl,← h2,List.set_getElem_self]
   rw [e]
   exact S
 · obtain ⟨R,c',e⟩:=own_hd i S hi (by omega)
   simp only [Value.slice.injEq] at e
   obtain ⟨rfl,_,rfl⟩:=e
   refine Calls.mono (sortK (P:=Tryz.prog) (ρ:=sortEvs_ren) (i:=i) (enc:=Event.cells) (k:=7) sortEvs (fun w=>by kernel_rfl) sizeEvF ecells eone Event.tcmp swo_ev 178 #[] (fun _ _=>rfl) S hi (by omega) (fun W _ x y=>icmpare_grew x y W)) ?_
   rintro e wz ⟨rfl,ys,hp2,hs2,S2⟩
   rw [sorted_ev hp2 hs2] at S2
   exact ⟨rfl,S2⟩
def RRunPost (s2 : State) (out : List Event) (w : World) (e : Ending) (w' : World) : Prop:=
 ∃ ad cp,e = .returned (.tuple #[.agg #[.int .i64 s2.n0,.int .i64 s2.n1,.int .i64 s2.n2,.int .i64 s2.n3],.slice ad out.length cp]) ∧ St (fun _=>False) w w' [Own 58 Event.cells 7 (.slice ad out.length cp) out]
end Go.Proofs.YtmjljoaakdocaaaGreatDoor
