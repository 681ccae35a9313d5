import Derived.Test.YtmjljoaakdocaaaGreatDoorY15
/- The walk of slices.SortStableFunc's insertion sort, and of the comparator. -/
set_option maxHeartbeats 16000000
set_option maxRecDepth 100000
namespace Go.Proofs.YtmjljoaakdocaaaGreatDoor
open Go Go.RowKit Reg Mem
open List (set_cons_succ set_cons_zero setIfInBounds_toArray cons_append nil_append)
theorem cmpEv_calls (a b : Event) (w : World) : Calls Tryz.prog 72 #[.agg #[.int .i64 a.key.at_,.int .i64 a.key.src,.int .i64 a.key.sent,.int .i64 a.key.no,.int .i64 a.dst,.int .i64 a.kind,.int .i64 a.data],.agg #[.int .i64 b.key.at_,.int .i64 b.key.src,.int .i64 b.key.sent,.int .i64 b.key.no,.int .i64 b.dst,.int .i64 b.kind,.int .i64 b.data]] w fun e w'=>e = .returned (.int .i64 (a.key.cmp b.key)) ∧ Below w.heap.size w w':=by
 have S:=St.init (fun _=>False) w
 go_enter Tryz.func72,Tryz.ntmps72
 go_wp2_with first | (go_at_call 73;refine Calls.mono (compare_calls _ _ _ _ _ _ _ _ _) ?_;rintro e wz ⟨rfl,hE⟩;replace S:=S.ext (Keep.of_below hE);clear hE) | ((with_reducible apply wps_boxa S);(case hx=>rfl);clear S;intro bz wz S) | ((with_reducible apply wps_loada (T:=56) (k:=4) S 0);(case hx|hi=>rfl);(case hk=>exact nle rfl);(case hT=>decide +kernel)) | ((with_reducible apply wps_loada (T:=56) (k:=4) S 1);(case hx|hi=>rfl);(case hk=>exact nle rfl);(case hT=>decide +kernel))
 go_ret
 exact ⟨rfl,S.below⟩
theorem cmpEv_yes {x y : TE} (h : tless x y = true) (w : World) : Calls Tryz.prog 72 #[.agg #[.int .i64 x.1.key.at_,.int .i64 x.1.key.src,.int .i64 x.1.key.sent,.int .i64 x.1.key.no,.int .i64 x.1.dst,.int .i64 x.1.kind,.int .i64 x.1.data],.agg #[.int .i64 y.1.key.at_,.int .i64 y.1.key.src,.int .i64 y.1.key.sent,.int .i64 y.1.key.no,.int .i64 y.1.dst,.int .i64 y.1.kind,.int .i64 y.1.data]] w fun e w'=>e = .returned (.int .i64 (-1)) ∧ Below w.heap.size w w':=
 (cmpEv_calls x.1 y.1 w).mono fun e w' ⟨he,hb⟩=>⟨by rw [he];unfold Key.cmp;rw [if_pos (show x.1.key.lt y.1.key = true from h)],hb⟩
theorem cmpEv_no {x y : TE} (h : tless x y = false) (w : World) : Calls Tryz.prog 72 #[.agg #[.int .i64 x.1.key.at_,.int .i64 x.1.key.src,.int .i64 x.1.key.sent,.int .i64 x.1.key.no,.int .i64 x.1.dst,.int .i64 x.1.kind,.int .i64 x.1.data],.agg #[.int .i64 y.1.key.at_,.int .i64 y.1.key.src,.int .i64 y.1.key.sent,.int .i64 y.1.key.no,.int .i64 y.1.dst,.int .i64 y.1.kind,.int .i64 y.1.data]] w fun e w'=>(∃ c : Int,0 ≤ c ∧ e = .returned (.int .i64 c)) ∧ Below w.heap.size w w':=
 (cmpEv_calls x.1 y.1 w).mono fun e w' ⟨he,hb⟩=>⟨⟨x.1.key.cmp y.1.key,by unfold Key.cmp;rw [if_neg (show ¬ x.1.key.lt y.1.key = true by rw [show x.1.key.lt y.1.key = false from h];simp)];split <;> omega,he⟩,hb⟩
def From (n : Nat) (l : List TE) : Prop:=∀ x ∈ l,n ≤ x.2
def InsRel (F : Nat → Prop) (R c N a : Nat) (p l q : List TE) (w : World) (iv : Value) (wr : World) : Prop:=
 ∃ (i k : Nat) (s : List TE),1 ≤ k ∧ (k ≤ l.length ∨ k = 1) ∧ iv = .int .i64 i ∧ i = a + k ∧ s.Perm (l.take k) ∧ Srt s ∧ St F w wr [Own 58 tcells 7 (.slice (some ⟨R,0,none⟩) N c) (p ++ s ++ l.drop k ++ q)]
def InsRel2 (F : Nat → Prop) (R c N a : Nat) (p s q : List TE) (x : TE) (w : World) (jv : Value) (wr : World) : Prop:=
 ∃ (i k : Nat),k ≤ s.length ∧ jv = .int .i64 i ∧ i = a + k ∧ (∀ y ∈ s.drop k,tless x y = true) ∧ St F w wr [Own 58 tcells 7 (.slice (some ⟨R,0,none⟩) N c) (p ++ s.take k ++ x :: s.drop k ++ q)]
theorem ins_srt {s : List TE} {x : TE} {k : Nat} (hs : Srt s) (ht : ∀ y ∈ s,y.2 < x.2) (h1 : ∀ y ∈ s.drop k,tless x y = true) (h2 : k = 0 ∨ ∃ y,s[k - 1]? = some y ∧ tless x y = false) : Srt (s.take k ++ x :: s.drop k):=by
 have y1 : ∀ z ∈ s.take k,slt z x:=fun z hz=>by
  obtain ⟨j,hj,rfl⟩:=List.mem_take_iff_getElem.1 hz
  refine slt_no ?_ (ht _ (List.getElem_mem _))
  rcases h2 with h2 | ⟨y,hy,hxy⟩
  · omega
  · cases hz2 : tless x s[j] with
    | false=>rfl
    | true=>
      rw [tless_run' hs (i:=j) (j:=k - 1) (by omega) (List.getElem?_eq_getElem (by omega)) hy hz2] at hxy;cases hxy
 refine List.pairwise_append.2 ⟨hs.sublist (List.take_sublist _ _),List.pairwise_cons.2 ⟨fun y hy=>slt_yes (h1 y hy),hs.sublist (List.drop_sublist _ _)⟩,fun u hu v hv=>?_⟩
 rcases List.mem_cons.1 hv with rfl | hv
 · exact y1 u hu
 · exact slt_trans (y1 u hu) (slt_yes (h1 v hv))
theorem insS_perm {s l : List TE} {x : TE} {k j : Nat} (hs : s.Perm (l.take k)) (hx : l[k]? = some x) : (s.take j ++ x :: s.drop j).Perm (l.take (k + 1)):=by
 rw [List.take_add_one,hx]
 have e : (s.take j ++ x :: s.drop j).Perm (x :: s):=by
  refine List.perm_middle.trans ?_
  rw [List.take_append_drop]
 refine e.trans ?_
 refine (List.Perm.cons x hs).trans ?_
 exact (List.perm_append_singleton x _).symm
theorem insert_calls (R c N : Nat) (a b : Nat) (p l q : List TE) (w : World) (F : Nat → Prop) (h : (Own 58 tcells 7 (.slice (some ⟨R,0,none⟩) N c) (p ++ l ++ q)).at_ w F)
 (hN : N = (p ++ l ++ q).length) (ha : a = p.length) (hb : b = a + l.length) (hn : N ≤ 65536) (ht : l.Pairwise (fun x y=>x.2 < y.2)) :
 Calls Tryz.prog 153 #[.slice (some ⟨R,0,none⟩) N c,.int .i64 a,.int .i64 b,.func (.func 72) #[] #[]] w fun e w'=>e = .returned (.tuple #[]) ∧ ∃ s : List TE,s.Perm l ∧ Srt s ∧ St F w w' [Own 58 tcells 7 (.slice (some ⟨R,0,none⟩) N c) (p ++ s ++ q)]:=by
 have S:=St.one w h
 clear h
 have gN : N = a + l.length + q.length:=by rw [hN,ha];simp;omega
 have g1 : b ≤ N:=by omega
 have g0 : a ≤ b:=by omega
 have Ha:=Lib.hid ha
 have Hb:=Lib.hid hb
 have Ht:=Lib.hid ht
 have HgN:=Lib.hid gN
 clear hN ha ht hb gN
 go_enter Tryz.func153,Tryz.ntmps153
 go_wp2_with first | ((with_reducible apply wps_loada (T:=58) (k:=7) S 3);(case hx|hi=>rfl);(case hk=>exact nle rfl);(case hT=>decide +kernel))
 go_loopw [8,9] (fun i _ wr=>InsRel F R c N a p l q w i wr) (fun i _ _=>b - (intOf i).toNat)
 case atStart=>
  refine ⟨a + 1,1,l.take 1,Nat.le_refl _,.inr rfl,by go_num,rfl,List.Perm.refl _,?_,by rw [show p ++ l.take 1 ++ l.drop 1 ++ q = p ++ l ++ q by rw [List.append_assoc p,List.take_append_drop]];exact S⟩
  match l with
  | []=>simp
  | x :: l=>simp
 case round=>
  clear S
  obtain ⟨i,k,s,hk1,hk2,rfl,hik,hp,hs,S⟩:=hrel
  by_cases hlt : k < l.length
  · have hsl : s.length = k:=by rw [hp.length_eq];simp;omega
    obtain ⟨x,hx⟩ : ∃ x,l[k]? = some x:=⟨_,List.getElem?_eq_getElem hlt⟩
    have hd : l.drop k = x :: l.drop (k + 1):=by obtain ⟨h1,rfl⟩:=List.getElem?_eq_some_iff.1 hx;exact List.drop_eq_getElem_cons h1
    have HT : Hid (∀ y ∈ s,y.2 < x.2):=fun y hy=>by
     obtain ⟨j,hj,rfl⟩:=List.mem_take_iff_getElem.1 (hp.mem_iff.1 hy)
     obtain ⟨h1,rfl⟩:=List.getElem?_eq_some_iff.1 hx
     exact List.pairwise_iff_getElem.1 Ht.out j k (by omega) h1 (by omega)
    have HS : Hid (p ++ s ++ l.drop k ++ q = p ++ s.take k ++ x :: s.drop k ++ (l.drop (k + 1) ++ q)):=by
     have e1 : s.take k = s:=List.take_of_length_le (by omega)
     have e2 : s.drop k = []:=List.drop_eq_nil_of_le (by omega)
     rw [hd,e1,e2];simp [Hid]
    rw [HS.out] at S
    have hab : (i : Int) < b:=by have:=Hb.out;omega
    have hib : i < b:=by omega
    have hsb : a + s.length ≤ i:=by omega
    have Hp:=Lib.hid hp
    have Hs:=Lib.hid hs
    have Hx:=Lib.hid hx
    have Hsl:=Lib.hid hsl
    have hk0 : k ≤ s.length:=by omega
    have Hik:=Lib.hid hik
    have HD0 : Hid (∀ y ∈ s.drop k,tless x y = true):=by rw [List.drop_eq_nil_of_le (by omega)];simp [Hid]
    have HpA:=Lib.hid Ha.out
    clear hp hs hx hsl hd hlt hik hk2
    go_wp2_with first | ((with_reducible apply wps_loada (T:=58) (k:=7) S 3);(case hx|hi=>rfl);(case hk=>exact nle rfl);(case hT=>decide +kernel))
    go_loopw [9] (fun j wr=>InsRel2 F R c N a p s (l.drop (k + 1) ++ q) x w j wr) (fun j _=>(intOf j).toNat)
    case atStart=>exact ⟨i,k,hk0,rfl,Hik.out,HD0.out,S⟩
    case round=>
     clear S HD0
     obtain ⟨o,j,hj,rfl,hoj,hD,S⟩:=hrel
     by_cases hj0 : j = 0
     · have hoa : ¬ (a : Int) < o:=by omega
       have HR:=Lib.hid (ins_srt (x:=x) (k:=j) Hs.out HT.out hD (.inl hj0))
       have HP:=Lib.hid (insS_perm (j:=j) Hp.out Hx.out)
       have Hoj:=Lib.hid hoj
       have HD:=Lib.hid hD
       have Hj0:=Lib.hid hj0
       clear hoj hD hj0
       go_wp2_with first | ((with_reducible refine tot_done ?ht ?_);(case ht=>kernel_rfl)) | ((with_reducible apply wps_text S);(case hm=>kernel_rfl);(case hB=>decide +kernel);clear S;intro wz S)
       go_roundw
       case rel=>exact ⟨i + 1,k + 1,s.take j ++ x :: s.drop j,by omega,.inl (by have:=Hb.out;have:=Hik.out;omega),by go_num,by have:=Hik.out;omega,HP.out,HR.out,by simpa using S⟩
       case measure=>first | (simp [intOf];done) | (simp [intOf];omega)
     · obtain ⟨j,rfl⟩ : ∃ n,j = n + 1:=⟨j - 1,by omega⟩
       obtain ⟨o,rfl⟩ : ∃ n,o = n + 1:=⟨o - 1,by omega⟩
       obtain ⟨y,hy⟩ : ∃ y,s[j]? = some y:=⟨_,List.getElem?_eq_getElem (by omega)⟩
       have hoa : (a : Int) < o + 1:=by omega
       have hoN : o + 1 < N:=by omega
       have hsd : s.drop j = y :: s.drop (j + 1):=by obtain ⟨h1,rfl⟩:=List.getElem?_eq_some_iff.1 hy;exact List.drop_eq_getElem_cons h1
       have hst : s.take (j + 1) = s.take j ++ [y]:=by rw [List.take_add_one,hy];rfl
       have ljs : (s.take j).length = j:=by simp;omega
       have HX : Hid ((p ++ s.take (j + 1) ++ x :: s.drop (j + 1) ++ (l.drop (k + 1) ++ q))[o + 1]? = some x):=by
        have:=get_mid (p:=p ++ s.take (j + 1)) (q:=s.drop (j + 1) ++ (l.drop (k + 1) ++ q)) (x:=x) (k:=o + 1) (by rw [hst];simp [ljs];have:=HpA.out;omega)
        simpa [Hid] using this
       have HY : Hid ((p ++ s.take (j + 1) ++ x :: s.drop (j + 1) ++ (l.drop (k + 1) ++ q))[o]? = some y):=by
        have:=get_mid (p:=p ++ s.take j) (q:=x :: s.drop (j + 1) ++ (l.drop (k + 1) ++ q)) (x:=y) (k:=o) (by simp [ljs];have:=HpA.out;omega)
        rw [hst];simpa [Hid] using this
       have HY2 : Hid (((p ++ s.take (j + 1) ++ x :: s.drop (j + 1) ++ (l.drop (k + 1) ++ q)).set (o + 1) y)[o]? = some y):=by
        rw [List.getElem?_set_ne (by omega)];exact HY.out
       have HE : Hid (((p ++ s.take (j + 1) ++ x :: s.drop (j + 1) ++ (l.drop (k + 1) ++ q)).set (o + 1) y).set o x = p ++ s.take j ++ x :: s.drop j ++ (l.drop (k + 1) ++ q)):=by
        have e1:=set_mid (p:=p ++ s.take (j + 1)) (q:=s.drop (j + 1) ++ (l.drop (k + 1) ++ q)) (x:=x) (y:=y) (k:=o + 1) (by rw [hst];simp [ljs];have:=HpA.out;omega)
        have e2:=set_mid (p:=p ++ s.take j) (q:=y :: s.drop (j + 1) ++ (l.drop (k + 1) ++ q)) (x:=y) (y:=x) (k:=o) (by simp [ljs];have:=HpA.out;omega)
        rw [hst] at e1 ⊢
        rw [hsd]
        simp only [List.append_assoc,cons_append,nil_append] at *
        rw [e1,e2];rfl
       clear hst ljs
       cases hc : tless x y with
       | true=>
         have HC:=Lib.hid (cmpEv_yes hc)
         have HD2 : Hid (∀ z ∈ s.drop j,tless x z = true):=by
          rw [hsd];intro z hz
          rcases List.mem_cons.1 hz with rfl | hz
          · exact hc
          · exact hD z hz
         generalize p ++ s.take (j + 1) ++ x :: s.drop (j + 1) ++ (l.drop (k + 1) ++ q) = cur at *
         clear hc hsd
         have Hy:=Lib.hid hy
         have Hoj:=Lib.hid hoj
         have HD:=Lib.hid hD
         clear hy hoj hD
         go_wp2_with first | ((with_reducible apply wps_loada_own tlen S 0 (hj:=HX.out) (q:=0) (vs:=[.int .i64 x.1.key.at_,.int .i64 x.1.key.src,.int .i64 x.1.key.sent,.int .i64 x.1.key.no,.int .i64 x.1.dst,.int .i64 x.1.kind,.int .i64 x.1.data]) (m:=7));(case hx|hi=>rfl);(case hn=>omega);(case hm|hv=>rfl);(case hT=>decide +kernel)) | ((with_reducible apply wps_loada_own tlen S 0 (hj:=HY.out) (q:=0) (vs:=[.int .i64 y.1.key.at_,.int .i64 y.1.key.src,.int .i64 y.1.key.sent,.int .i64 y.1.key.no,.int .i64 y.1.dst,.int .i64 y.1.kind,.int .i64 y.1.data]) (m:=7));(case hx|hi=>rfl);(case hn=>omega);(case hm|hv=>rfl);(case hT=>decide +kernel)) | (go_at_call 72;refine Calls.mono (HC.out _) ?_;rintro e wz ⟨rfl,hE⟩;replace S:=S.ext (Keep.of_below hE);clear hE) | ((with_reducible apply wps_store_owna tlen S 0 (hj:=HX.out) (e':=y) (q:=0) (vs:=[.int .i64 y.1.key.at_,.int .i64 y.1.key.src,.int .i64 y.1.key.sent,.int .i64 y.1.key.no,.int .i64 y.1.dst,.int .i64 y.1.kind,.int .i64 y.1.data]) (m:=7));(case hx=>rfl);(case hn=>omega);(case hi|hy|hm|h1|he=>rfl);(case hq=>exact nle rfl);(case hT=>decide +kernel);clear S;intro wz S;simp only [set_cons_zero] at S) | ((with_reducible apply wps_store_owna tlen S 0 (hj:=HY2.out) (e':=x) (q:=0) (vs:=[.int .i64 x.1.key.at_,.int .i64 x.1.key.src,.int .i64 x.1.key.sent,.int .i64 x.1.key.no,.int .i64 x.1.dst,.int .i64 x.1.kind,.int .i64 x.1.data]) (m:=7));(case hx=>rfl);(case hn=>omega);(case hi|hy|hm|h1|he=>rfl);(case hq=>exact nle rfl);(case hT=>decide +kernel);clear S;intro wz S;simp only [set_cons_zero] at S) | ((with_reducible refine tot_done ?ht ?_);(case ht=>kernel_rfl)) | ((with_reducible apply wps_text S);(case hm=>kernel_rfl);(case hB=>decide +kernel);clear S;intro wz S)
         rw [HE.out] at S
         go_roundw
         case rel=>exact ⟨o,j,by omega,by go_num,by have:=Hoj.out;omega,HD2.out,S⟩
         case measure=>first | (simp [intOf];done) | (simp [intOf];omega)
       | false=>
         have HC:=Lib.hid (cmpEv_no hc)
         have HR:=Lib.hid (ins_srt (x:=x) (k:=j + 1) Hs.out HT.out hD (.inr ⟨y,hy,hc⟩))
         have HP:=Lib.hid (insS_perm (j:=j + 1) Hp.out Hx.out)
         have HS2 : Hid (p ++ s.take (j + 1) ++ x :: s.drop (j + 1) ++ (l.drop (k + 1) ++ q) = p ++ (s.take (j + 1) ++ x :: s.drop (j + 1)) ++ l.drop (k + 1) ++ q):=by simp [Hid]
         generalize p ++ s.take (j + 1) ++ x :: s.drop (j + 1) ++ (l.drop (k + 1) ++ q) = cur at *
         clear hc hsd
         have Hy:=Lib.hid hy
         have Hoj:=Lib.hid hoj
         have HD:=Lib.hid hD
         clear hy hoj hD
         go_wp2_with first | ((with_reducible apply wps_loada_own tlen S 0 (hj:=HX.out) (q:=0) (vs:=[.int .i64 x.1.key.at_,.int .i64 x.1.key.src,.int .i64 x.1.key.sent,.int .i64 x.1.key.no,.int .i64 x.1.dst,.int .i64 x.1.kind,.int .i64 x.1.data]) (m:=7));(case hx|hi=>rfl);(case hn=>omega);(case hm|hv=>rfl);(case hT=>decide +kernel)) | ((with_reducible apply wps_loada_own tlen S 0 (hj:=HY.out) (q:=0) (vs:=[.int .i64 y.1.key.at_,.int .i64 y.1.key.src,.int .i64 y.1.key.sent,.int .i64 y.1.key.no,.int .i64 y.1.dst,.int .i64 y.1.kind,.int .i64 y.1.data]) (m:=7));(case hx|hi=>rfl);(case hn=>omega);(case hm|hv=>rfl);(case hT=>decide +kernel)) | (go_at_call 72;refine Calls.mono (HC.out _) ?_;rintro e wz ⟨⟨cv,hcv,rfl⟩,hE⟩;have hcv2 : ¬ cv < 0:=(by omega);replace S:=S.ext (Keep.of_below hE);clear hE) | ((with_reducible refine tot_done ?ht ?_);(case ht=>kernel_rfl)) | ((with_reducible apply wps_text S);(case hm=>kernel_rfl);(case hB=>decide +kernel);clear S;intro wz S)
         rw [HS2.out] at S
         go_roundw
         case rel=>exact ⟨i + 1,k + 1,s.take (j + 1) ++ x :: s.drop (j + 1),by omega,.inl (by have:=Hb.out;have:=Hik.out;omega),by go_num,by have:=Hik.out;omega,HP.out,HR.out,S⟩
         case measure=>first | (simp [intOf];done) | (simp [intOf];omega)
  · have hge : ¬ (i : Int) < b:=by have:=Hb.out;omega
    have e1 : l.take k = l:=List.take_of_length_le (by omega)
    have e2 : l.drop k = []:=List.drop_eq_nil_of_le (by omega)
    rw [e2] at S
    rw [e1] at hp
    clear hik e1 e2
    have Hp:=Lib.hid hp
    have Hs:=Lib.hid hs
    clear hp hs
    go_wp2_with first | ((with_reducible apply wps_loada (T:=58) (k:=7) S 3);(case hx|hi=>rfl);(case hk=>exact nle rfl);(case hT=>decide +kernel))
    go_end0
    exact ⟨rfl,s,Hp.out,Hs.out,by simpa using S⟩
end Go.Proofs.YtmjljoaakdocaaaGreatDoor
