import Derived.Test.YtcnfionnnpnplaaGreatDoorZ06
import Derived.Test.YtcnfionnnpnplaaGreatDoorZ04
import Derived.Test.YtcnfionnnpnplaaGreatDoorZ11
import Derived.Laws.CopyRow
/- The walk of slices.SortStableFunc's insertion sort, and of the comparator. -/
set_option maxHeartbeats 16000000
set_option maxRecDepth 100000
namespace Go.Proofs.YtcnfionnnpnplaaGreatDoor
open Go Go.RowKit Reg Mem
open List (set_cons_succ set_cons_zero setIfInBounds_toArray cons_append nil_append)
theorem cmpEv_calls (a b : Event) (w : World) : Calls Tryz.prog 68 #[.agg #[.int .i64 a.key.at_,.int .i64 a.key.src,.int .i64 a.key.sent,.int .i64 a.key.no,.int .i64 a.dst,.int .i64 a.kind,.int .i64 a.data],.agg #[.int .i64 b.key.at_,.int .i64 b.key.src,.int .i64 b.key.sent,.int .i64 b.key.no,.int .i64 b.dst,.int .i64 b.kind,.int .i64 b.data]] w fun e w'=>e = .returned (.int .i64 (a.key.cmp b.key)) ∧ Below w.heap.size w w':=by
 have S:=St.init (fun _=>False) w
 go_enter Tryz.func68,Tryz.ntmps68
 go_wp2_with first | (go_at_call 64;refine Calls.mono (compare_calls _ _ _ _ _ _ _ _ _) ?_;rintro e wz ⟨rfl,hE⟩;replace S:=S.ext (Keep.of_below hE);clear hE) | ((with_reducible apply wps_boxa S);(case hx=>rfl);clear S;intro bz wz S) | ((with_reducible apply wps_loada (T:=54) (k:=4) S 0);(case hx|hi=>rfl);(case hk=>exact nle rfl);(case hT=>decide +kernel)) | ((with_reducible apply wps_loada (T:=54) (k:=4) S 1);(case hx|hi=>rfl);(case hk=>exact nle rfl);(case hT=>decide +kernel))
 go_ret
 exact ⟨rfl,S.below⟩
theorem cmpEv_yes {x y : TE} (h : tless x y = true) (w : World) : Calls Tryz.prog 68 #[.agg #[.int .i64 x.1.key.at_,.int .i64 x.1.key.src,.int .i64 x.1.key.sent,.int .i64 x.1.key.no,.int .i64 x.1.dst,.int .i64 x.1.kind,.int .i64 x.1.data],.agg #[.int .i64 y.1.key.at_,.int .i64 y.1.key.src,.int .i64 y.1.key.sent,.int .i64 y.1.key.no,.int .i64 y.1.dst,.int .i64 y.1.kind,.int .i64 y.1.data]] w fun e w'=>e = .returned (.int .i64 (-1)) ∧ Below w.heap.size w w':=
 (cmpEv_calls x.1 y.1 w).mono fun e w' ⟨he,hb⟩=>⟨by rw [he];unfold Key.cmp;rw [if_pos (show x.1.key.lt y.1.key = true from h)],hb⟩
theorem cmpEv_no {x y : TE} (h : tless x y = false) (w : World) : Calls Tryz.prog 68 #[.agg #[.int .i64 x.1.key.at_,.int .i64 x.1.key.src,.int .i64 x.1.key.sent,.int .i64 x.1.key.no,.int .i64 x.1.dst,.int .i64 x.1.kind,.int .i64 x.1.data],.agg #[.int .i64 y.1.key.at_,.int .i64 y.1.key.src,.int .i64 y.1.key.sent,.int .i64 y.1.key.no,.int .i64 y.1.dst,.int .i64 y.1.kind,.int .i64 y.1.data]] w fun e w'=>(∃ c : Int,0 ≤ c ∧ e = .returned (.int .i64 c)) ∧ Below w.heap.size w w':=
 (cmpEv_calls x.1 y.1 w).mono fun e w' ⟨he,hb⟩=>⟨⟨x.1.key.cmp y.1.key,by unfold Key.cmp;rw [if_neg (show ¬ x.1.key.lt y.1.key = true by rw [show x.1.key.lt y.1.key = false from h];simp)];split <;> omega,he⟩,hb⟩
def From (n : Nat) (l : List TE) : Prop:=∀ x ∈ l,n ≤ x.2
def InsRel (F : Nat → Prop) (R c N a : Nat) (p l q : List TE) (w : World) (iv : Value) (wr : World) : Prop:=
 ∃ (i k : Nat) (s : List TE),1 ≤ k ∧ (k ≤ l.length ∨ k = 1) ∧ iv = .int .i64 i ∧ i = a + k ∧ s.Perm (l.take k) ∧ Srt s ∧ St F w wr [Own 56 tcells 7 (.slice (some ⟨R,0,none⟩) N c) (p ++ s ++ l.drop k ++ q)]
def InsRel2 (F : Nat → Prop) (R c N a : Nat) (p s q : List TE) (x : TE) (w : World) (jv : Value) (wr : World) : Prop:=
 ∃ (i k : Nat),k ≤ s.length ∧ jv = .int .i64 i ∧ i = a + k ∧ (∀ y ∈ s.drop k,tless x y = true) ∧ St F w wr [Own 56 tcells 7 (.slice (some ⟨R,0,none⟩) N c) (p ++ s.take k ++ x :: s.drop k ++ q)]
theorem ins_srt {s : List TE} {x : TE} {k : Nat} (hs : Srt s) (ht : ∀ y ∈ s,y.2 < x.2) (h1 : ∀ y ∈ s.drop k,tless x y = true) (h2 : k = 0 ∨ ∃ y,s[k - 1]? = some y ∧ tless x y = false) : Srt (s.take k ++ x :: s.drop k):=by
 have y1 : ∀ z ∈ s.take k,slt z x:=fun z hz=>by
  obtain ⟨j,hj,rfl⟩:=List.mem_take_iff_getElem.1 hz
  refine slt_no ?_ (ht _ (List.getElem_mem _))
  rcases h2 with h2 | ⟨y,hy,hxy⟩
  · omega
  · cases hz2 : tless x s[j] with
    | false=>rfl
    | true=>
      rw [tless_run' hs (i:=j) (j:=k - 1) (by omega) (List.getElem?_eq_getElem (by omega)) hy hz2] at hxy;cases hxy
 refine List.pairwise_append.2 ⟨hs.sublist (List.take_sublist _ _),List.pairwise_cons.2 ⟨fun y hy=>slt_yes (h1 y hy),hs.sublist (List.drop_sublist _ _)⟩,fun u hu v hv=>?_⟩
 rcases List.mem_cons.1 hv with rfl | hv
 · exact y1 u hu
 · exact slt_trans (y1 u hu) (slt_yes (h1 v hv))
theorem insS_perm {s l : List TE} {x : TE} {k j : Nat} (hs : s.Perm (l.take k)) (hx : l[k]? = some x) : (s.take j ++ x :: s.drop j).Perm (l.take (k + 1)):=by
 rw [List.take_add_one,hx]
 have e : (s.take j ++ x :: s.drop j).Perm (x :: s):=by
  refine List.perm_middle.trans ?_
  rw [List.take_append_drop]
 refine e.trans ?_
 refine (List.Perm.cons x hs).trans ?_
 exact (List.perm_append_singleton x _).symm
theorem insert_calls (R c N : Nat) (a b : Nat) (p l q : List TE) (w : World) (F : Nat → Prop) (h : (Own 56 tcells 7 (.slice (some ⟨R,0,none⟩) N c) (p ++ l ++ q)).at_ w F)
 (hN : N = (p ++ l ++ q).length) (ha : a = p.length) (hb : b = a + l.length) (hn : N ≤ 65536) (ht : l.Pairwise (fun x y=>x.2 < y.2)) :
 Calls Tryz.prog 120 #[.slice (some ⟨R,0,none⟩) N c,.int .i64 a,.int .i64 b,.func (.func 68) #[] #[]] w fun e w'=>e = .returned (.tuple #[]) ∧ ∃ s : List TE,s.Perm l ∧ Srt s ∧ St F w w' [Own 56 tcells 7 (.slice (some ⟨R,0,none⟩) N c) (p ++ s ++ q)]:=by
 have S:=St.one w h
 clear h
 have gN : N = a + l.length + q.length:=by rw [hN,ha];simp;omega
 have g1 : b ≤ N:=by omega
 have g0 : a ≤ b:=by omega
 have Ha:=Lib.hid ha
 have Hb:=Lib.hid hb
 have Ht:=Lib.hid ht
 have HgN:=Lib.hid gN
 clear hN ha ht hb gN
 go_enter Tryz.func120,Tryz.ntmps120
 go_wp2_with first | ((with_reducible apply wps_loada (T:=56) (k:=7) S 3);(case hx|hi=>rfl);(case hk=>exact nle rfl);(case hT=>decide +kernel))
 go_loopw [8,9] (fun i _ wr=>InsRel F R c N a p l q w i wr) (fun i _ _=>b - (intOf i).toNat)
 case atStart=>
  refine ⟨a + 1,1,l.take 1,Nat.le_refl _,.inr rfl,by go_num,rfl,List.Perm.refl _,?_,by rw [show p ++ l.take 1 ++ l.drop 1 ++ q = p ++ l ++ q by rw [List.append_assoc p,List.take_append_drop]];exact S⟩
  match l with
  | []=>simp
  | x :: l=>simp
 case round=>
  clear S
  obtain ⟨i,k,s,hk1,hk2,rfl,hik,hp,hs,S⟩:=hrel
  by_cases hlt : k < l.length
  · have hsl : s.length = k:=by rw [hp.length_eq];simp;omega
    obtain ⟨x,hx⟩ : ∃ x,l[k]? = some x:=⟨_,List.getElem?_eq_getElem hlt⟩
    have hd : l.drop k = x :: l.drop (k + 1):=by obtain ⟨h1,rfl⟩:=List.getElem?_eq_some_iff.1 hx;exact List.drop_eq_getElem_cons h1
    have HT : Hid (∀ y ∈ s,y.2 < x.2):=fun y hy=>by
     obtain ⟨j,hj,rfl⟩:=List.mem_take_iff_getElem.1 (hp.mem_iff.1 hy)
     obtain ⟨h1,rfl⟩:=List.getElem?_eq_some_iff.1 hx
     exact List.pairwise_iff_getElem.1 Ht.out j k (by omega) h1 (by omega)
    have HS : Hid (p ++ s ++ l.drop k ++ q = p ++ s.take k ++ x :: s.drop k ++ (l.drop (k + 1) ++ q)):=by
     have e1 : s.take k = s:=List.take_of_length_le (by omega)
     have e2 : s.drop k = []:=List.drop_eq_nil_of_le (by omega)
     rw [hd,e1,e2];simp [Hid]
    rw [HS.out] at S
    have hab : (i : Int) < b:=by have:=Hb.out;omega
    have hib : i < b:=by omega
    have hsb : a + s.length ≤ i:=by omega
    have Hp:=Lib.hid hp
    have Hs:=Lib.hid hs
    have Hx:=Lib.hid hx
    have Hsl:=Lib.hid hsl
    have hk0 : k ≤ s.length:=by omega
    have Hik:=Lib.hid hik
    have HD0 : Hid (∀ y ∈ s.drop k,tless x y = true):=by rw [List.drop_eq_nil_of_le (by omega)];simp [Hid]
    have HpA:=Lib.hid Ha.out
    clear hp hs hx hsl hd hlt hik hk2
    go_wp2_with first | ((with_reducible apply wps_loada (T:=56) (k:=7) S 3);(case hx|hi=>rfl);(case hk=>exact nle rfl);(case hT=>decide +kernel))
    go_loopw [9] (fun j wr=>InsRel2 F R c N a p s (l.drop (k + 1) ++ q) x w j wr) (fun j _=>(intOf j).toNat)
    case atStart=>exact ⟨i,k,hk0,rfl,Hik.out,HD0.out,S⟩
    case round=>
     clear S HD0
     obtain ⟨o,j,hj,rfl,hoj,hD,S⟩:=hrel
     by_cases hj0 : j = 0
     · have hoa : ¬ (a : Int) < o:=by omega
       have HR:=Lib.hid (ins_srt (x:=x) (k:=j) Hs.out HT.out hD (.inl hj0))
       have HP:=Lib.hid (insS_perm (j:=j) Hp.out Hx.out)
       have Hoj:=Lib.hid hoj
       have HD:=Lib.hid hD
       have Hj0:=Lib.hid hj0
       clear hoj hD hj0
       go_wp2_with first | ((with_reducible refine tot_done ?ht ?_);(case ht=>kernel_rfl)) | ((with_reducible apply wps_text S);(case hm=>kernel_rfl);(case hB=>decide +kernel);clear S;intro wz S)
       go_roundw
       case rel=>exact ⟨i + 1,k + 1,s.take j ++ x :: s.drop j,by omega,.inl (by have:=Hb.out;have:=Hik.out;omega),by go_num,by have:=Hik.out;omega,HP.out,HR.out,by simpa using S⟩
       case measure=>first | (simp [intOf];done) | (simp [intOf];omega)
     · obtain ⟨j,rfl⟩ : ∃ n,j = n + 1:=⟨j - 1,by omega⟩
       obtain ⟨o,rfl⟩ : ∃ n,o = n + 1:=⟨o - 1,by omega⟩
       obtain ⟨y,hy⟩ : ∃ y,s[j]? = some y:=⟨_,List.getElem?_eq_getElem (by omega)⟩
       have hoa : (a : Int) < o + 1:=by omega
       have hoN : o + 1 < N:=by omega
       have hsd : s.drop j = y :: s.drop (j + 1):=by obtain ⟨h1,rfl⟩:=List.getElem?_eq_some_iff.1 hy;exact List.drop_eq_getElem_cons h1
       have hst : s.take (j + 1) = s.take j ++ [y]:=by rw [List.take_add_one,hy];rfl
       have ljs : (s.take j).length = j:=by simp;omega
       have HX : Hid ((p ++ s.take (j + 1) ++ x :: s.drop (j + 1) ++ (l.drop (k + 1) ++ q))[o + 1]? = some x):=by
        have:=get_mid (p:=p ++ s.take (j + 1)) (q:=s.drop (j + 1) ++ (l.drop (k + 1) ++ q)) (x:=x) (k:=o + 1) (by rw [hst];simp [ljs];have:=HpA.out;omega)
        simpa [Hid] using this
       have HY : Hid ((p ++ s.take (j + 1) ++ x :: s.drop (j + 1) ++ (l.drop (k + 1) ++ q))[o]? = some y):=by
        have:=get_mid (p:=p ++ s.take j) (q:=x :: s.drop (j + 1) ++ (l.drop (k + 1) ++ q)) (x:=y) (k:=o) (by simp [ljs];have:=HpA.out;omega)
        rw [hst];simpa [Hid] using this
       have HY2 : Hid (((p ++ s.take (j + 1) ++ x :: s.drop (j + 1) ++ (l.drop (k + 1) ++ q)).set (o + 1) y)[o]? = some y):=by
        rw [List.getElem?_set_ne (by omega)];exact HY.out
       have HE : Hid (((p ++ s.take (j + 1) ++ x :: s.drop (j + 1) ++ (l.drop (k + 1) ++ q)).set (o + 1) y).set o x = p ++ s.take j ++ x :: s.drop j ++ (l.drop (k + 1) ++ q)):=by
        have e1:=set_mid (p:=p ++ s.take (j + 1)) (q:=s.drop (j + 1) ++ (l.drop (k + 1) ++ q)) (x:=x) (y:=y) (k:=o + 1) (by rw [hst];simp [ljs];have:=HpA.out;omega)
        have e2:=set_mid (p:=p ++ s.take j) (q:=y :: s.drop (j + 1) ++ (l.drop (k + 1) ++ q)) (x:=y) (y:=x) (k:=o) (by simp [ljs];have:=HpA.out;omega)
        rw [hst] at e1 ⊢
        rw [hsd]
        simp only [List.append_assoc,cons_append,nil_append] at *
        rw [e1,e2];rfl
       clear hst ljs
       cases hc : tless x y with
       | true=>
         have HC:=Lib.hid (cmpEv_yes hc)
         have HD2 : Hid (∀ z ∈ s.drop j,tless x z = true):=by
          rw [hsd];intro z hz
          rcases List.mem_cons.1 hz with rfl | hz
          · exact hc
          · exact hD z hz
         generalize p ++ s.take (j + 1) ++ x :: s.drop (j + 1) ++ (l.drop (k + 1) ++ q) = cur at *
         clear hc hsd
         have Hy:=Lib.hid hy
         have Hoj:=Lib.hid hoj
         have HD:=Lib.hid hD
         clear hy hoj hD
         go_wp2_with first | ((with_reducible apply wps_loada_own tlen S 0 (hj:=HX.out) (q:=0) (vs:=[.int .i64 x.1.key.at_,.int .i64 x.1.key.src,.int .i64 x.1.key.sent,.int .i64 x.1.key.no,.int .i64 x.1.dst,.int .i64 x.1.kind,.int .i64 x.1.data]) (m:=7));(case hx|hi=>rfl);(case hn=>omega);(case hm|hv=>rfl);(case hT=>decide +kernel)) | ((with_reducible apply wps_loada_own tlen S 0 (hj:=HY.out) (q:=0) (vs:=[.int .i64 y.1.key.at_,.int .i64 y.1.key.src,.int .i64 y.1.key.sent,.int .i64 y.1.key.no,.int .i64 y.1.dst,.int .i64 y.1.kind,.int .i64 y.1.data]) (m:=7));(case hx|hi=>rfl);(case hn=>omega);(case hm|hv=>rfl);(case hT=>decide +kernel)) | (go_at_call 68;refine Calls.mono (HC.out _) ?_;rintro e wz ⟨rfl,hE⟩;replace S:=S.ext (Keep.of_below hE);clear hE) | ((with_reducible apply wps_store_owna tlen S 0 (hj:=HX.out) (e':=y) (q:=0) (vs:=[.int .i64 y.1.key.at_,.int .i64 y.1.key.src,.int .i64 y.1.key.sent,.int .i64 y.1.key.no,.int .i64 y.1.dst,.int .i64 y.1.kind,.int .i64 y.1.data]) (m:=7));(case hx=>rfl);(case hn=>omega);(case hi|hy|hm|h1|he=>rfl);(case hq=>exact nle rfl);(case hT=>decide +kernel);clear S;intro wz S;simp only [set_cons_zero] at S) | ((with_reducible apply wps_store_owna tlen S 0 (hj:=HY2.out) (e':=x) (q:=0) (vs:=[.int .i64 x.1.key.at_,.int .i64 x.1.key.src,.int .i64 x.1.key.sent,.int .i64 x.1.key.no,.int .i64 x.1.dst,.int .i64 x.1.kind,.int .i64 x.1.data]) (m:=7));(case hx=>rfl);(case hn=>omega);(case hi|hy|hm|h1|he=>rfl);(case hq=>exact nle rfl);(case hT=>decide +kernel);clear S;intro wz S;simp only [set_cons_zero] at S) | ((with_reducible refine tot_done ?ht ?_);(case ht=>kernel_rfl)) | ((with_reducible apply wps_text S);(case hm=>kernel_rfl);(case hB=>decide +kernel);clear S;intro wz S)
         rw [HE.out] at S
         go_roundw
         case rel=>exact ⟨o,j,by omega,by go_num,by have:=Hoj.out;omega,HD2.out,S⟩
         case measure=>first | (simp [intOf];done) | (simp [intOf];omega)
       | false=>
         have HC:=Lib.hid (cmpEv_no hc)
         have HR:=Lib.hid (ins_srt (x:=x) (k:=j + 1) Hs.out HT.out hD (.inr ⟨y,hy,hc⟩))
         have HP:=Lib.hid (insS_perm (j:=j + 1) Hp.out Hx.out)
         have HS2 : Hid (p ++ s.take (j + 1) ++ x :: s.drop (j + 1) ++ (l.drop (k + 1) ++ q) = p ++ (s.take (j + 1) ++ x :: s.drop (j + 1)) ++ l.drop (k + 1) ++ q):=by simp [Hid]
         generalize p ++ s.take (j + 1) ++ x :: s.drop (j + 1) ++ (l.drop (k + 1) ++ q) = cur at *
         clear hc hsd
         have Hy:=Lib.hid hy
         have Hoj:=Lib.hid hoj
         have HD:=Lib.hid hD
         clear hy hoj hD
         go_wp2_with first | ((with_reducible apply wps_loada_own tlen S 0 (hj:=HX.out) (q:=0) (vs:=[.int .i64 x.1.key.at_,.int .i64 x.1.key.src,.int .i64 x.1.key.sent,.int .i64 x.1.key.no,.int .i64 x.1.dst,.int .i64 x.1.kind,.int .i64 x.1.data]) (m:=7));(case hx|hi=>rfl);(case hn=>omega);(case hm|hv=>rfl);(case hT=>decide +kernel)) | ((with_reducible apply wps_loada_own tlen S 0 (hj:=HY.out) (q:=0) (vs:=[.int .i64 y.1.key.at_,.int .i64 y.1.key.src,.int .i64 y.1.key.sent,.int .i64 y.1.key.no,.int .i64 y.1.dst,.int .i64 y.1.kind,.int .i64 y.1.data]) (m:=7));(case hx|hi=>rfl);(case hn=>omega);(case hm|hv=>rfl);(case hT=>decide +kernel)) | (go_at_call 68;refine Calls.mono (HC.out _) ?_;rintro e wz ⟨⟨cv,hcv,rfl⟩,hE⟩;have hcv2 : ¬ cv < 0:=(by omega);replace S:=S.ext (Keep.of_below hE);clear hE) | ((with_reducible refine tot_done ?ht ?_);(case ht=>kernel_rfl)) | ((with_reducible apply wps_text S);(case hm=>kernel_rfl);(case hB=>decide +kernel);clear S;intro wz S)
         rw [HS2.out] at S
         go_roundw
         case rel=>exact ⟨i + 1,k + 1,s.take (j + 1) ++ x :: s.drop (j + 1),by omega,.inl (by have:=Hb.out;have:=Hik.out;omega),by go_num,by have:=Hik.out;omega,HP.out,HR.out,S⟩
         case measure=>first | (simp [intOf];done) | (simp [intOf];omega)
  · have hge : ¬ (i : Int) < b:=by have:=Hb.out;omega
    have e1 : l.take k = l:=List.take_of_length_le (by omega)
    have e2 : l.drop k = []:=List.drop_eq_nil_of_le (by omega)
    rw [e2] at S
    rw [e1] at hp
    clear hik e1 e2
    have Hp:=Lib.hid hp
    have Hs:=Lib.hid hs
    clear hp hs
    go_wp2_with first | ((with_reducible apply wps_loada (T:=56) (k:=7) S 3);(case hx|hi=>rfl);(case hk=>exact nle rfl);(case hT=>decide +kernel))
    go_end0
    exact ⟨rfl,s,Hp.out,Hs.out,by simpa using S⟩
end Go.Proofs.YtcnfionnnpnplaaGreatDoor
/- Plain: the machine that runs a handler's program. No program in sight. -/
namespace Go.Proofs.YtcnfionnnpnplaaGreatDoor
open Go Go.RowKit Mem
open List (set_cons_succ set_cons_zero setIfInBounds_toArray cons_append nil_append)
structure Emit where
 dst : Int
 delay : Int
 kind : Int
 data : Int
 deriving DecidableEq
instance : Inhabited Emit:=⟨⟨0,0,0,0⟩⟩
def Emit.cells (x : Emit) : List Value:=[.int .i64 x.dst,.int .i64 x.delay,.int .i64 x.kind,.int .i64 x.data]
theorem emcells : ∀ e : Emit,e.cells.length = 4:=fun _=>rfl
theorem emone : ∀ e : Emit,∀ u ∈ e.cells,u.oneCell' = true:=fun _=>by simp [Emit.cells,Value.oneCell']
structure Mach where
 cs : List Int
 at_ : Int
 sent : List Emit
def Mach.get (m : Mach) (a : Int) : Int:=m.cs[a.toNat]?.getD 0
def Mach.put (m : Mach) (a v : Int) : Mach:={ m with cs:=m.cs.set a.toNat v }
def reckonE (op b c : Int) : Int:=
 if op = 4 then wrap64 (b + wrap64 (-c)) else if op = 3 then wrap64 (b + c) else if op = 5 then wrap64 (b * c) else if op = 6 then (if c ≠ 0 then b.tmod c else 0) else if op = 7 then (if b < c then 1 else 0) else 0
def doE (e : Event) (fan : Int) (m : Mach) (x : Instr) : Mach:=
 if x.op = 1 then m.put x.a x.b
 else if x.op = 2 then m.put x.a (m.get x.b)
 else if 3 ≤ x.op ∧ x.op ≤ 7 then m.put x.a (reckonE x.op (m.get x.b) (m.get x.c))
 else if x.op = 8 then { m with at_:=x.a }
 else if x.op = 9 then (if m.get x.a = 0 then { m with at_:=x.b } else m)
 else if x.op = 10 then m.put x.a e.key.at_
 else if x.op = 11 then m.put x.a e.kind
 else if x.op = 12 then m.put x.a e.data
 else if x.op = 13 then m.put x.a e.dst
 else if x.op = 14 then (if (m.sent.length : Int) < fan then { m with sent:=m.sent ++ [⟨m.get x.a,m.get x.b,x.d,m.get x.c⟩] } else m)
 else m
def stepE (p : List Instr) (e : Event) (fan : Int) (m : Mach) : Option Mach:=
 if m.at_ < 0 ∨ (p.length : Int) ≤ m.at_ then none
 else match p[m.at_.toNat]? with
  | none=>none
  | some x=>if x.op = 15 ∨ mayE x p.length ≠ 0 then none else some (doE e fan { m with at_:=m.at_ + 1 } x)
def stepsE (p : List Instr) (e : Event) (fan : Int) : Nat → Mach → Mach
 | 0,m=>m
 | f + 1,m=>match stepE p e fan m with
   | none=>m
   | some n=>stepsE p e fan f n
def startE (s : State) : Mach:=⟨[s.n0,s.n1,s.n2,s.n3,0,0,0,0],0,[]⟩
theorem ite_len {c : Prop} [Decidable c] {a b : Mach} {n : Nat} (ha : a.cs.length = n) (hb : b.cs.length = n) : (if c then a else b).cs.length = n:=by split <;> assumption
theorem doE_len (e : Event) (fan : Int) (m : Mach) (x : Instr) : (doE e fan m x).cs.length = m.cs.length:=by
 unfold doE
 repeat' apply ite_len
 all_goals first | rfl | (unfold Mach.put;exact List.length_set)
def machCells (e : Event) (vp : Value) (m : Mach) (fan : Int) (vs : Value) : Array Value:=
 (e.cells ++ vp :: (m.cs.map (Value.int .i64) ++ [.int .i64 m.at_,.int .i64 fan,vs])).toArray
section
variable {e : Event} {vp vs u : Value} {m : Mach} {fan : Int}
theorem mach_ev {q : Nat} (hq : q < 7) (hu : e.cells[q]? = some u) : (machCells e vp m fan vs)[q]? = some u:=by
 unfold machCells
 simp only [List.getElem?_toArray]
 rw [List.getElem?_append_left (by simpa [Event.cells] using hq)];exact hu
theorem mach_prog : (machCells e vp m fan vs)[7]? = some vp:=by simp [machCells,Event.cells]
theorem mach_cell (h8 : m.cs.length = 8) {a : Nat} (ha : a < 8) : (machCells e vp m fan vs)[8 + a]? = some (.int .i64 (m.get a)):=by
 unfold machCells Mach.get
 simp only [List.getElem?_toArray]
 rw [List.getElem?_append_right (by simp [Event.cells];omega),show 8 + a - e.cells.length = a + 1 by simp [Event.cells];omega,List.getElem?_cons_succ,List.getElem?_append_left (by simp [h8];exact ha),List.getElem?_map]
 have : m.cs[a]? = some m.cs[a]:=List.getElem?_eq_getElem (by omega)
 simp [this]
theorem mach_at (h8 : m.cs.length = 8) : (machCells e vp m fan vs)[16]? = some (.int .i64 m.at_):=by
 unfold machCells
 simp only [List.getElem?_toArray]
 rw [List.getElem?_append_right (by simp [Event.cells]),show 16 - e.cells.length = 8 + 1 by simp [Event.cells],List.getElem?_cons_succ,List.getElem?_append_right (by simp [h8])]
 simp [h8]
theorem mach_fan (h8 : m.cs.length = 8) : (machCells e vp m fan vs)[17]? = some (.int .i64 fan):=by
 unfold machCells
 simp only [List.getElem?_toArray]
 rw [List.getElem?_append_right (by simp [Event.cells]),show 17 - e.cells.length = 9 + 1 by simp [Event.cells],List.getElem?_cons_succ,List.getElem?_append_right (by simp [h8])]
 simp [h8]
theorem mach_sent (h8 : m.cs.length = 8) : (machCells e vp m fan vs)[18]? = some vs:=by
 unfold machCells
 simp only [List.getElem?_toArray]
 rw [List.getElem?_append_right (by simp [Event.cells]),show 18 - e.cells.length = 10 + 1 by simp [Event.cells],List.getElem?_cons_succ,List.getElem?_append_right (by simp [h8])]
 simp [h8]
theorem mach_size (h8 : m.cs.length = 8) : (machCells e vp m fan vs).size = 19:=by simp [machCells,Event.cells,h8]
theorem mach_put (h8 : m.cs.length = 8) {a : Nat} (ha : a < 8) (v : Int) : (machCells e vp m fan vs).setIfInBounds (8 + a) (.int .i64 v) = machCells e vp (m.put a v) fan vs:=by
 unfold machCells Mach.put
 rw [setIfInBounds_toArray]
 congr 1
 rw [List.set_append_right _ _ (by simp [Event.cells];omega),show 8 + a - e.cells.length = a + 1 by simp [Event.cells];omega,set_cons_succ,List.set_append_left _ _ (by simp [h8];exact ha),List.map_set]
 simp
theorem mach_setat (h8 : m.cs.length = 8) (v : Int) : (machCells e vp m fan vs).setIfInBounds 16 (.int .i64 v) = machCells e vp { m with at_:=v } fan vs:=by
 unfold machCells
 rw [setIfInBounds_toArray]
 congr 1
 rw [List.set_append_right _ _ (by simp [Event.cells]),show 16 - e.cells.length = 8 + 1 by simp [Event.cells],set_cons_succ,List.set_append_right _ _ (by simp [h8])]
 simp [h8]
theorem mach_setsent (h8 : m.cs.length = 8) (v : Value) (l : List Emit) : (machCells e vp m fan vs).setIfInBounds 18 v = machCells e vp { m with sent:=l } fan v:=by
 unfold machCells
 rw [setIfInBounds_toArray]
 congr 1
 rw [List.set_append_right _ _ (by simp [Event.cells]),show 18 - e.cells.length = 10 + 1 by simp [Event.cells],set_cons_succ,List.set_append_right _ _ (by simp [h8])]
 simp [h8]
end
end Go.Proofs.YtcnfionnnpnplaaGreatDoor
/- The walks of model.Check and New. -/
namespace Go.Proofs.YtcnfionnnpnplaaGreatDoor
open Go Go.RowKit Reg Mem
open List (set_cons_succ set_cons_zero setIfInBounds_toArray cons_append nil_append)
theorem elem_In : Elem Tryz.prog 80 79 5 40:=⟨_,.agg #[.int .i64 0,.int .i64 0,.int .i64 0,.int .i64 0,.int .i64 0],Tryz.underlying80,rfl,by kernel_rfl,by kernel_rfl,by kernel_rfl,by kernel_rfl,by omega⟩
theorem elem_Pl : Elem Tryz.prog 23 82 5 40:=⟨_,.agg #[.int .i64 0,.int .i64 0,.int .i64 0,.int .i64 0,.int .i64 0],Tryz.underlying23,rfl,by kernel_rfl,by kernel_rfl,by kernel_rfl,by kernel_rfl,by omega⟩
theorem elem_Sta : Elem Tryz.prog 24 84 4 32:=⟨_,.agg #[.int .i64 0,.int .i64 0,.int .i64 0,.int .i64 0],Tryz.underlying24,rfl,by kernel_rfl,by kernel_rfl,by kernel_rfl,by kernel_rfl,by omega⟩
theorem clone_In {ad : Option Addr} {n c : Nat} {xs : List _} (w : World) (F : Nat → Prop) (h : (Sl true Instr.cells 5 (.slice ad n c) xs).at_ w F) (hn : xs.length ≤ 4294967296) :
 Calls Tryz.prog 53 #[.slice ad n c] w fun e w'=>∃ ad' c',e = .returned (.slice ad' xs.length c') ∧ (0 < xs.length → ∃ R,ad' = some ⟨R,0,none⟩) ∧ St (fun _=>False) w w' [Own 79 Instr.cells 5 (.slice ad' xs.length c') xs]:=by
 have S : St (fun _=>False) w w [Sl true Instr.cells 5 (.slice ad n c) xs]:=(St.init _ w).share rfl rfl h
 have hq : ∀ (w : World) (a : Option Addr) (n c n' c' : Nat),(binOp .eql 80 (.slice a n c) (.slice none n' c')).run Tryz.prog w = .ok (.bool a.isNone) w:=fun w a n c n' c'=>Lib.run_eql_slice_nil w _ _ a n c n' c' Tryz.underlying80
 cases ad with
 | none=>
   have hx : xs = []:=by
    obtain ⟨a,c',e,h1,h2,_⟩:=h.1
    simp only [Value.slice.injEq] at e
    obtain ⟨rfl,rfl,rfl⟩:=e
    exact List.eq_nil_of_length_eq_zero (by have:=h2 rfl;omega)
   subst hx
   go_enter Tryz.func53,Tryz.ntmps53
   go_wp2_with first | ((with_reducible refine tot_done ?ht ?_);(case ht=>kernel_rfl))
   go_ret
   exact ⟨_,_,rfl,fun h=>absurd h (by simp),((S.nil 79 Instr.cells 5).pick [0] rfl)⟩
 | some a0=>
   go_enter Tryz.func53,Tryz.ntmps53
   go_wp2_with first | ((with_reducible apply wps_build0 (T:=80) (E:=79) Instr.cells 5 S);(case hr=>intro w;kernel_rfl);clear S;intro bz wz S) | ((with_reducible apply wps_appends elem_In incells inone (by decide) S 0 (j:=1));(case hx|hy|hi|hj=>rfl);(case hl=>first | omega | (simp;omega));clear S;intro az nz cz wz hnz S;simp only [set_cons_zero] at S)
   go_ret
   obtain rfl : nz = xs.length:=by have:=hnz.out;simp at this;omega
   simp only [nil_append] at S
   refine ⟨_,_,rfl,fun h0=>?_,S.pick [0] rfl⟩
   obtain ⟨F,hF⟩:=S.get (i:=0) rfl
   rcases hF.1.2 with ⟨_,e⟩ | ⟨g,cap,cur,e,_⟩
   · omega
   · simp only [Value.slice.injEq] at e;exact ⟨g,e.1⟩
theorem clone_Pl {ad : Option Addr} {n c : Nat} {xs : List _} (w : World) (F : Nat → Prop) (h : (Sl true Place.cells 5 (.slice ad n c) xs).at_ w F) (hn : xs.length ≤ 4294967296) :
 Calls Tryz.prog 54 #[.slice ad n c] w fun e w'=>∃ ad' c',e = .returned (.slice ad' xs.length c') ∧ (0 < xs.length → ∃ R,ad' = some ⟨R,0,none⟩) ∧ St (fun _=>False) w w' [Own 82 Place.cells 5 (.slice ad' xs.length c') xs]:=by
 have S : St (fun _=>False) w w [Sl true Place.cells 5 (.slice ad n c) xs]:=(St.init _ w).share rfl rfl h
 have hq : ∀ (w : World) (a : Option Addr) (n c n' c' : Nat),(binOp .eql 23 (.slice a n c) (.slice none n' c')).run Tryz.prog w = .ok (.bool a.isNone) w:=fun w a n c n' c'=>Lib.run_eql_slice_nil w _ _ a n c n' c' Tryz.underlying23
 cases ad with
 | none=>
   have hx : xs = []:=by
    obtain ⟨a,c',e,h1,h2,_⟩:=h.1
    simp only [Value.slice.injEq] at e
    obtain ⟨rfl,rfl,rfl⟩:=e
    exact List.eq_nil_of_length_eq_zero (by have:=h2 rfl;omega)
   subst hx
   go_enter Tryz.func54,Tryz.ntmps54
   go_wp2_with first | ((with_reducible refine tot_done ?ht ?_);(case ht=>kernel_rfl))
   go_ret
   exact ⟨_,_,rfl,fun h=>absurd h (by simp),((S.nil 82 Place.cells 5).pick [0] rfl)⟩
 | some a0=>
   go_enter Tryz.func54,Tryz.ntmps54
   go_wp2_with first | ((with_reducible apply wps_build0 (T:=23) (E:=82) Place.cells 5 S);(case hr=>intro w;kernel_rfl);clear S;intro bz wz S) | ((with_reducible apply wps_appends elem_Pl plcells plone (by decide) S 0 (j:=1));(case hx|hy|hi|hj=>rfl);(case hl=>first | omega | (simp;omega));clear S;intro az nz cz wz hnz S;simp only [set_cons_zero] at S)
   go_ret
   obtain rfl : nz = xs.length:=by have:=hnz.out;simp at this;omega
   simp only [nil_append] at S
   refine ⟨_,_,rfl,fun h0=>?_,S.pick [0] rfl⟩
   obtain ⟨F,hF⟩:=S.get (i:=0) rfl
   rcases hF.1.2 with ⟨_,e⟩ | ⟨g,cap,cur,e,_⟩
   · omega
   · simp only [Value.slice.injEq] at e;exact ⟨g,e.1⟩
theorem clone_Sta {ad : Option Addr} {n c : Nat} {xs : List _} (w : World) (F : Nat → Prop) (h : (Sl true Start.cells 4 (.slice ad n c) xs).at_ w F) (hn : xs.length ≤ 4294967296) :
 Calls Tryz.prog 55 #[.slice ad n c] w fun e w'=>∃ ad' c',e = .returned (.slice ad' xs.length c') ∧ (0 < xs.length → ∃ R,ad' = some ⟨R,0,none⟩) ∧ St (fun _=>False) w w' [Own 84 Start.cells 4 (.slice ad' xs.length c') xs]:=by
 have S : St (fun _=>False) w w [Sl true Start.cells 4 (.slice ad n c) xs]:=(St.init _ w).share rfl rfl h
 have hq : ∀ (w : World) (a : Option Addr) (n c n' c' : Nat),(binOp .eql 24 (.slice a n c) (.slice none n' c')).run Tryz.prog w = .ok (.bool a.isNone) w:=fun w a n c n' c'=>Lib.run_eql_slice_nil w _ _ a n c n' c' Tryz.underlying24
 cases ad with
 | none=>
   have hx : xs = []:=by
    obtain ⟨a,c',e,h1,h2,_⟩:=h.1
    simp only [Value.slice.injEq] at e
    obtain ⟨rfl,rfl,rfl⟩:=e
    exact List.eq_nil_of_length_eq_zero (by have:=h2 rfl;omega)
   subst hx
   go_enter Tryz.func55,Tryz.ntmps55
   go_wp2_with first | ((with_reducible refine tot_done ?ht ?_);(case ht=>kernel_rfl))
   go_ret
   exact ⟨_,_,rfl,fun h=>absurd h (by simp),((S.nil 84 Start.cells 4).pick [0] rfl)⟩
 | some a0=>
   go_enter Tryz.func55,Tryz.ntmps55
   go_wp2_with first | ((with_reducible apply wps_build0 (T:=24) (E:=84) Start.cells 4 S);(case hr=>intro w;kernel_rfl);clear S;intro bz wz S) | ((with_reducible apply wps_appends elem_Sta stcells stone (by decide) S 0 (j:=1));(case hx|hy|hi|hj=>rfl);(case hl=>first | omega | (simp;omega));clear S;intro az nz cz wz hnz S;simp only [set_cons_zero] at S)
   go_ret
   obtain rfl : nz = xs.length:=by have:=hnz.out;simp at this;omega
   simp only [nil_append] at S
   refine ⟨_,_,rfl,fun h0=>?_,S.pick [0] rfl⟩
   obtain ⟨F,hF⟩:=S.get (i:=0) rfl
   rcases hF.1.2 with ⟨_,e⟩ | ⟨g,cap,cur,e,_⟩
   · omega
   · simp only [Value.slice.injEq] at e;exact ⟨g,e.1⟩
theorem zero_Hdr : zeroIs Tryz.prog 80 1 (vcell (.slice none 0 0)):=⟨_,.slice none 0 0,rfl,by kernel_rfl,by kernel_rfl,rfl,by decide⟩
theorem within_or (n a b : Int) : withinE n a b = 0 ∨ withinE n a b = 10:=by unfold withinE;split <;> simp
theorem within_iff {n a b : Int} : withinE n a b = 0 ↔ a ≤ n ∧ n ≤ b:=by
 unfold withinE;split <;> simp <;> omega
theorem sizes_eq (c : Cfg) : firstE [withinE c.lps.length 1 32,withinE c.programs.length 1 32,withinE c.fin 1 1073741824,withinE c.fuel 1 1024,withinE c.fan 0 8] = sizesE c:=by
 obtain ⟨l,hl⟩ : ∃ l,[withinE c.lps.length 1 32,withinE c.programs.length 1 32,withinE c.fin 1 1073741824,withinE c.fuel 1 1024,withinE c.fan 0 8] = l:=⟨_,rfl⟩
 have hz : firstE l = 0 ↔ sizesOk c:=by
  rw [firstE_zero,← hl]
  simp only [List.mem_cons,List.not_mem_nil,or_false,forall_eq_or_imp,forall_eq,within_iff,sizesOk]
  omega
 rw [hl]
 unfold sizesE
 split
 · exact hz.2 ‹_›
 · rcases firstE_mem l with h | h
   · exact absurd (hz.1 h) ‹_›
   · have hn : firstE l ≠ 0:=fun h=>absurd (hz.1 h) ‹_›
     rw [← hl] at h
     simp only [List.mem_cons,List.not_mem_nil,or_false] at h
     rw [hl] at h
     rcases h with h | h | h | h | h <;> rw [h] at hn ⊢
     · exact (within_or _ _ _).resolve_left hn
     · exact (within_or _ _ _).resolve_left hn
     · exact (within_or _ _ _).resolve_left hn
     · exact (within_or _ _ _).resolve_left hn
     · exact (within_or _ _ _).resolve_left hn
structure Mid (c : Cfg) : Prop where
 p : c.programs.length ≤ 65536
 l : c.lps.length ≤ 65536
 s : c.starts.length ≤ 65536
theorem mcheck_calls (vs hs : List Value) (c : Cfg) (w : World) (F F2 : Nat → Prop) (h : (CfgA true vs hs c).at_ w F) (ht : Tab.at_ w F2) (hm : Mid c) :
 Calls Tryz.prog 52 #[.agg vs.toArray] w fun r w'=>r = .returned (.int .i64 (cfgE c)) ∧ Below w.heap.size w w':=by
 have S : St (fun _=>False) w w [CfgA true vs hs c,Tab]:=((St.init _ w).share rfl rfl ht).share rfl rfl h
 obtain ⟨aP,cP,aL,cL,aS,cS,rfl,hlen,S⟩:=S.cfg 0 rfl
 replace S:=S.pick [0,1,2,3,5] rfl
 simp only [pick,nth] at S
 clear h ht
 have hm1:=hm.p
 have hm2:=hm.l
 have hm3:=hm.s
 obtain ⟨ps,ls,ss,fin,fuel,fan⟩:=c
 simp only at *
 obtain ⟨r,hr⟩ : ∃ r,cfgE ⟨ps,ls,ss,fin,fuel,fan⟩ = r:=⟨_,rfl⟩
 have hq:=sizes_eq ⟨ps,ls,ss,fin,fuel,fan⟩
 simp only at hq
 have e : firstE [firstE [withinE ls.length 1 32,withinE ps.length 1 32,withinE fin 1 1073741824,withinE fuel 1 1024,withinE fan 0 8],(if 256 < ss.length then 11 else 0),firstE (ps.map codeE),
  (if (∀ p ∈ ls,plOk ps.length p) ∧ (∀ s ∈ ss,stOk ls.length s) then 0 else 14),(if ∀ s ∈ ss,0 ≤ s.at_ ∧ s.at_ ≤ fin then 0 else 18)] = r:=by
  rw [← hr,hq];rfl
 rw [hr]
 obtain ⟨x1,hx1⟩ : ∃ x,firstE [withinE ls.length 1 32,withinE ps.length 1 32,withinE fin 1 1073741824,withinE fuel 1 1024,withinE fan 0 8] = x:=⟨_,rfl⟩
 obtain ⟨x2,hx2⟩ : ∃ x : Int,(if 256 < ss.length then 11 else 0) = x:=⟨_,rfl⟩
 obtain ⟨x3,hx3⟩ : ∃ x,firstE (ps.map codeE) = x:=⟨_,rfl⟩
 obtain ⟨x4,hx4⟩ : ∃ x : Int,(if (∀ p ∈ ls,plOk ps.length p) ∧ (∀ s ∈ ss,stOk ls.length s) then 0 else 14) = x:=⟨_,rfl⟩
 obtain ⟨x5,hx5⟩ : ∃ x : Int,(if ∀ s ∈ ss,0 ≤ s.at_ ∧ s.at_ ≤ fin then 0 else 18) = x:=⟨_,rfl⟩
 have c1:=sizes_calls aP aL aS ps.length cP ls.length cL ss.length cS fin fuel fan
 have c2:=starts_calls aP aL aS ps.length cP ls.length cL ss.length cS fin fuel fan
 have c3:=fun w F1 F2 F3 h1 h2 h3=>programs_calls aP aL aS cP ls.length cL ss.length cS fin fuel fan hs ps w F1 F2 F3 h1 h2 h3 hm1
 have c4:=fun w F1 F2 h1 h2=>ends_calls aP aL aS ps.length cP cL cS fin fuel fan ls ss w F1 F2 h1 h2 hm2 hm3
 have c5:=fun w F1 h1=>times_calls aP aL aS ps.length cP ls.length cL cS fin fuel fan ss w F1 h1 hm3
 rw [hx1] at c1 e
 rw [hx2] at c2 e
 rw [hx3] at c3 e
 rw [hx4] at c4 e
 rw [hx5] at c5 e
 clear hx1 hx2 hx3 hx4 hx5 hr hq
 have C1:=Lib.hid c1
 have C2:=Lib.hid c2
 have C3:=Lib.hid c3
 have C4:=Lib.hid c4
 have C5:=Lib.hid c5
 have E:=Lib.hid e
 clear c1 c2 c3 c4 c5 e
 go_enter Tryz.func52,Tryz.ntmps52
 go_wp2_with first | ((with_reducible apply wps_boxa S);(case hx=>rfl);clear S;intro bx wz S)
 (refine wp_region_w (soft:=[0,1,2,3,4,5,6,7,8,9]) S ?hm ?hB ?_);(case hm=>kernel_rfl);(case hB=>decide +kernel);clear S
 iterate 10
  (with_reducible apply softs_cons)
  (case hw=>
    (with_reducible apply soft_of);(case hi=>rfl)
    intro T wz S
    simp only [cons_append,nil_append] at S
    go_wp2_with first | (go_at_call 76;refine Calls.mono (C1.out _) ?_;rintro e wz ⟨rfl,hE⟩;replace S:=S.ext (Keep.of_below hE);clear hE) | (go_at_call 77;refine Calls.mono (C2.out _) ?_;rintro e wz ⟨rfl,hE⟩;replace S:=S.ext (Keep.of_below hE);clear hE) | (go_at_call 78;refine Calls.mono (C3.out _ _ _ _ (S.get (i:=2) rfl).choose_spec (S.get (i:=1) rfl).choose_spec (S.get (i:=5) rfl).choose_spec) ?_;rintro e wz ⟨rfl,hE⟩;replace S:=S.ext (Keep.of_below hE);clear hE) | (go_at_call 79;refine Calls.mono (C4.out _ _ _ (S.get (i:=3) rfl).choose_spec (S.get (i:=4) rfl).choose_spec) ?_;rintro e wz ⟨rfl,hE⟩;replace S:=S.ext (Keep.of_below hE);clear hE) | (go_at_call 80;refine Calls.mono (C5.out _ _ (S.get (i:=4) rfl).choose_spec) ?_;rintro e wz ⟨rfl,hE⟩;replace S:=S.ext (Keep.of_below hE);clear hE) | ((with_reducible refine tot_done ?ht ?_);(case ht=>kernel_rfl)) | ((with_reducible apply wps_loada (T:=26) (k:=6) S 0);(case hx|hi=>rfl);(case hk=>exact nle rfl);(case hT=>decide +kernel))
    exact ⟨rfl,S⟩)
  (case hs=>exact ⟨_,rfl,by kernel_rfl⟩)
 refine softs_nil ?_
 repeat'
  (first
    | ((with_reducible apply W_hard1 (i:=10));(case hn=>rfl);(case hr=>decide +kernel)) | ((with_reducible apply W_hard1 (i:=11));(case hn=>rfl);(case hr=>decide +kernel)) | ((with_reducible apply W_hard1 (i:=12));(case hn=>rfl);(case hr=>decide +kernel)) | ((with_reducible apply W_hard2 (i:=11) (i':=12));(case hn=>rfl);(case hr=>decide +kernel)))
  all_goals
   intro wz S
   (with_reducible apply hard_of);(case hi=>rfl)
   simp only [cons_append,nil_append] at S
   try simp only [pick,nth] at S
   go_wp2_with first | ((with_reducible apply wps_buildSlice (T:=192) (E:=41) (cs:=#[.int .i64 x1,.int .i64 x2,.int .i64 x3,.int .i64 x4,.int .i64 x5]) S);(case hr=>intro w;kernel_rfl);clear S;intro bz wz S) | (go_at_call 75;refine Calls.mono (first_calls _ [x1,x2,x3,x4,x5] _ _ (blk_sl _ intE_len (S.get (i:=6) rfl).choose_spec rfl rfl) (Nat.le_of_ble_eq_true rfl)) ?_;rintro e wz ⟨rfl,hE⟩;replace S:=S.ext (Keep.of_below hE);clear hE) | ((with_reducible refine tot_done ?ht ?_);(case ht=>kernel_rfl))
   first
    | refine ⟨_,S.pick [1,2,3,4,5,6,7,8,9,10,0] rfl,?_⟩
    | refine ⟨_,S.pick [1,2,3,4,5,6,7,8,9,0] rfl,?_⟩
    | refine ⟨_,S.pick [1,2,3,4,5,6,7,8,0] rfl,?_⟩
    | refine ⟨_,S.pick [1,2,3,4,5,6,7,0] rfl,?_⟩
    | refine ⟨_,S.pick [1,2,3,4,5,6,0] rfl,?_⟩
    | refine ⟨_,S,?_⟩
 (with_reducible apply W_done);(case hn=>rfl);(case hr=>decide +kernel)
 clear S
 intro wz S
 simp only [cons_append,nil_append] at S
 try simp only [pick,nth] at S
 go_wp2_with first | ((with_reducible apply wps_loada (T:=26) (k:=6) S 0);(case hx|hi=>rfl);(case hk=>exact nle rfl);(case hT=>decide +kernel))
 go_ret
 exact ⟨ret_int E.out,S.below⟩
end Go.Proofs.YtcnfionnnpnplaaGreatDoor
/- 'copy' between blocks that are known whole. Over any program. -/
namespace Go.Proofs.YtcnfionnnpnplaaGreatDoor.Mem
open Go Go.RowKit Reg
open List (set_cons_succ set_cons_zero setIfInBounds_toArray cons_append nil_append)
section
variable {P : Program} {ops : Array Oper} {rest : List Oper} {a : Act} {Q : Exit → Act → World → Prop} {d : Option Tmp} {tt : TypeId} {p : String} {af : Array Edge} {gd : Option (Nat × Bool)} {x y : Operand}
variable {G : Nat → Prop} {w0 w w' : World} {L : List Asn}
theorem wps_copyb {b o dLen dCap b2 o2 sLen sCap : Nat} {cs cs2 : Array Value} {t t2 dT sT elem : TypeId} {sh : Bool} (S : St G w0 w L) (i : Nat) (hi : L[i]? = some (Blk false b cs t)) (j : Nat) (hj : L[j]? = some (Blk sh b2 cs2 t2)) (us : List Value)
 (hx : a.eval x = .slice (some ⟨b,o,none⟩) dLen dCap) (hy : a.eval y = .slice (some ⟨b2,o2,none⟩) sLen sCap) (hu : P.underlying dT = some (.slice elem)) (hsz : (match P.info? elem with | some i=>i.size == 1 | none=>false) = true)
 (hn : us.length = Nat.min sLen dLen) (hsrc : ∀ k v,us[k]? = some v → cs2[o2 + k]? = some v) (hfit : o + us.length ≤ cs.size) (h1 : us.all Value.oneCell' = true)
 (next : ∀ w',St G w0 w' (L.set i (Blk false b (splice cs o us) t)) → wpList P ops Q rest (a.put d (.int .i64 us.length)) w') (hgd : gOk gd ops a = true:=by with_unfolding_all rfl) :
 wpList P ops Q ({ dst:=d,op:=.call { callee:=.builtin .copy,args:=#[x,y],argTypes:=#[dT,sT] },type:=tt,pos:=p,after:=af,guard:=gd } :: rest) a w:=
 wpList_ok hgd fun K hK=>by
  have hs : (P.info? elem).map (·.size) = some 1:=by
   cases h : P.info? elem with
   | none=>rw [h] at hsz;simp at hsz
   | some i=>rw [h] at hsz;simpa using hsz
  have hr:=run_copy_row (P:=P) w dT sT tt elem b o dLen dCap ⟨b2,o2,none⟩ sLen sCap cs t us hu hs (S.blk i hi) hn
   (fun k v hk=>by
     have : (Addr.add ⟨b2,o2,none⟩ k) = ⟨b2,o2 + k,none⟩:=by simp [Addr.add]
     rw [this,cell_of (S.blk j hj)];exact hsrc k v hk) hfit (by simpa using h1)
  unfold Oper.wp execOp
  simp [resolve,invoke,builtin,hx,hy,hr,Result.andThen]
  refine hK _ _ (next _ (S.step hi rfl fun F hF=>⟨F,setRow_keep.mono (fun z _ hn e=>hn ((hF.2 z).2 e)),⟨?_,hF.2⟩,fun _ h=>.inl h⟩))
  rw [show splice cs o us = (List.take o cs.toList ++ (us ++ List.drop (o + us.length) cs.toList)).toArray by simp [splice]]
  exact setRow_heap w b cs _ t _ (S.blk i hi)
end
end Go.Proofs.YtcnfionnnpnplaaGreatDoor.Mem
