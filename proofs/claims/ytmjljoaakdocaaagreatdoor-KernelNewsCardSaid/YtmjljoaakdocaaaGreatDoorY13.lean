import Derived.Test.YtmjljoaakdocaaaGreatDoorY11
import Derived.Test.YtmjljoaakdocaaaGreatDoorY09
import Derived.Test.YtmjljoaakdocaaaGreatDoorY07
import Derived.Test.YtmjljoaakdocaaaGreatDoorY10
import Derived.Test.YtmjljoaakdocaaaGreatDoorY20
import Derived.Test.YtmjljoaakdocaaaGreatDoorY04
import Derived.Test.YtmjljoaakdocaaaGreatDoorY12
import Derived.Shelf.SortG.SortNone
/- The walk of the net's Pick. -/
set_option maxHeartbeats 16000000
set_option maxRecDepth 100000
namespace Go.Proofs.YtmjljoaakdocaaaGreatDoor
open Go Go.RowKit Reg Mem
open List (set_cons_succ set_cons_zero setIfInBounds_toArray cons_append nil_append)
def toE (bx : Int) (l : List PkE) : List PkE:=l.filter fun x=>x.to_ == bx
def pickE (bx which : Int) (l : List PkE) : Option PkE:=(toE bx l)[(which % ((toE bx l).length : Int)).toNat]?
def NetE.less (n : NetE) (no : Int) : NetE:=⟨n.boxes,n.next,n.way.filter fun y=>y.no != no⟩
theorem less_at : ∀ {l : List PkE} {k : Nat} {x : PkE},(l.map (·.no)).Nodup → l[k]? = some x → l.take k ++ l.drop (k + 1) = l.filter fun y=>y.no != x.no
 | [],k,x,_,h=>by simp at h
 | a :: l,0,x,hd,h=>by
   simp only [List.getElem?_cons_zero,Option.some.injEq] at h
   subst h
   rw [List.map_cons,List.nodup_cons] at hd
   rw [List.filter_cons_of_neg (by simp)]
   simp only [List.take_zero,nil_append,Nat.zero_add,List.drop_succ_cons,List.drop_zero]
   refine (List.filter_eq_self.2 fun y hy=>?_).symm
   simp only [bne_iff_ne,ne_eq]
   exact fun e=>hd.1 (List.mem_map.2 ⟨y,hy,e⟩)
 | a :: l,k + 1,x,hd,h=>by
   rw [List.map_cons,List.nodup_cons] at hd
   have h2 : l[k]? = some x:=by simpa using h
   have:=less_at hd.2 h2
   rw [List.filter_cons_of_pos]
   · simp only [List.take_succ_cons,List.drop_succ_cons,cons_append,this]
   · simp only [bne_iff_ne,ne_eq]
     exact fun e=>hd.1 (List.mem_map.2 ⟨x,List.mem_of_getElem? h2,e.symm⟩)
theorem firstP_at {l : List PkE} {k : Nat} {x : PkE} (hd : (l.map (·.no)).Nodup) (h : l[k]? = some x) : ∀ (q : Nat) y,q < k → l[q]? = some y → y.no ≠ x.no:=by
 intro q y hq hy e
 have h1 : (l.map (·.no))[q]? = some x.no:=by rw [List.getElem?_map,hy,← e];rfl
 have h2 : (l.map (·.no))[k]? = some x.no:=by rw [List.getElem?_map,h];rfl
 obtain ⟨a1,b1⟩:=List.getElem?_eq_some_iff.1 h1
 obtain ⟨a2,b2⟩:=List.getElem?_eq_some_iff.1 h2
 exact List.pairwise_iff_getElem.1 hd q k a1 a2 hq (b1.trans b2.symm)
theorem take_snocP {α : Type} {l : List α} {j : Nat} {x : α} (h : l[j]? = some x) : l.take (j + 1) = l.take j ++ [x]:=by
 rw [List.take_add_one,h];rfl
def PickPost (X : Nat) (n : NetE) (bx which : Int) (F : Nat → Prop) (w : World) (e : Ending) (w' : World) : Prop:=
 (boxB n.boxes bx = false ∧ e = .returned (.tuple #[.agg #[.int .i64 pkz.no,.int .i64 pkz.from_,.int .i64 pkz.to_,.int .i64 pkz.x.kind,.int .i64 pkz.x.m.ev.key.at_,.int .i64 pkz.x.m.ev.key.src,.int .i64 pkz.x.m.ev.key.sent,.int .i64 pkz.x.m.ev.key.no,.int .i64 pkz.x.m.ev.dst,.int .i64 pkz.x.m.ev.kind,.int .i64 pkz.x.m.ev.data,.bool pkz.x.m.anti,.int .i64 pkz.x.no,.int .i64 pkz.x.at_],.int .i64 1]) ∧ St F w w' [netA X n]) ∨
 (boxB n.boxes bx = true ∧ toE bx n.way = [] ∧ e = .returned (.tuple #[.agg #[.int .i64 pkz.no,.int .i64 pkz.from_,.int .i64 pkz.to_,.int .i64 pkz.x.kind,.int .i64 pkz.x.m.ev.key.at_,.int .i64 pkz.x.m.ev.key.src,.int .i64 pkz.x.m.ev.key.sent,.int .i64 pkz.x.m.ev.key.no,.int .i64 pkz.x.m.ev.dst,.int .i64 pkz.x.m.ev.kind,.int .i64 pkz.x.m.ev.data,.bool pkz.x.m.anti,.int .i64 pkz.x.no,.int .i64 pkz.x.at_],.int .i64 14]) ∧ St F w w' [netA X n]) ∨
 (boxB n.boxes bx = true ∧ ∃ x,pickE bx which n.way = some x ∧ x ∈ n.way ∧ e = .returned (.tuple #[.agg #[.int .i64 x.no,.int .i64 x.from_,.int .i64 x.to_,.int .i64 x.x.kind,.int .i64 x.x.m.ev.key.at_,.int .i64 x.x.m.ev.key.src,.int .i64 x.x.m.ev.key.sent,.int .i64 x.x.m.ev.key.no,.int .i64 x.x.m.ev.dst,.int .i64 x.x.m.ev.kind,.int .i64 x.x.m.ev.data,.bool x.x.m.anti,.int .i64 x.x.no,.int .i64 x.x.at_],.int .i64 0]) ∧ St F w w' [netA X (n.less x.no)])
def PiPhi (b6 b8 X : Nat) (n : NetE) (v : Value) (l : List PkE) (j : Nat) (L : List Asn) : Prop:=
 ∃ (lv : Value) (lo : List Int),Hid (lo = (l.take j).map (·.no)) ∧ L = [Mem.Own 3 intE 1 lv lo,Blk false b8 #[lv] 92,Blk false b6 #[.int .i64 pkz.no,.int .i64 pkz.from_,.int .i64 pkz.to_,.int .i64 pkz.x.kind,.int .i64 pkz.x.m.ev.key.at_,.int .i64 pkz.x.m.ev.key.src,.int .i64 pkz.x.m.ev.key.sent,.int .i64 pkz.x.m.ev.key.no,.int .i64 pkz.x.m.ev.dst,.int .i64 pkz.x.m.ev.kind,.int .i64 pkz.x.m.ev.data,.bool pkz.x.m.anti,.int .i64 pkz.x.no,.int .i64 pkz.x.at_] 100,Blk false X #[.int .i64 n.boxes,.int .i64 n.next,v] 147,Mem.Own 100 pkcell 14 v n.way]
theorem netpick_calls (X : Nat) (n : NetE) (bx which : Int) (hw1 : -9223372036854775808 ≤ which) (hw2 : which ≤ 9223372036854775807) (hd : (n.way.map (·.no)).Nodup) (hn : n.way.length ≤ 1000000) (w : World) (F : Nat → Prop) (S0 : St F w w [netA X n]) :
 Calls Tryz.prog 87 #[.pointer (some ⟨X,0,none⟩),.int .i64 bx,.int .i64 which] w (PickPost X n bx which F w):=by
 obtain ⟨v,S⟩:=net_open S0
 clear S0
 have HB:=Lib.hid fun v' w F h=>netbox_calls X n v' bx w F h
 have HT:=Lib.hid fun w F F2 h1 h2=>netto_calls X n v bx hn w F F2 h1 h2
 rw [show (n.way.filter fun x=>x.to_ == bx) = toE bx n.way from rfl] at HT
 have hl : (toE bx n.way).length ≤ 1000000:=Nat.le_trans (List.length_filter_le ..) hn
 refine calls_marks Tryz.func87 rfl ?_
 simp only [Tryz.ntmps87,List.size_toArray,List.length_cons,List.length_nil,Nat.reduceAdd,Nat.reduceSub,Array.replicate_succ,Array.replicate_zero,List.push_toArray,List.append_toArray,nil_append,cons_append]
 by_cases hb : boxB n.boxes bx = true
 case neg=>
  have hb : boxB n.boxes bx = false:=by simpa using hb
  rw [hb] at HB
  have HBB:=Lib.hid hb
  clear hb
  go_wp2_with first | ((with_reducible apply wps_alloca (E:=100) S);(case hz=>exact Tryz.zeroValue100);clear S;intro b6 wz S) | (go_at_call 128;refine Calls.mono (HB.out _ _ _ (S.get (i:=1) rfl).choose_spec) ?_;rintro e wz ⟨rfl,hE⟩;replace S:=S.ext (Keep.of_below hE);clear hE) | ((with_reducible apply wps_storea (T:=100) S 0 (vs:=[.int .i64 pkz.no,.int .i64 pkz.from_,.int .i64 pkz.to_,.int .i64 pkz.x.kind,.int .i64 pkz.x.m.ev.key.at_,.int .i64 pkz.x.m.ev.key.src,.int .i64 pkz.x.m.ev.key.sent,.int .i64 pkz.x.m.ev.key.no,.int .i64 pkz.x.m.ev.dst,.int .i64 pkz.x.m.ev.kind,.int .i64 pkz.x.m.ev.data,.bool pkz.x.m.anti,.int .i64 pkz.x.no,.int .i64 pkz.x.at_]) (m:=14));(case hx|hy|hi|hm|h1=>rfl);(case hn=>exact nle rfl);(case hT=>decide +kernel);clear S;intro wz S;simp only [set_cons_zero,set_cons_succ,setAll,setIfInBounds_toArray] at S)
  refine leaves_ret rfl (results2 rfl (S.resA 0 rfl rfl (by kernel_rfl)) (res_tmp rfl)) ?_
  exact .inl ⟨HBB.out,rfl,net_close (S.pick [1,2] rfl)⟩
 case pos=>
  rw [hb] at HB
  have HBB:=Lib.hid hb
  clear hb
  go_wp2_with first | ((with_reducible apply wps_alloca (E:=100) S);(case hz=>exact Tryz.zeroValue100);clear S;intro b6 wz S) | (go_at_call 128;refine Calls.mono (HB.out _ _ _ (S.get (i:=1) rfl).choose_spec) ?_;rintro e wz ⟨rfl,hE⟩;replace S:=S.ext (Keep.of_below hE);clear hE) | ((with_reducible apply wps_alloc1 (E:=92) S);(case hz=>exact Tryz.zeroValue92);(case h1=>rfl);clear S;intro b8 wz S) | (go_at_call 37;(refine Calls.mono (HT.out _ _ _ (S.get (i:=2) rfl).choose_spec (own_sl (sh:=true) pkcells (S.get (i:=3) rfl).choose_spec)) ?_);rintro rr wz ⟨bt,vt,rfl,T⟩;replace S:=S.join T rfl;clear T;simp only [cons_append,nil_append] at S)
  replace S:=S.weak (i:=0) (A':=Blk true bt #[vt] 145) rfl (fun e=>by cases e) (fun F h=>⟨F,fun _ hb=>hb,h⟩)
  simp only [set_cons_zero] at S
  replace S:=S.freeze true 1 pkcells rfl
  simp only [set_cons_zero,set_cons_succ] at S
  replace S:=(S.nil 3 intE 1).pick [1,2,0,3,4,5,6] rfl
  simp only [pick,nth] at S
  have HLN:=Lib.hid hl
  refine wps_range (those1_iter bt vt (toE bx n.way) hl) S rfl (calls_enter Tryz.func102 (by kernel_rfl) rfl) (PiPhi b6 b8 X n v (toE bx n.way)) (fun _ _ _=>False) ⟨.slice none 0 0,[],Lib.hid rfl,rfl⟩ (fun x args N h=>by obtain ⟨rfl,_⟩:=h;rfl) ?round ?done ?stop
  case stop=>intro _ _ _ _ _ _ h;exact h.elim
  case round=>
   rintro lp D r j x args N L W hx ⟨rfl,rfl⟩ ⟨lv,lo,HLO,rfl⟩ S
   simp only [zip_one9K,setIfInBounds_toArray,set_cons_succ,set_cons_zero,cons_append,nil_append] at S ⊢
   have HLO2 : Hid (lo ++ [x.no] = ((toE bx n.way).take (j + 1)).map (·.no)):=Lib.hid (by rw [take_snocP hx,List.map_append,← HLO.out];rfl)
   obtain ⟨a3,c3,rfl,_⟩:=(S.ownsl intE_len 2 rfl).elim fun _ h=>h.form
   have hll : lo.length < 4294967296:=by have:=congrArg List.length HLO.out;rw [List.length_map,List.length_take] at this;omega
   clear hx
   gi_wp2_with first
    | (refine wpi_at (.inr ⟨_,rfl⟩) rfl fun K hK=>?_
       go_wp2_with first | ((with_reducible apply wps_alloca (E:=100) S);(case hz=>exact Tryz.zeroValue100);clear S;intro b9 wz S) | ((with_reducible apply wps_storea (T:=100) S 0 (vs:=[.int .i64 x.no,.int .i64 x.from_,.int .i64 x.to_,.int .i64 x.x.kind,.int .i64 x.x.m.ev.key.at_,.int .i64 x.x.m.ev.key.src,.int .i64 x.x.m.ev.key.sent,.int .i64 x.x.m.ev.key.no,.int .i64 x.x.m.ev.dst,.int .i64 x.x.m.ev.kind,.int .i64 x.x.m.ev.data,.bool x.x.m.anti,.int .i64 x.x.no,.int .i64 x.x.at_]) (m:=14));(case hx|hy|hi|hm|h1=>rfl);(case hn=>exact nle rfl);(case hT=>decide +kernel);clear S;intro wz S;simp only [set_cons_zero,set_cons_succ,setAll,setIfInBounds_toArray] at S)
       refine hK _ _ ?_
       (try simp only [Act.put]);(try simp only [setIfInBounds_toArray]);(try simp only [set_cons_succ]);(try simp only [set_cons_zero])
       clear hK K)
   refine ⟨_,S.lastSplit rfl,fun r' W2 S=>?_⟩
   simp only [List.dropLast,cons_append,nil_append] at S
   refine wpIn_block (wpi_list_k (.inr ⟨_,rfl⟩) rfl fun K2 hK2=>?_)
   go_wp2_with first | ((with_reducible apply wps_load S 4);(case hx|hi|hu=>rfl);(case hT=>decide +kernel)) | ((with_reducible apply wps_load S 0);(case hx|hi|hu=>rfl);(case hT=>decide +kernel)) | ((with_reducible apply wps_build11 (T:=92) (E:=3) S);(case hx=>rfl);(case hr=>intro w;kernel_rfl);clear S;intro bz wz S) | ((with_reducible apply wps_append1 elem_Int intE_len intE_one (by decide) S 4 (j:=0) (e:=x.no));(case hx|hy|hi|hj|he=>rfl);(case hl=>omega);clear S;intro az nz cz wz hnz S;simp only [set_cons_succ,set_cons_zero] at S) | ((with_reducible apply wps_store (u:=(.slice az nz cz)) S 5);(case hx|hy|hi|h1=>rfl);(case hn=>exact nle rfl);(case hT=>decide +kernel);clear S;intro wz S;simp only [set_cons_succ,set_cons_zero,setIfInBounds_toArray] at S)
   refine hK2 _ _ ?_
   clear hK2 K2
   exact ⟨_,⟨_,_,HLO2,rfl⟩,S.pick [2,3,4,5,6,7,8,9] rfl⟩
  case done=>
   rintro D W L ⟨lv,lo,HLO,rfl⟩ S
   simp only [cons_append,nil_append] at S
   rw [List.take_length] at HLO
   obtain ⟨a3,c3,rfl,_⟩:=(S.ownsl intE_len 3 rfl).elim fun _ h=>h.form
   have hlen : lo.length = (toE bx n.way).length:=by rw [HLO.out,List.length_map]
   replace S:=S.freeze true 3 intE_len rfl
   simp only [set_cons_zero,set_cons_succ] at S
   replace S:=net_close (n:=n) (S.pick [6,7,0,1,2,3,4,5] rfl)
   simp only [pick,nth] at S
   by_cases h0 : lo.length = 0
   · have HE : Hid (toE bx n.way = []):=Lib.hid (List.length_eq_zero_iff.1 (by omega))
     rw [h0] at S
     clear h0 hlen
     go_wp2_with first | ((with_reducible apply wps_load S 5);(case hx|hi|hu=>rfl);(case hT=>decide +kernel)) | ((with_reducible apply wps_storea (T:=100) S 6 (vs:=[.int .i64 pkz.no,.int .i64 pkz.from_,.int .i64 pkz.to_,.int .i64 pkz.x.kind,.int .i64 pkz.x.m.ev.key.at_,.int .i64 pkz.x.m.ev.key.src,.int .i64 pkz.x.m.ev.key.sent,.int .i64 pkz.x.m.ev.key.no,.int .i64 pkz.x.m.ev.dst,.int .i64 pkz.x.m.ev.kind,.int .i64 pkz.x.m.ev.data,.bool pkz.x.m.anti,.int .i64 pkz.x.no,.int .i64 pkz.x.at_]) (m:=14));(case hx|hy|hi|hm|h1=>rfl);(case hn=>exact nle rfl);(case hT=>decide +kernel);clear S;intro wz S;simp only [set_cons_zero,set_cons_succ,setAll,setIfInBounds_toArray] at S)
     refine leaves_ret1 (S.pick [1,0,6] rfl) rfl fun w' S=>⟨_,results2 rfl (S.resA 1 rfl rfl (by kernel_rfl)) (res_tmp rfl),?_⟩
     exact .inr (.inl ⟨HBB.out,HE.out,rfl,S.pick [0] rfl⟩)
   · obtain ⟨x,hx⟩ : ∃ x,pickE bx which n.way = some x:=by
      unfold pickE
      exact ⟨_,List.getElem?_eq_getElem (by have:=Int.emod_lt_of_pos which (show (0 : Int) < ((toE bx n.way).length : Int) by omega);have:=Int.emod_nonneg which (show ((toE bx n.way).length : Int) ≠ 0 by omega);omega)⟩
     have hxm : x ∈ n.way:=(List.mem_filter.1 (List.mem_of_getElem? hx)).1
     obtain ⟨k,hk⟩:=List.mem_iff_getElem?.1 hxm
     have HTK:=Lib.hid fun w F S0=>nettake_calls X n k x (n.way.filter fun y=>y.no != x.no) hk (firstP_at hd hk) (less_at hd hk) hn w F S0
     have HXM:=Lib.hid hxm
     have HXP:=Lib.hid hx
     have HLX : Hid (lo[(which % (lo.length : Int)).toNat]? = some x.no):=Lib.hid (by unfold pickE at hx;rw [hlen,HLO.out,List.getElem?_map,hx];rfl)
     have hm1 : (0 : Int) < lo.length:=by omega
     have hm2 : (lo.length : Int) ≤ 1000000:=by omega
     have hm3 : (lo.length : Int) ≠ 0:=by omega
     obtain ⟨R,o,rfl⟩ : ∃ R o,a3 = some ⟨R,o,none⟩:=(S.sl 4 rfl).elim fun F h=>h.head (by omega)
     clear HLO hlen hx hxm hk hd hl
     by_cases hwn : 0 ≤ which
     · obtain ⟨u,rfl⟩ : ∃ u : Nat,which = u:=⟨which.toNat,by omega⟩
       have hb1 : 0 ≤ (u : Int) % lo.length:=Int.emod_nonneg _ hm3
       have hb2 : (u : Int) % lo.length < lo.length:=Int.emod_lt_of_pos _ hm1
       have hb3 : decide ((u : Int) % lo.length < 0) = false:=decide_eq_false (by omega)
       go_wp2_with first | ((with_reducible apply wps_load S 5);(case hx|hi|hu=>rfl);(case hT=>decide +kernel)) | ((with_reducible apply wps_load_el S 4 (hj:=HLX.out) (q:=0) (u:=(.int .i64 x.no)));(case hx|hi=>rfl);(case hn=>omega);(case hu=>rfl);(case hT=>decide +kernel)) | (go_at_call 129;obtain ⟨Fz,hF,hBk⟩:=S.lend [0] [] [1,2,3,4,5,6] rfl rfl rfl;simp only [cons_append,nil_append,pick,nth] at hF hBk;refine Calls.mono (HTK.out _ _ hF) ?_;rintro rr wz ⟨rfl,T⟩;replace S:=hBk _ _ T rfl;clear hBk hF T;simp only [cons_append,nil_append] at S) | ((with_reducible apply wps_storea (T:=100) S 6 (vs:=[.int .i64 x.no,.int .i64 x.from_,.int .i64 x.to_,.int .i64 x.x.kind,.int .i64 x.x.m.ev.key.at_,.int .i64 x.x.m.ev.key.src,.int .i64 x.x.m.ev.key.sent,.int .i64 x.x.m.ev.key.no,.int .i64 x.x.m.ev.dst,.int .i64 x.x.m.ev.kind,.int .i64 x.x.m.ev.data,.bool x.x.m.anti,.int .i64 x.x.no,.int .i64 x.x.at_]) (m:=14));(case hx|hy|hi|hm|h1=>rfl);(case hn=>exact nle rfl);(case hT=>decide +kernel);clear S;intro wz S;simp only [set_cons_zero,set_cons_succ,setAll,setIfInBounds_toArray] at S)
       refine leaves_ret1 (S.pick [1,0,6] rfl) rfl fun w' S=>⟨_,results2 rfl (S.resA 1 rfl rfl (by kernel_rfl)) (res_tmp rfl),?_⟩
       exact .inr (.inr ⟨HBB.out,x,HXP.out,HXM.out,rfl,S.pick [0] rfl⟩)
     · have hem:=Int.emod_nonneg which hm3
       have hem2:=Int.emod_lt_of_pos which hm1
       have he : which.tmod lo.length = which % lo.length ∨ which.tmod lo.length = which % lo.length - lo.length:=by
        have:=Int.tmod_eq_emod (a:=which) (b:=lo.length)
        split at this
        · exact .inl (by omega)
        · exact .inr (by omega)
       by_cases ht : 0 ≤ which.tmod lo.length
       · have he2 : which.tmod lo.length = which % lo.length:=by omega
         rw [← he2] at HLX hem2
         have hb3 : decide (which.tmod lo.length < 0) = false:=decide_eq_false (by omega)
         clear he he2 hem hwn
         go_wp2_with first | ((with_reducible apply wps_load S 5);(case hx|hi|hu=>rfl);(case hT=>decide +kernel)) | ((with_reducible apply wps_load_el S 4 (hj:=HLX.out) (q:=0) (u:=(.int .i64 x.no)));(case hx|hi=>rfl);(case hn=>omega);(case hu=>rfl);(case hT=>decide +kernel)) | (go_at_call 129;obtain ⟨Fz,hF,hBk⟩:=S.lend [0] [] [1,2,3,4,5,6] rfl rfl rfl;simp only [cons_append,nil_append,pick,nth] at hF hBk;refine Calls.mono (HTK.out _ _ hF) ?_;rintro rr wz ⟨rfl,T⟩;replace S:=hBk _ _ T rfl;clear hBk hF T;simp only [cons_append,nil_append] at S) | ((with_reducible apply wps_storea (T:=100) S 6 (vs:=[.int .i64 x.no,.int .i64 x.from_,.int .i64 x.to_,.int .i64 x.x.kind,.int .i64 x.x.m.ev.key.at_,.int .i64 x.x.m.ev.key.src,.int .i64 x.x.m.ev.key.sent,.int .i64 x.x.m.ev.key.no,.int .i64 x.x.m.ev.dst,.int .i64 x.x.m.ev.kind,.int .i64 x.x.m.ev.data,.bool x.x.m.anti,.int .i64 x.x.no,.int .i64 x.x.at_]) (m:=14));(case hx|hy|hi|hm|h1=>rfl);(case hn=>exact nle rfl);(case hT=>decide +kernel);clear S;intro wz S;simp only [set_cons_zero,set_cons_succ,setAll,setIfInBounds_toArray] at S)
         refine leaves_ret1 (S.pick [1,0,6] rfl) rfl fun w' S=>⟨_,results2 rfl (S.resA 1 rfl rfl (by kernel_rfl)) (res_tmp rfl),?_⟩
         exact .inr (.inr ⟨HBB.out,x,HXP.out,HXM.out,rfl,S.pick [0] rfl⟩)
       · have he2 : which % lo.length = which.tmod lo.length + lo.length:=by omega
         rw [he2] at HLX hem hem2
         have hb3 : decide (which.tmod lo.length < 0) = true:=decide_eq_true (by omega)
         have hb4 : which.tmod lo.length < 0:=by omega
         have hb5 : -1000000 ≤ which.tmod lo.length:=by omega
         clear he he2 hwn ht
         go_wp2_with first | ((with_reducible apply wps_load S 5);(case hx|hi|hu=>rfl);(case hT=>decide +kernel)) | ((with_reducible apply wps_load_el S 4 (hj:=HLX.out) (q:=0) (u:=(.int .i64 x.no)));(case hx|hi=>rfl);(case hn=>omega);(case hu=>rfl);(case hT=>decide +kernel)) | (go_at_call 129;obtain ⟨Fz,hF,hBk⟩:=S.lend [0] [] [1,2,3,4,5,6] rfl rfl rfl;simp only [cons_append,nil_append,pick,nth] at hF hBk;refine Calls.mono (HTK.out _ _ hF) ?_;rintro rr wz ⟨rfl,T⟩;replace S:=hBk _ _ T rfl;clear hBk hF T;simp only [cons_append,nil_append] at S) | ((with_reducible apply wps_storea (T:=100) S 6 (vs:=[.int .i64 x.no,.int .i64 x.from_,.int .i64 x.to_,.int .i64 x.x.kind,.int .i64 x.x.m.ev.key.at_,.int .i64 x.x.m.ev.key.src,.int .i64 x.x.m.ev.key.sent,.int .i64 x.x.m.ev.key.no,.int .i64 x.x.m.ev.dst,.int .i64 x.x.m.ev.kind,.int .i64 x.x.m.ev.data,.bool x.x.m.anti,.int .i64 x.x.no,.int .i64 x.x.at_]) (m:=14));(case hx|hy|hi|hm|h1=>rfl);(case hn=>exact nle rfl);(case hT=>decide +kernel);clear S;intro wz S;simp only [set_cons_zero,set_cons_succ,setAll,setIfInBounds_toArray] at S)
         refine leaves_ret1 (S.pick [1,0,6] rfl) rfl fun w' S=>⟨_,results2 rfl (S.resA 1 rfl rfl (by kernel_rfl)) (res_tmp rfl),?_⟩
         exact .inr (.inr ⟨HBB.out,x,HXP.out,HXM.out,rfl,S.pick [0] rfl⟩)
end Go.Proofs.YtmjljoaakdocaaaGreatDoor
/- One process as a thing: its queue, what it sent, its saves; the walk of New. -/
namespace Go.Proofs.YtmjljoaakdocaaaGreatDoor
open Go Go.RowKit Reg Mem
open List (set_cons_succ set_cons_zero setIfInBounds_toArray cons_append nil_append)
theorem take_snocL {α : Type} {l : List α} {j : Nat} {x : α} (h : l[j]? = some x) : l.take (j + 1) = l.take j ++ [x]:=by
 rw [List.take_add_one,h];rfl
theorem sortT_stepL {l : List Event} {i : Nat} {x : Event} (h : l[i]? = some x) : sortT (l.take (i + 1)) = insTot x (sortT (l.take i)):=by
 unfold sortT
 rw [take_snocL h,List.foldl_append];rfl
structure LpE where
 id : Int
 every : Int
 lazy : Bool
 evs : List Event
 ans : List Event
 recs : List (Event × Bool)
 svs : List (Int × State)
 now : Int
 st : State
 since : Int
 freed : Int
 steps : Int
 coasted : Int
def svcell (x : Int × State) : List Value:=[.int .i64 x.1,.int .i64 x.2.n0,.int .i64 x.2.n1,.int .i64 x.2.n2,.int .i64 x.2.n3]
theorem svcells : ∀ x,(svcell x).length = 5:=fun _=>rfl
theorem svone : ∀ x,∀ u ∈ svcell x,u.oneCell' = true:=fun _=>by simp [svcell,Value.oneCell']
def rccell (x : Event × Bool) : List Value:=x.1.cells ++ [.bool x.2]
theorem rccells : ∀ x,(rccell x).length = 8:=fun _=>rfl
theorem rcone : ∀ x,∀ u ∈ rccell x,u.oneCell' = true:=fun _=>by simp [rccell,Event.cells,Value.oneCell']
def sentA (T : Nat) (l : List (Event × Bool)) : Asn:=exs false fun v : Value=>sep false (Blk false T #[v] 246) (Mem.Own 276 rccell 8 v l)
def rowA (Y : Nat) (l : List (Int × State)) : Asn:=exs false fun v : Value=>sep false (Blk false Y #[v] 253) (Mem.Own 248 svcell 5 v l)
theorem sent_open {G : Nat → Prop} {w0 w : World} {L : List Asn} {T : Nat} {l : List (Event × Bool)} (S : St G w0 w (sentA T l :: L)) : ∃ v,St G w0 w (Mem.Own 276 rccell 8 v l :: Blk false T #[v] 246 :: L):=by
 obtain ⟨v,S⟩:=S.open_exs (fun _=>rfl)
 exact ⟨v,(S.open_sep rfl rfl).swap2⟩
theorem sent_close {G : Nat → Prop} {w0 w : World} {L : List Asn} {T : Nat} {l : List (Event × Bool)} {v : Value} (S : St G w0 w (Mem.Own 276 rccell 8 v l :: Blk false T #[v] 246 :: L)) : St G w0 w (sentA T l :: L):=
 (S.swap2.close_sep rfl rfl).close_exs (A:=fun v : Value=>sep false (Blk false T #[v] 246) (Mem.Own 276 rccell 8 v l)) v rfl
theorem row_open {G : Nat → Prop} {w0 w : World} {L : List Asn} {T : Nat} {l : List (Int × State)} (S : St G w0 w (rowA T l :: L)) : ∃ v,St G w0 w (Mem.Own 248 svcell 5 v l :: Blk false T #[v] 253 :: L):=by
 obtain ⟨v,S⟩:=S.open_exs (fun _=>rfl)
 exact ⟨v,(S.open_sep rfl rfl).swap2⟩
theorem row_close {G : Nat → Prop} {w0 w : World} {L : List Asn} {T : Nat} {l : List (Int × State)} {v : Value} (S : St G w0 w (Mem.Own 248 svcell 5 v l :: Blk false T #[v] 253 :: L)) : St G w0 w (rowA T l :: L):=
 (S.swap2.close_sep rfl rfl).close_exs (A:=fun v : Value=>sep false (Blk false T #[v] 253) (Mem.Own 248 svcell 5 v l)) v rfl
def lpB (X Q T Y R : Nat) (p : LpE) : Asn:=Blk false X #[.pointer (some ⟨Q,0,none⟩),.iface 115 (.agg #[.pointer (some ⟨R,0,none⟩)]),.int .i64 p.id,.int .i64 p.every,.bool p.lazy,.pointer (some ⟨T,0,none⟩),.pointer (some ⟨Y,0,none⟩),.int .i64 p.now,.int .i64 p.st.n0,.int .i64 p.st.n1,.int .i64 p.st.n2,.int .i64 p.st.n3,.int .i64 p.since,.int .i64 p.freed,.int .i64 p.steps,.int .i64 p.coasted] 190
def lpA (X R : Nat) (p : LpE) : Asn:=exs false fun q : Nat × Nat × Nat=>
 sep false (lpB X q.1 q.2.1 q.2.2 R p) (sep false (queueA q.1 p.evs p.ans) (sep false (sentA q.2.1 p.recs) (rowA q.2.2 p.svs)))
theorem lp_open {G : Nat → Prop} {w0 w : World} {L : List Asn} {X R : Nat} {p : LpE} (S : St G w0 w (lpA X R p :: L)) :
 ∃ Q T Y,St G w0 w (sentA T p.recs :: rowA Y p.svs :: queueA Q p.evs p.ans :: lpB X Q T Y R p :: L):=by
 obtain ⟨⟨Q,T,Y⟩,S⟩:=S.open_exs (fun _=>rfl)
 exact ⟨Q,T,Y,((S.open_sep rfl rfl).swap2.open_sep rfl rfl).swap2.open_sep rfl rfl⟩
theorem lp_close {G : Nat → Prop} {w0 w : World} {L : List Asn} {X R Q T Y : Nat} {p : LpE} (S : St G w0 w (sentA T p.recs :: rowA Y p.svs :: queueA Q p.evs p.ans :: lpB X Q T Y R p :: L)) : St G w0 w (lpA X R p :: L):=
 (((S.close_sep rfl rfl).swap2.close_sep rfl rfl).swap2.close_sep rfl rfl).close_exs (A:=fun q : Nat × Nat × Nat=>
 sep false (lpB X q.1 q.2.1 q.2.2 R p) (sep false (queueA q.1 p.evs p.ans) (sep false (sentA q.2.1 p.recs) (rowA q.2.2 p.svs)))) (Q,T,Y) rfl
theorem onew_calls (w : World) : Calls Tryz.prog 77 #[] w fun e w'=>∃ X,e = .returned (.pointer (some ⟨X,0,none⟩)) ∧ St (fun _=>False) w w' [sentA X []]:=by
 have S:=St.init (fun _=>False) w
 go_enter Tryz.func77,Tryz.ntmps77
 go_wp2_with first | ((with_reducible apply wps_boxa (E:=246) S);(case hx=>rfl);clear S;intro bX wz S)
 replace S:=S.nil 276 rccell 8
 go_ret
 exact ⟨_,rfl,sent_close S⟩
theorem rownew_calls (s : State) (w : World) : Calls Tryz.prog 78 #[.agg #[.int .i64 s.n0,.int .i64 s.n1,.int .i64 s.n2,.int .i64 s.n3]] w fun e w'=>∃ X,e = .returned (.pointer (some ⟨X,0,none⟩)) ∧ St (fun _=>False) w w' [rowA X [(-1,s)]]:=by
 have S:=St.init (fun _=>False) w
 go_enter Tryz.func78,Tryz.ntmps78
 go_wp2_with first | ((with_reducible apply wps_boxa (E:=141) S);(case hx=>rfl);clear S;intro be wz S) | ((with_reducible apply wps_loada (T:=141) (k:=4) S 0);(case hx|hi=>rfl);(case hk=>exact nle rfl);(case hT=>decide +kernel)) | ((with_reducible apply wps_buildSlice (T:=249) (E:=248) (cs:=#[.int .i64 (-1),.int .i64 s.n0,.int .i64 s.n1,.int .i64 s.n2,.int .i64 s.n3]) S);(case hr=>intro w;kernel_rfl);clear S;intro bs wz S) | ((with_reducible apply wps_boxa (E:=253) S);(case hx=>rfl);clear S;intro bX wz S)
 have S2:=S.unraw (n:=1) (c:=1) (xs:=[(-1,s)]) svcells 1 rfl rfl rfl (Nat.le_refl _) (by simp [maxLen]) rfl
 simp only [set_cons_zero,set_cons_succ] at S2
 go_ret
 exact ⟨_,rfl,row_close (S2.pick [1,0] rfl)⟩
def newLp (id every : Int) (lazy : Bool) (s : State) (l : List Event) : LpE:=⟨id,every,lazy,sortT l,[],[],[(-1,s)],-1,s,0,0,0,0⟩
def LpNewPost (R : Nat) (p : LpE) (w : World) (e : Ending) (w' : World) : Prop:=
 ∃ X,e = .returned (.tuple #[.pointer (some ⟨X,0,none⟩),.int .i64 0]) ∧ St (fun _=>False) w w' [lpA X R p]
def LpNewRel (X Q T Y R bf : Nat) (p : LpE) (s : State) (l : List Event) (v : Value) (w : World) (i : Value) (wr : World) : Prop:=
 ∃ j : Nat,j ≤ l.length ∧ i = .int .i64 j ∧ St (fun _=>False) w wr [queueA Q (sortT (l.take j)) [],sentA T [],rowA Y [(-1,s)],lpB X Q T Y R p,Blk false bf #[.int .i64 s.n0,.int .i64 s.n1,.int .i64 s.n2,.int .i64 s.n3] 141,Sl true Event.cells 7 v l]
theorem lpnew_calls (R : Nat) (id every : Int) (lazy : Bool) (s : State) (v : Value) (l : List Event) (w : World) (F : Nat → Prop) (h : (Sl true Event.cells 7 v l).at_ w F) (hn : l.length ≤ 65536) (h1 : 0 ≤ id) (h2 : id < 32) (h3 : 1 ≤ every) (hl : ∀ x ∈ l,x.dst = id ∧ 0 ≤ x.key.at_ ∧ x.key.at_ ≤ 1073741824) :
 Calls Tryz.prog 49 #[.iface 115 (.agg #[.pointer (some ⟨R,0,none⟩)]),.int .i64 id,.agg #[.int .i64 s.n0,.int .i64 s.n1,.int .i64 s.n2,.int .i64 s.n3],.int .i64 every,.bool lazy,v] w (LpNewPost R (newLp id every lazy s l) w):=by
 have S : St (fun _=>False) w w [Sl true Event.cells 7 v l]:=(St.init _ w).share (A:=Sl true Event.cells 7 v l) rfl rfl h
 clear h
 obtain ⟨ad,c,rfl,_⟩:=(S.sl 0 rfl).elim fun _ h=>h.form
 have HL:=Lib.hid hl
 have f1 : decide (id < 0) = false:=decide_eq_false (by omega)
 have f2 : decide (id ≥ 32) = false:=decide_eq_false (by omega)
 have f3 : decide (every < 1) = false:=decide_eq_false (by omega)
 clear hl h1 h2 h3
 go_enter Tryz.func49,Tryz.ntmps49
 go_upto_region 5 with first | ((with_reducible apply wps_boxa (E:=141) S);(case hx=>rfl);clear S;intro bf wz S)
 (refine wp_region_w (soft:=[1,2,3,4,6,8]) S ?hm ?hB ?_);(case hm=>kernel_rfl);(case hB=>decide +kernel);clear S
 iterate 6
  (with_reducible apply softs_cons)
  (case hw=>
    (with_reducible apply soft_of);(case hi=>rfl)
    intro T wz S
    simp only [cons_append,nil_append] at S
    go_wp2_with first | ((with_reducible apply wps_loada (T:=141) (k:=4) S 0);(case hx|hi=>rfl);(case hk=>exact nle rfl);(case hT=>decide +kernel)) | ((with_reducible refine tot_done ?ht ?_);(case ht=>kernel_rfl))
    exact ⟨rfl,S⟩)
  (case hs=>exact ⟨_,rfl,by kernel_rfl⟩)
 refine softs_nil ?_
 (with_reducible apply W_hard1 (i:=0));(case hn=>rfl);(case hr=>decide +kernel)
 intro wz S
 (with_reducible apply hard_of);(case hi=>rfl)
 simp only [cons_append,nil_append] at S
 go_wp2_with first | (go_at_call 76;refine Calls.mono (qnew_calls _) ?_;rintro rr wz ⟨Q,rfl,T⟩;replace S:=S.join T rfl;clear T;simp only [cons_append,nil_append] at S) | ((with_reducible refine tot_done ?ht ?_);(case ht=>kernel_rfl))
 refine ⟨_,S.pick [1,2,0] rfl,?_⟩
 clear S
 (with_reducible apply W_hard1 (i:=5));(case hn=>rfl);(case hr=>decide +kernel)
 intro wz S
 (with_reducible apply hard_of);(case hi=>rfl)
 simp only [cons_append,nil_append] at S
 go_wp2_with first | (go_at_call 77;refine Calls.mono (onew_calls _) ?_;rintro rr wz ⟨T0,rfl,T⟩;replace S:=S.join T rfl;clear T;simp only [cons_append,nil_append] at S) | ((with_reducible refine tot_done ?ht ?_);(case ht=>kernel_rfl))
 refine ⟨_,S.pick [1,2,3,0] rfl,?_⟩
 clear S
 (with_reducible apply W_hard1 (i:=7));(case hn=>rfl);(case hr=>decide +kernel)
 intro wz S
 (with_reducible apply hard_of);(case hi=>rfl)
 simp only [cons_append,nil_append] at S
 go_wp2_with first | (go_at_call 78;refine Calls.mono (rownew_calls s _) ?_;rintro rr wz ⟨Y,rfl,T⟩;replace S:=S.join T rfl;clear T;simp only [cons_append,nil_append] at S) | ((with_reducible refine tot_done ?ht ?_);(case ht=>kernel_rfl))
 refine ⟨_,S.pick [1,2,3,4,0] rfl,?_⟩
 clear S
 (refine W_mid (f:=2) (soft:=[9]) rfl ?hB ?_);(case hB=>decide +kernel)
 iterate 1
  (with_reducible apply softs_cons)
  (case hw=>
    (with_reducible apply soft_of);(case hi=>rfl)
    intro T wz S
    simp only [cons_append,nil_append] at S
    go_wp2_with first | ((with_reducible refine tot_done ?ht ?_);(case ht=>kernel_rfl))
    exact ⟨rfl,S⟩)
  (case hs=>exact ⟨_,rfl,by kernel_rfl⟩)
 refine softs_nil ?_
 (with_reducible apply W_hard1 (i:=10));(case hn=>rfl);(case hr=>decide +kernel)
 intro wz S
 (with_reducible apply hard_of);(case hi=>rfl)
 simp only [cons_append,nil_append] at S
 go_wp2_with first | ((with_reducible apply wps_boxa (E:=190) S);(case hx=>rfl);clear S;intro bX wz S) | ((with_reducible refine tot_done ?ht ?_);(case ht=>kernel_rfl))
 refine ⟨_,S.pick [1,2,3,4,5,0] rfl,?_⟩
 clear S
 (refine W_mid (f:=0) (soft:=[11]) rfl ?hB ?_);(case hB=>decide +kernel)
 iterate 1
  (with_reducible apply softs_cons)
  (case hw=>
    (with_reducible apply soft_of);(case hi=>rfl)
    intro T wz S
    simp only [cons_append,nil_append] at S
    go_wp2_with first | ((with_reducible refine tot_done ?ht ?_);(case ht=>kernel_rfl))
    exact ⟨rfl,S⟩)
  (case hs=>exact ⟨_,rfl,by kernel_rfl⟩)
 refine softs_nil ?_
 (with_reducible apply W_done);(case hn=>rfl);(case hr=>decide +kernel)
 intro wz S
 repeat (first | simp only at S | simp only [pick] at S | simp only [nth] at S | simp only [set_cons_succ] at S | simp only [set_cons_zero] at S | simp only [setIfInBounds_toArray] at S | simp only [setAll] at S | simp only [cons_append] at S | simp only [nil_append] at S | simp only [List.append_nil] at S)
 all_goals
  have S2:=S.pick [2,3,4,5,0,1] rfl
  clear S
  simp only [pick,nth] at S2
  have S:=S2
  clear S2
  go_wp2_with first | ((with_reducible apply wps_loada (T:=141) (k:=4) S 0);(case hx|hi=>rfl);(case hk=>exact nle rfl);(case hT=>decide +kernel))
  go_loopw [44] (fun i wr=>LpNewRel bX Q T0 Y R bf (newLp id every lazy s l) s l (.slice ad l.length c) w i wr) (fun i _=>l.length - (intOf i).toNat)
  case atStart=>exact ⟨0,Nat.zero_le _,rfl,S⟩
  case round=>
   clear S
   obtain ⟨j,hj,rfl,S⟩:=hrel
   by_cases hlt : j < l.length
   · obtain ⟨x,hx⟩ : ∃ x,l[j]? = some x:=⟨_,List.getElem?_eq_getElem hlt⟩
     obtain ⟨R5,o5,rfl⟩ : ∃ R o,ad = some ⟨R,o,none⟩:=(S.sl 5 rfl).elim fun F h=>h.head (by omega)
     have hlt2 : (j : Int) < l.length:=by omega
     have hxl:=HL.out x (List.mem_of_getElem? hx)
     have HS:=Lib.hid (sortT_stepL hx)
     have HUP:=Lib.hid (sortT_up (l.take j))
     have HLE : Hid ((sortT (l.take j)).length ≤ 65536):=Lib.hid (by rw [(sortT_perm _).length_eq,List.length_take];omega)
     generalize sortT (l.take j) = lj at *
     have HX:=Lib.hid hx
     have f4 : (x.dst == id) = true:=by simp [hxl.1]
     have HP:=Lib.hid fun w F S0=>qput_come Q lj x w F S0 HUP.out HLE.out hxl.2.1 hxl.2.2
     clear hx hxl
     go_wp2_with first | ((with_reducible apply wps_loada_el S 5 (hj:=HX.out) (q:=0) (vs:=[.int .i64 x.key.at_,.int .i64 x.key.src,.int .i64 x.key.sent,.int .i64 x.key.no,.int .i64 x.dst,.int .i64 x.kind,.int .i64 x.data]) (m:=7));(case hx|hi=>rfl);(case hn=>omega);(case hm|hv=>rfl);(case hT=>decide +kernel)) | ((with_reducible apply wps_alloca (E:=58) S);(case hz=>exact Tryz.zeroValue58);clear S;intro b16 wz S) | ((with_reducible apply wps_storea (T:=58) S 0 (vs:=[.int .i64 x.key.at_,.int .i64 x.key.src,.int .i64 x.key.sent,.int .i64 x.key.no,.int .i64 x.dst,.int .i64 x.kind,.int .i64 x.data]) (m:=7));(case hx|hy|hi|hm|h1=>rfl);(case hn=>exact nle rfl);(case hT=>decide +kernel);clear S;intro wz S;simp only [set_cons_zero,set_cons_succ,setAll,setIfInBounds_toArray] at S) | ((with_reducible apply wps_loada (T:=58) (k:=7) S 0);(case hx|hi=>rfl);(case hk=>exact nle rfl);(case hT=>decide +kernel)) | ((with_reducible apply wps_load S 0);(case hx|hi|hu=>rfl);(case hT=>decide +kernel)) | ((with_reducible apply wps_load S 4);(case hx|hi|hu=>rfl);(case hT=>decide +kernel)) | (go_at_call 79;obtain ⟨Fz,hF,hBk⟩:=S.lend [1] [] [2,3,4,5,6] rfl rfl rfl;simp only [cons_append,nil_append,pick,nth] at hF hBk;(with_reducible refine Calls.mono (HP.out _ _ hF) ?_);rintro rr wz ⟨rfl,T⟩;replace S:=hBk _ _ T rfl;clear hBk hF T;simp only [cons_append,nil_append] at S) | ((with_reducible refine tot_done ?ht ?_);(case ht=>kernel_rfl)) | ((with_reducible apply wps_text S);(case hm=>kernel_rfl);(case hB=>decide +kernel);clear S;intro wz S)
     go_roundw
     case rel=>
      refine ⟨j + 1,by omega,by go_num,?_⟩
      rw [HS.out]
      exact S.pick [0,1,2,3,4,5] rfl
     case measure=>first | (simp [intOf];done) | (simp [intOf];omega)
   · obtain rfl : j = l.length:=by omega
     rw [List.take_length] at S
     have S2:=S.pick [1,2,0,3] rfl
     simp only [pick,nth] at S2
     have S3:=lp_close (p:=newLp id every lazy s l) S2
     clear S2
     go_wp2_with first | ((with_reducible apply wps_loada (T:=141) (k:=4) S 0);(case hx|hi=>rfl);(case hk=>exact nle rfl);(case hT=>decide +kernel))
     (try simp only [Exit.inBlock,Exit.then]);refine bodyPost_ret (results2 rfl (res_tmp rfl) (res_tmp rfl)) rfl ?_
     exact ⟨bX,rfl,S3⟩
end Go.Proofs.YtmjljoaakdocaaaGreatDoor
/- The walks of slices.Collect, Sort, Sorted of a map's keys: rising. -/
namespace Go.Proofs.YtmjljoaakdocaaaGreatDoor
open Go Go.RowKit Reg Mem Go.Sort
open List (set_cons_succ set_cons_zero setIfInBounds_toArray cons_append nil_append)
def sortZ (l : List Int) : List Int:=l.mergeSort fun x y=>decide (x ≤ y)
theorem sortZ_perm (l : List Int) : (sortZ l).Perm l:=List.mergeSort_perm _ _
theorem sortZ_up (l : List Int) : (sortZ l).Pairwise (· ≤ ·):=by
 have:=List.pairwise_mergeSort (le:=fun x y : Int=>decide (x ≤ y)) (fun a b c h k=>by simp at *;omega) (fun a b=>by simp;omega) l
 exact this.imp (fun h=>by simpa using h)
theorem sortZ_of {l m : List Int} (hp : l.Perm m) : sortZ l = sortZ m:=by
 refine ((sortZ_perm l).trans (hp.trans (sortZ_perm m).symm)).eq_of_pairwise (fun a b _ _ h k=>?_) (sortZ_up l) (sortZ_up m)
 omega
theorem flat_int : ∀ l : List Int,flatE intE l = l.map fun x=>Value.int .i64 x
 | []=>rfl
 | x :: l=>by rw [flatE_cons,flat_int l];rfl
theorem sortI_calls {G : Nat → Prop} {w0 w : World} {L : List Asn} (i : Nat) {v : Value} {l : List Int} (S : St G w0 w L) (hi : L[i]? = some (Mem.Own 3 intE 1 v l)) (hn : l.length ≤ 65536) :
 Calls Tryz.prog 145 #[v] w fun e w'=>e = .returned (.tuple #[]) ∧ St G w0 w' (L.set i (Mem.Own 3 intE 1 v (sortZ l))):=by
 obtain ⟨ad,c,rfl,_⟩:=(S.ownsl intE_len i hi).elim fun _ h=>h.form
 by_cases h0 : l.length = 0
 · obtain rfl : l = []:=List.eq_nil_of_length_eq_zero h0
   refine Calls.mono (AnyG.slices_Sort_int_none (P:=Tryz.prog) (ρ:=sortI_ren) { sortI with } _ _ _) ?_
   rintro e wz ⟨rfl,rfl⟩
   refine ⟨rfl,?_⟩
   have e : L.set i (Mem.Own 3 intE 1 (.slice ad ([] : List Int).length c) (sortZ [])) = L:=by
    obtain ⟨h1,h2⟩:=List.getElem?_eq_some_iff.1 hi
    rw [show sortZ [] = [] by simp [sortZ],← h2,List.set_getElem_self]
   rw [e]
   exact S
 · obtain ⟨R,c',e⟩:=own_hdE i S hi (by omega)
   simp only [Value.slice.injEq] at e
   obtain ⟨rfl,_,rfl⟩:=e
   obtain ⟨F,hF⟩:=S.get hi
   obtain ⟨cur,hO,_⟩:=own_at hF
   have hflat:=flat_int l
   have hsz:=hO.size
   have hle:=hO.le
   have ht:=hO.take
   rw [hflat,Nat.mul_one] at ht
   have hH : Holds (Value.int .i64) w R 0 l.toArray:=fun j hj=>by
    have hj2 : j < l.length:=by simpa using hj
    have h1 : cur[j]? = some (Value.int .i64 l[j]):=by
     have:=congrArg (fun q=>q[j]?) ht
     simp only [List.getElem?_take,if_pos hj2,List.getElem?_map,List.getElem?_eq_getElem hj2,Option.map_some] at this
     simpa using this
    rw [Nat.zero_add]
    refine ⟨?_,frozen_of hO.heap _⟩
    rw [cell_of hO.heap,h1]
    simp [hj2]
   refine Calls.mono (AnyG.slices_Sort_int (P:=Tryz.prog) (ρ:=sortI_ren) { sortI with } R 0 c l w hH (Array.getElem?_eq_some_iff.1 hO.heap).1 (by omega)) ?_
   rintro e wz ⟨rfl,n,os,rfl⟩
   have hl2 : (sortZ l).length = l.length:=(sortZ_perm l).length_eq
   refine ⟨rfl,S.step hi rfl fun F hF=>⟨F,(keep_putRow os).mono (fun x _ h e=>h ((hF.2 x).2 (by simp [Value.ownBlock,e]))),⟨?_,hF.2⟩,fun _ h=>.inl h⟩⟩
   have hnew : OwnAt 3 intE 1 0 (grow (putRow (Value.int .i64) (Sort.ahead w n) R 0 (sortZ l).toArray) os) R c (putCells (Value.int .i64) 0 (sortZ l).toArray cur) (sortZ l):=by
    refine ⟨heap_putRow os hO.heap,hO.lo,by rw [hl2];exact hle,hO.max,by rw [size_putCells];exact hsz,?_⟩
    have:=putCells_take (enc:=Value.int .i64) (d:=(sortZ l).toArray) (c:=cur) (by simp;omega)
    rw [Nat.mul_one]
    have hf:=flat_int (sortZ l)
    rw [hf]
    simpa using this
   have:=hnew.own intE_len
   rw [hl2] at this
   exact this
theorem coll_calls (b M : Nat) (es : Array MapEntry) (clock : Nat) (l : List (Int × Value)) (ht : Tells Tryz.prog 3 intE es clock l) (hn : l.length ≤ 65536) (w : World) (F F2 : Nat → Prop) (h1 : (Blk true b #[.map (some M)] 133).at_ w F) (h2 : (MapE true M es clock).at_ w F2) :
 Calls Tryz.prog 144 #[.func (.func 146) #[] #[.pointer (some ⟨b,0,none⟩)]] w (CollPost l w):=by
 have S : St (fun _=>False) w w [Blk true b #[.map (some M)] 133,MapE true M es clock]:=((St.init _ w).share (A:=MapE true M es clock) rfl rfl h2).share (A:=Blk true b #[.map (some M)] 133) rfl rfl h1
 clear h1 h2
 have HA:=Lib.hid fun w F F2 h1 h2=>appseq_calls b M es clock l ht hn w F F2 h1 h2
 clear ht hn
 go_enter Tryz.func144,Tryz.ntmps144
 go_wp2_with first | (go_at_call 184;(with_reducible refine Calls.mono (HA.out _ _ _ (S.get (i:=0) rfl).choose_spec (S.get (i:=1) rfl).choose_spec) ?_);rintro rr wz ⟨ad,c,all,rfl,hall,T⟩;replace S:=S.join T rfl;clear T;simp only [cons_append,nil_append] at S)
 go_ret
 exact ⟨ad,c,all,rfl,hall,S.pick [0] rfl⟩
def SortedPost (ks : List Int) (w : World) (e : Ending) (w' : World) : Prop:=
 ∃ ad c,e = .returned (.slice ad ks.length c) ∧ St (fun _=>False) w w' [Mem.Own 3 intE 1 (.slice ad ks.length c) ks]
theorem sorted_calls (b M : Nat) (es : Array MapEntry) (clock : Nat) (l : List (Int × Value)) (ht : Tells Tryz.prog 3 intE es clock l) (hn : l.length ≤ 65536) (w : World) (F F2 : Nat → Prop) (h1 : (Blk true b #[.map (some M)] 133).at_ w F) (h2 : (MapE true M es clock).at_ w F2) :
 Calls Tryz.prog 98 #[.func (.func 146) #[] #[.pointer (some ⟨b,0,none⟩)]] w (SortedPost (sortZ (l.map (·.1))) w):=by
 have S : St (fun _=>False) w w [Blk true b #[.map (some M)] 133,MapE true M es clock]:=((St.init _ w).share (A:=MapE true M es clock) rfl rfl h2).share (A:=Blk true b #[.map (some M)] 133) rfl rfl h1
 clear h1 h2
 have HA:=Lib.hid fun w F F2 h1 h2=>coll_calls b M es clock l ht hn w F F2 h1 h2
 have HN:=Lib.hid hn
 clear ht hn
 go_enter Tryz.func98,Tryz.ntmps98
 go_upto_region 2 with first | (go_at_call 144;(with_reducible refine Calls.mono (HA.out _ _ _ (S.get (i:=0) rfl).choose_spec (S.get (i:=1) rfl).choose_spec) ?_);rintro rr wz ⟨ad,c,all,rfl,hall,T⟩;replace S:=S.join T rfl;clear T;simp only [cons_append,nil_append] at S;have HLL : Hid (all.length = l.length):=Lib.hid (by have:=hall.length_eq;simpa using this);have HS:=Lib.hid (sortZ_of hall);clear hall)
 have HN2 : Hid (all.length ≤ 65536):=Lib.hid (by rw [HLL.out];exact HN.out)
 have HZL : Hid ((sortZ (l.map (·.1))).length = l.length):=Lib.hid (by rw [(sortZ_perm _).length_eq,List.length_map])
 go_wp2_with first | (go_at_call 145;(with_reducible refine Calls.mono (sortI_calls 0 S rfl HN2.out) ?_);clear S;rintro rr wz ⟨rfl,S⟩;simp only [set_cons_zero] at S;rw [HS.out] at S)
 go_ret
 refine ⟨ad,c,by rw [HZL.out];rfl,?_⟩
 rw [HZL.out]
 exact S.pick [0] rfl
end Go.Proofs.YtmjljoaakdocaaaGreatDoor
/- A worker as a thing; the walks of Home and NewWorker. -/
namespace Go.Proofs.YtmjljoaakdocaaaGreatDoor
open Go Go.RowKit Reg Mem
open List (set_cons_succ set_cons_zero setIfInBounds_toArray cons_append nil_append)
structure WkE where
 no : Int
 opn : List (Int × Int)
 low : Int
 ps : List (Int × LpE)
def iiV (l : List (Int × Int)) : List (Int × Value):=l.map fun p=>(p.1,Value.int .i64 p.2)
def gvtA (X : Nat) (no : Int) (opn : List (Int × Int)) (low : Int) : Asn:=exs false fun M : Nat=>
 sep false (Blk false X #[.int .i64 no,.map (some M),.int .i64 low] 180) (MapK false Tryz.prog 3 intE M (iiV opn))
structure LpAt where
 id : Int
 x : Nat
 p : LpE
def LpAt.kv (q : LpAt) : Int × Value:=(q.id,.pointer (some ⟨q.x,0,none⟩))
def LpAt.e (q : LpAt) : Int × LpE:=(q.id,q.p)
def workerB (W R : Nat) (k : WkE) (q : Nat × Nat × List LpAt) : Asn:=
 sep false (pur (q.2.2.map LpAt.e = k.ps)) (sep false (Blk false W #[.pointer (some ⟨q.1,0,none⟩),.map (some q.2.1)] 135)
  (sep false (gvtA q.1 k.no k.opn k.low) (sep false (MapK false Tryz.prog 3 intE q.2.1 (q.2.2.map LpAt.kv)) (stars (q.2.2.map fun q=>lpA q.x R q.p)))))
def workerA (W R : Nat) (k : WkE) : Asn:=exs false (workerB W R k)
theorem worker_open {G : Nat → Prop} {w0 w : World} {L : List Asn} {W R : Nat} {k : WkE} (S : St G w0 w (workerA W R k :: L)) :
 ∃ (g M : Nat) (qs : List LpAt),qs.map LpAt.e = k.ps ∧ St G w0 w (MapK false Tryz.prog 3 intE M (qs.map LpAt.kv) :: stars (qs.map fun q=>lpA q.x R q.p) :: gvtA g k.no k.opn k.low :: Blk false W #[.pointer (some ⟨g,0,none⟩),.map (some M)] 135 :: L):=by
 obtain ⟨⟨g,M,qs⟩,S⟩:=S.open_exs (fun _=>rfl)
 obtain ⟨h1,S⟩:=(S.open_sep rfl rfl).open_pur
 exact ⟨g,M,qs,h1,((S.open_sep rfl rfl).swap2.open_sep rfl rfl).swap2.open_sep rfl (stars_sh _)⟩
theorem worker_close {G : Nat → Prop} {w0 w : World} {L : List Asn} {W R g M : Nat} {k : WkE} {qs : List LpAt} (h1 : qs.map LpAt.e = k.ps)
 (S : St G w0 w (MapK false Tryz.prog 3 intE M (qs.map LpAt.kv) :: stars (qs.map fun q=>lpA q.x R q.p) :: gvtA g k.no k.opn k.low :: Blk false W #[.pointer (some ⟨g,0,none⟩),.map (some M)] 135 :: L)) : St G w0 w (workerA W R k :: L):=
by
 have S1:=(S.close_sep rfl (stars_sh _)).swap2.close_sep rfl rfl
 have S2:=(S1.swap2.close_sep rfl rfl).close_pur h1
 have S3 : St G w0 w (workerB W R k (g,M,qs) :: L):=S2.close_sep rfl rfl
 exact S3.close_exs (A:=workerB W R k) (g,M,qs) rfl
def homeOf (lp workers : Int) : Int:=if workers < 1 ∨ lp < 0 then 0 else lp % workers
theorem home_calls (a b : Int) (ha : -9223372036854775808 ≤ a) (ha2 : a ≤ 9223372036854775807) (w : World) : Calls Tryz.prog 48 #[.int .i64 a,.int .i64 b] w fun e w'=>e = .returned (.int .i64 (homeOf a b)) ∧ Below w.heap.size w w':=by
 have S:=St.init (fun _=>False) w
 by_cases h1 : b < 1
 · have e : homeOf a b = 0:=by unfold homeOf;rw [if_pos (.inl h1)]
   rw [e]
   have f1 : decide (b < 1) = true:=decide_eq_true h1
   clear h1 e
   go_enter Tryz.func48,Tryz.ntmps48
   go_wp2_with first | ((with_reducible refine tot_done ?ht ?_);(case ht=>kernel_rfl))
   go_ret
   exact ⟨rfl,S.below⟩
 · have f1 : decide (b < 1) = false:=decide_eq_false h1
   by_cases h2 : a < 0
   · have e : homeOf a b = 0:=by unfold homeOf;rw [if_pos (.inr h2)]
     rw [e]
     have f2 : decide (a < 0) = true:=decide_eq_true h2
     clear h1 h2 e
     go_enter Tryz.func48,Tryz.ntmps48
     go_wp2_with first | ((with_reducible refine tot_done ?ht ?_);(case ht=>kernel_rfl))
     go_ret
     exact ⟨rfl,S.below⟩
   · have f2 : decide (a < 0) = false:=decide_eq_false h2
     have e : homeOf a b = a % b:=by unfold homeOf;rw [if_neg (by omega)]
     rw [e]
     have hb0 : b ≠ 0:=by omega
     have h3 : 1 ≤ b:=by omega
     clear h1 e
     go_enter Tryz.func48,Tryz.ntmps48
     go_wp2_with first | ((with_reducible refine tot_done ?ht ?_);(case ht=>kernel_rfl))
     go_ret
     exact ⟨rfl,S.below⟩
theorem gnew_calls (w : World) : Calls Tryz.prog 47 #[] w fun e w'=>∃ X,e = .returned (.pointer (some ⟨X,0,none⟩)) ∧ St (fun _=>False) w w' [gvtA X 0 [] 1073741825]:=by
 have S:=St.init (fun _=>False) w
 go_enter Tryz.func47,Tryz.ntmps47
 go_wp2_with first | ((with_reducible apply wps_makeMapK (P:=Tryz.prog) (K:=3) S intE);clear S;intro M wz S) | ((with_reducible apply wps_boxa (E:=180) S);(case hx=>rfl);clear S;intro bX wz S)
 go_ret
 have S2:=(S.close_sep (by rfl) (by rfl)).close_exs (A:=fun M : Nat=>sep false (Blk false bX #[.int .i64 0,.map (some M),.int .i64 1073741825] 180) (MapK false Tryz.prog 3 intE M (iiV []))) M rfl
 exact ⟨_,rfl,S2⟩
end Go.Proofs.YtmjljoaakdocaaaGreatDoor
