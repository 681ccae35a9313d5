import Derived.Test.YtmjljoaakdocaaaGreatDoorY22
import Derived.Test.YtmjljoaakdocaaaGreatDoorY07
import Derived.Test.YtmjljoaakdocaaaGreatDoorY13
import Derived.Test.YtmjljoaakdocaaaGreatDoorY14
import Derived.Test.YtmjljoaakdocaaaGreatDoorY24
import Derived.Test.YtmjljoaakdocaaaGreatDoorY29
/- The walks of a worker's Local and Counts. -/
set_option maxHeartbeats 16000000
set_option maxRecDepth 100000
namespace Go.Proofs.YtmjljoaakdocaaaGreatDoor
open Go Go.RowKit Reg Mem
open List (set_cons_succ set_cons_zero setIfInBounds_toArray cons_append nil_append)
structure WkFine (k : WkE) : Prop where
 up : (k.ps.map (·.1)).Pairwise (· < ·)
 many : k.ps.length ≤ 32
 ok : ∀ q ∈ k.ps,LpOk q.2
theorem wk_at {R : Nat} {k : WkE} {qs : List LpAt} (hq : qs.map LpAt.e = k.ps) (hu : (k.ps.map (·.1)).Nodup) {j : Nat} {p : Int × LpE} (hp : k.ps[j]? = some p) :
 ∃ x,(qs.map fun q=>lpA q.x R q.p)[j]? = some (lpA x R p.2) ∧ (lookK (qs.map LpAt.kv) p.1).getD (.pointer none) = .pointer (some ⟨x,0,none⟩):=by
 obtain ⟨q,hqj,hqe⟩ : ∃ q,qs[j]? = some q ∧ q.e = p:=by
  rw [← hq,List.getElem?_map] at hp
  exact Option.map_eq_some_iff.1 hp
 refine ⟨q.x,by rw [List.getElem?_map,hqj,← hqe];rfl,?_⟩
 rw [lookK_at (n:=j) (v:=.pointer (some ⟨q.x,0,none⟩))]
 · rfl
 · have e1 : (qs.map LpAt.kv).map (·.1) = k.ps.map (·.1):=by rw [← hq,List.map_map,List.map_map];rfl
   rw [e1];exact hu
 · rw [List.getElem?_map,hqj,← hqe];rfl
def localE (k : WkE) : List Int:=k.ps.map fun q=>lpLeast q.2
def WlRel (W R g M : Nat) (k : WkE) (qs : List LpAt) (v : Value) (w : World) (l i : Value) (wr : World) : Prop:=
 ∃ (j : Nat) (lo : List Int),j ≤ k.ps.length ∧ lo.length ≤ 32 ∧ i = .int .i64 j ∧ Hid (lo = (k.ps.take j).map fun q=>lpLeast q.2) ∧
  St (fun _=>False) w wr (Mem.Own 3 intE 1 l lo :: Sl true intE 1 v (k.ps.map (·.1)) :: wrd W R g M k qs)
def IntsPost (l : List Int) (w : World) (e : Ending) (w' : World) : Prop:=
 ∃ v,e = .returned v ∧ St (fun _=>False) w w' [Mem.Own 3 intE 1 v l]
theorem wlocal_calls (W R : Nat) (k : WkE) (hk : WkFine k) (w : World) (F : Nat → Prop) (h : (workerA W R k).at_ w F) :
 Calls Tryz.prog 31 #[.pointer (some ⟨W,0,none⟩)] w (IntsPost (localE k) w):=by
 obtain ⟨g,M,qs,hq,S⟩:=workerR_all h
 clear h
 have HL:=Lib.hid fun w F h=>wlps_calls W R k (by have:=hk.many;omega) w F h
 rw [sortZ_self hk.up] at HL
 have HK:=Lib.hid hk
 have HQ:=Lib.hid hq
 have HLEN : Hid ((k.ps.map (·.1)).length = k.ps.length):=Lib.hid (List.length_map ..)
 have hkl : k.ps.length ≤ 32:=hk.many
 clear hk hq
 go_enter Tryz.func31,Tryz.ntmps31
 go_wp2_with first | (go_at_call 57;(with_reducible refine Calls.mono (HL.out _ _ (rd_at (S.get (i:=0) rfl)).choose_spec) ?_);rintro rr wz ⟨ad,c,rfl,T⟩;rw [HLEN.out] at T;rw [HLEN.out];replace S:=S.join T rfl;clear T;simp only [cons_append,nil_append] at S)
 replace S:=S.freeze true 0 intE_len rfl
 simp only [set_cons_zero] at S
 replace S:=S.nil 3 intE 1
 go_loopw [3,9] (fun l i wr=>WlRel W R g M k qs (.slice ad k.ps.length c) w l i wr) (fun _ i _=>k.ps.length - (intOf i).toNat)
 case atStart=>exact ⟨0,[],Nat.zero_le _,by simp,rfl,Lib.hid rfl,S⟩
 case round=>
  clear S
  obtain ⟨j,lo,hj,hlo,rfl,HLO,S⟩:=hrel
  obtain ⟨ao,co,rfl,_⟩:=(S.ownsl intE_len 0 rfl).elim fun _ h=>h.form
  by_cases hlt : j < k.ps.length
  · obtain ⟨p,hp⟩ : ∃ p,k.ps[j]? = some p:=⟨_,List.getElem?_eq_getElem hlt⟩
    obtain ⟨Rb,o,rfl⟩ : ∃ R o,ad = some ⟨R,o,none⟩:=(S.sl 1 rfl).elim fun F h=>h.head (by rw [HLEN.out];omega)
    have hlt2 : (j : Int) < k.ps.length:=by omega
    have HPI : Hid ((k.ps.map (·.1))[j]? = some p.1):=Lib.hid (by rw [List.getElem?_map,hp];rfl)
    obtain ⟨x,hx1,hx2⟩:=wk_at (R:=R) HQ.out (up_nodup HK.out.up) hp
    have HQI:=Lib.hid hx1
    have HLK:=Lib.hid hx2
    have HN:=Lib.hid fun w F h=>lpleast_calls x R p.2 (HK.out.ok p (List.mem_of_getElem? hp)) w F h
    have HLO2 : Hid (lo ++ [lpLeast p.2] = (k.ps.take (j + 1)).map fun q=>lpLeast q.2):=Lib.hid (by rw [take_snocL hp,List.map_append,← HLO.out];rfl)
    have hll : lo.length < 32:=by have:=congrArg List.length HLO.out;rw [List.length_map,List.length_take] at this;omega
    clear hp hx1 hx2
    unfold wrd at S
    go_wp2_with first | ((with_reducible apply wps_load_el S 1 (hj:=HPI.out) (q:=0) (u:=(.int .i64 p.1)));(case hx|hi=>rfl);(case hn=>omega);(case hu=>rfl);(case hT=>decide +kernel)) | ((with_reducible apply wps_load S 3);(case hx|hi|hu=>rfl);(case hT=>decide +kernel)) | ((with_reducible apply wps_lookupK keyedI Tryz.underlying133 Tryz.zeroValue137 S 4 rfl p.1 (v:=.pointer (some ⟨x,0,none⟩)));(case hx=>rfl);(case hy=>exact (wholeI _).symm);(case hv=>exact HLK.out)) | (go_at_call 58;refine Calls.mono (HN.out _ _ (star_get (S.get (i:=5) rfl) HQI.out).choose_spec) ?_;rintro e wz ⟨rfl,hE⟩;replace S:=S.ext (Keep.of_below hE);clear hE) | ((with_reducible apply wps_build11 (T:=92) (E:=3) S);(case hx=>rfl);(case hr=>intro w;kernel_rfl);clear S;intro bz wz S) | ((with_reducible apply wps_append1 elem_Int intE_len intE_one (by decide) S 1 (j:=0) (e:=(lpLeast p.2)));(case hx|hy|hi|hj|he=>rfl);(case hl=>first | omega | (simp;omega));clear S;intro az nz cz wz hnz S;simp only [set_cons_succ,set_cons_zero] at S)
    replace S:=S.pick [1,2,3,4,5,6] rfl
    simp only [pick,nth] at S
    go_roundw
    case rel=>exact ⟨j + 1,_,by omega,by rw [List.length_append];exact hll,by go_num,HLO2,S⟩
    case measure=>first | (simp [intOf];done) | (simp [intOf];omega)
  · obtain rfl : j = k.ps.length:=by omega
    rw [List.take_length] at HLO
    unfold wrd at S
    go_wp2_with first | ((with_reducible apply wps_load S 0);(case hx|hi|hu=>rfl);(case hT=>decide +kernel))
    go_ret
    exact ⟨_,rfl,by rw [show localE k = lo from HLO.out.symm];exact S.pick [0] rfl⟩
def sumN (f : LpE → Nat) (l : List (Int × LpE)) : Nat:=(l.map fun q=>f q.2).sum
theorem sumN_snoc (f : LpE → Nat) {l : List (Int × LpE)} {j : Nat} {p : Int × LpE} (h : l[j]? = some p) : sumN f (l.take (j + 1)) = sumN f (l.take j) + f p.2:=by
 unfold sumN
 rw [take_snocL h,List.map_append,List.sum_append];simp
def evN (p : LpE) : Nat:=p.evs.length
def anN (p : LpE) : Nat:=p.ans.length
def rcN (p : LpE) : Nat:=p.recs.length
def svN (p : LpE) : Nat:=p.svs.length
def countsV (k : WkE) : Value:=.agg #[.int .i64 (sumN evN k.ps),.int .i64 (sumN anN k.ps),.int .i64 (sumN rcN k.ps),.int .i64 (sumN svN k.ps),.int .i64 0]
def WcRel (b2 b3 W R g M : Nat) (k : WkE) (qs : List LpAt) (v : Value) (w : World) (i : Value) (wr : World) : Prop:=
 ∃ (j a b c d : Nat),j ≤ k.ps.length ∧ a ≤ j * 65536 ∧ b ≤ j * 65536 ∧ c ≤ j * 65536 ∧ d ≤ j * 65536 ∧ i = .int .i64 j ∧ Hid (a = sumN evN (k.ps.take j)) ∧ Hid (b = sumN anN (k.ps.take j)) ∧ Hid (c = sumN rcN (k.ps.take j)) ∧ Hid (d = sumN svN (k.ps.take j)) ∧
  St (fun _=>False) w wr (Sl true intE 1 v (k.ps.map (·.1)) :: Blk false b3 #[.int .i64 a,.int .i64 b,.int .i64 c,.int .i64 d,.int .i64 0] 35 :: Blk false b2 #[.int .i64 0,.int .i64 0,.int .i64 0,.int .i64 0,.int .i64 0] 35 :: wrd W R g M k qs)
theorem wcounts_calls (W R : Nat) (k : WkE) (hk : WkFine k) (w : World) (F : Nat → Prop) (h : (workerA W R k).at_ w F) :
 Calls Tryz.prog 35 #[.pointer (some ⟨W,0,none⟩)] w fun e w'=>e = .returned (countsV k) ∧ Below w.heap.size w w':=by
 obtain ⟨g,M,qs,hq,S⟩:=workerR_all h
 clear h
 have HL:=Lib.hid fun w F h=>wlps_calls W R k (by have:=hk.many;omega) w F h
 rw [sortZ_self hk.up] at HL
 have HK:=Lib.hid hk
 have HQ:=Lib.hid hq
 have HLEN : Hid ((k.ps.map (·.1)).length = k.ps.length):=Lib.hid (List.length_map ..)
 have hkl : k.ps.length ≤ 32:=hk.many
 clear hk hq
 go_enter Tryz.func35,Tryz.ntmps35
 go_wp2_with first | ((with_reducible apply wps_alloca (E:=35) S);(case hz=>exact Tryz.zeroValue35);clear S;first | (guard_hyp b2 : Nat;intro b3 wz S) | intro b2 wz S) | (go_at_call 57;(with_reducible refine Calls.mono (HL.out _ _ (rd_at (S.get (i:=2) rfl)).choose_spec) ?_);rintro rr wz ⟨ad,c,rfl,T⟩;rw [HLEN.out] at T;rw [HLEN.out];replace S:=S.join T rfl;clear T;simp only [cons_append,nil_append] at S)
 replace S:=S.freeze true 0 intE_len rfl
 simp only [set_cons_zero] at S
 go_loopw [10] (fun i wr=>WcRel b2 b3 W R g M k qs (.slice ad k.ps.length c) w i wr) (fun i _=>k.ps.length - (intOf i).toNat)
 case atStart=>exact ⟨0,0,0,0,0,Nat.zero_le _,Nat.zero_le _,Nat.zero_le _,Nat.zero_le _,Nat.zero_le _,rfl,Lib.hid rfl,Lib.hid rfl,Lib.hid rfl,Lib.hid rfl,S⟩
 case round=>
  clear S
  obtain ⟨j,n1,n2,n3,n4,hj,h1,h2,h3,h4,rfl,H1,H2,H3,H4,S⟩:=hrel
  by_cases hlt : j < k.ps.length
  · obtain ⟨p,hp⟩ : ∃ p,k.ps[j]? = some p:=⟨_,List.getElem?_eq_getElem hlt⟩
    obtain ⟨Rb,o,rfl⟩ : ∃ R o,ad = some ⟨R,o,none⟩:=(S.sl 0 rfl).elim fun F h=>h.head (by rw [HLEN.out];omega)
    have hlt2 : (j : Int) < k.ps.length:=by omega
    have HPI : Hid ((k.ps.map (·.1))[j]? = some p.1):=Lib.hid (by rw [List.getElem?_map,hp];rfl)
    obtain ⟨x,hx1,hx2⟩:=wk_at (R:=R) HQ.out (up_nodup HK.out.up) hp
    have HQI:=Lib.hid hx1
    have HLK:=Lib.hid hx2
    have hpk:=HK.out.ok p (List.mem_of_getElem? hp)
    have HN:=Lib.hid fun w F h=>lpcount_calls x R p.2 hpk w F h
    have g1:=hpk.evs
    have g2:=hpk.ans
    have g3:=hpk.recs
    have g4:=hpk.svs
    have g5:=sureN_le p.2.recs
    have H1' : Hid (n1 + p.2.evs.length = sumN evN (k.ps.take (j + 1))):=Lib.hid (by rw [sumN_snoc evN hp,← H1.out];rfl)
    have H2' : Hid (n2 + p.2.ans.length = sumN anN (k.ps.take (j + 1))):=Lib.hid (by rw [sumN_snoc anN hp,← H2.out];rfl)
    have H3' : Hid (n3 + p.2.recs.length = sumN rcN (k.ps.take (j + 1))):=Lib.hid (by rw [sumN_snoc rcN hp,← H3.out];rfl)
    have H4' : Hid (n4 + p.2.svs.length = sumN svN (k.ps.take (j + 1))):=Lib.hid (by rw [sumN_snoc svN hp,← H4.out];rfl)
    unfold lpCountV at HN
    clear hp hx1 hx2 hpk
    unfold wrd at S
    generalize p.2.evs.length = e1 at *
    generalize p.2.ans.length = e2 at *
    generalize p.2.recs.length = e3 at *
    generalize p.2.svs.length = e4 at *
    generalize sureN p.2.recs = e5 at *
    go_wp2_with first | ((with_reducible apply wps_load_el S 0 (hj:=HPI.out) (q:=0) (u:=(.int .i64 p.1)));(case hx|hi=>rfl);(case hn=>omega);(case hu=>rfl);(case hT=>decide +kernel)) | ((with_reducible apply wps_load S 4);(case hx|hi|hu=>rfl);(case hT=>decide +kernel)) | ((with_reducible apply wps_lookupK keyedI Tryz.underlying133 Tryz.zeroValue137 S 5 rfl p.1 (v:=.pointer (some ⟨x,0,none⟩)));(case hx=>rfl);(case hy=>exact (wholeI _).symm);(case hv=>exact HLK.out)) | (go_at_call 62;refine Calls.mono (HN.out _ _ (star_get (S.get (i:=6) rfl) HQI.out).choose_spec) ?_;rintro e wz ⟨rfl,hE⟩;replace S:=S.ext (Keep.of_below hE);clear hE) | ((with_reducible apply wps_alloca (E:=154) S);(case hz=>exact Tryz.zeroValue154);clear S;intro b6 wz S) | ((with_reducible apply wps_storea (T:=154) S 0 (vs:=[.int .i64 e1,.int .i64 e2,.int .i64 e5,.int .i64 (e3 - e5 : Nat),.int .i64 e4,.int .i64 p.2.steps,.int .i64 p.2.coasted]) (m:=7));(case hx|hy|hi|hm|h1=>rfl);(case hn=>exact nle rfl);(case hT=>decide +kernel);clear S;intro wz S;simp only [set_cons_zero,set_cons_succ,setAll,setIfInBounds_toArray] at S) | ((with_reducible apply wps_load S 0);(case hx|hi|hu=>rfl);(case hT=>decide +kernel)) | ((with_reducible apply wps_load S 2);(case hx|hi|hu=>rfl);(case hT=>decide +kernel)) | ((with_reducible apply wps_store (u:=(.int .i64 ((n1 : Int) + e1))) S 2);(case hx|hy|hi|h1=>rfl);(case hn=>exact nle rfl);(case hT=>decide +kernel);clear S;intro wz S;simp only [set_cons_succ,set_cons_zero,setIfInBounds_toArray] at S) | ((with_reducible apply wps_store (u:=(.int .i64 ((n2 : Int) + e2))) S 2);(case hx|hy|hi|h1=>rfl);(case hn=>exact nle rfl);(case hT=>decide +kernel);clear S;intro wz S;simp only [set_cons_succ,set_cons_zero,setIfInBounds_toArray] at S) | ((with_reducible apply wps_store (u:=(.int .i64 ((n3 : Int) + ((e5 : Int) + (e3 - e5 : Nat))))) S 2);(case hx|hy|hi|h1=>rfl);(case hn=>exact nle rfl);(case hT=>decide +kernel);clear S;intro wz S;simp only [set_cons_succ,set_cons_zero,setIfInBounds_toArray] at S) | ((with_reducible apply wps_store (u:=(.int .i64 ((n4 : Int) + e4))) S 2);(case hx|hy|hi|h1=>rfl);(case hn=>exact nle rfl);(case hT=>decide +kernel);clear S;intro wz S;simp only [set_cons_succ,set_cons_zero,setIfInBounds_toArray] at S)
    replace S:=S.pick [1,2,3,4,5,6,7] rfl
    simp only [pick,nth] at S
    rw [show (n1 : Int) + e1 = ((n1 + e1 : Nat) : Int) by omega,show (n2 : Int) + e2 = ((n2 + e2 : Nat) : Int) by omega,show (n3 : Int) + ((e5 : Int) + (e3 - e5 : Nat)) = ((n3 + e3 : Nat) : Int) by omega,show (n4 : Int) + e4 = ((n4 + e4 : Nat) : Int) by omega] at S
    go_roundw
    case rel=>exact ⟨j + 1,_,_,_,_,by omega,by omega,by omega,by omega,by omega,by go_num,H1',H2',H3',H4',S⟩
    case measure=>first | (simp [intOf];done) | (simp [intOf];omega)
  · obtain rfl : j = k.ps.length:=by omega
    rw [List.take_length] at H1 H2 H3 H4
    unfold wrd at S
    go_wp2_with first | ((with_reducible apply wps_loada (T:=35) (k:=5) S 1);(case hx|hi=>rfl);(case hk=>exact nle rfl);(case hT=>decide +kernel)) | ((with_reducible apply wps_storea (T:=35) S 2 (vs:=[.int .i64 n1,.int .i64 n2,.int .i64 n3,.int .i64 n4,.int .i64 0]) (m:=5));(case hx|hy|hi|hm|h1=>rfl);(case hn=>exact nle rfl);(case hT=>decide +kernel);clear S;intro wz S;simp only [set_cons_zero,set_cons_succ,setAll,setIfInBounds_toArray] at S)
    (try simp only [Exit.inBlock,Exit.then]);refine bodyPost_ret (results1 rfl (S.resA 2 rfl rfl (by kernel_rfl))) rfl ?_
    exact ⟨by unfold countsV;rw [← H1.out,← H2.out,← H3.out,← H4.out],S.below⟩
end Go.Proofs.YtmjljoaakdocaaaGreatDoor
/- A kernel as a thing; the walk of its Counts. -/
namespace Go.Proofs.YtmjljoaakdocaaaGreatDoor
open Go Go.RowKit Reg Mem
open List (set_cons_succ set_cons_zero setIfInBounds_toArray cons_append nil_append)
def wpE (b : Nat) : List Value:=[.pointer (some ⟨b,0,none⟩)]
theorem wpElen : ∀ x,(wpE x).length = 1:=fun _=>rfl
theorem wpEone : ∀ x,∀ u ∈ wpE x,u.oneCell' = true:=fun _=>by simp [wpE,Value.oneCell']
theorem elem_Wp : Elem Tryz.prog 60 76 1 8:=⟨_,.pointer none,Tryz.underlying60,rfl,by kernel_rfl,by kernel_rfl,by kernel_rfl,by kernel_rfl,by omega⟩
structure KeE where
 log : LogE
 ws : List WkE
 net : NetE
 ma : MaE
 bu : BuE
 window : Int
 fan : Int
 over : Bool
structure WkAt where
 x : Nat
 k : WkE
structure KeAt where
 lg : Nat
 nt : Nat
 ma : Nat
 bu : Nat
 v : Value
 ws : List WkAt
def kernelBlk (sh : Bool) (X : Nat) (k : KeE) (q : KeAt) : Asn:=Blk sh X #[.pointer (some ⟨q.lg,0,none⟩),q.v,.pointer (some ⟨q.nt,0,none⟩),.pointer (some ⟨q.ma,0,none⟩),.pointer (some ⟨q.bu,0,none⟩),.int .i64 k.window,.int .i64 k.fan,.bool k.over] 65
def kernelB (X R : Nat) (k : KeE) (q : KeAt) : Asn:=
 sep false (pur (q.ws.map WkAt.k = k.ws)) (sep false (kernelBlk false X k q) (sep false (Mem.Own 76 wpE 1 q.v (q.ws.map WkAt.x)) (sep false (stars (q.ws.map fun p : WkAt=>workerA p.x R p.k)) (sep false (netA q.nt k.net) (sep false (masterA q.ma k.ma) (sep false (budgetA q.bu k.bu) (logA q.lg R k.log)))))))
def kernelA (X R : Nat) (k : KeE) : Asn:=exs false (kernelB X R k)
theorem kernel_open {G : Nat → Prop} {w0 w : World} {L : List Asn} {X R : Nat} {k : KeE} (S : St G w0 w (kernelA X R k :: L)) :
 ∃ q : KeAt,q.ws.map WkAt.k = k.ws ∧ St G w0 w (budgetA q.bu k.bu :: logA q.lg R k.log :: masterA q.ma k.ma :: netA q.nt k.net :: stars (q.ws.map fun p : WkAt=>workerA p.x R p.k) :: Mem.Own 76 wpE 1 q.v (q.ws.map WkAt.x) :: kernelBlk false X k q :: L):=by
 obtain ⟨q,S⟩:=S.open_exs (fun _=>rfl)
 obtain ⟨h1,S⟩:=(S.open_sep rfl rfl).open_pur
 exact ⟨q,h1,(((((S.open_sep rfl rfl).swap2.open_sep rfl rfl).swap2.open_sep (stars_sh _) rfl).swap2.open_sep rfl rfl).swap2.open_sep rfl rfl).swap2.open_sep rfl rfl⟩
theorem kernel_close {G : Nat → Prop} {w0 w : World} {L : List Asn} {X R : Nat} {k : KeE} {q : KeAt} (h1 : q.ws.map WkAt.k = k.ws)
 (S : St G w0 w (budgetA q.bu k.bu :: logA q.lg R k.log :: masterA q.ma k.ma :: netA q.nt k.net :: stars (q.ws.map fun p : WkAt=>workerA p.x R p.k) :: Mem.Own 76 wpE 1 q.v (q.ws.map WkAt.x) :: kernelBlk false X k q :: L)) : St G w0 w (kernelA X R k :: L):=by
 have S1:=((((((S.close_sep rfl rfl).swap2.close_sep rfl rfl).swap2.close_sep rfl rfl).swap2.close_sep (stars_sh _) rfl).swap2.close_sep rfl rfl).swap2.close_sep rfl rfl).close_pur h1
 have S2 : St G w0 w (kernelB X R k q :: L):=S1.close_sep rfl rfl
 exact S2.close_exs (A:=kernelB X R k) q rfl
theorem kernelR {X R : Nat} {k : KeE} {w : World} {F : Nat → Prop} (h : (kernelA X R k).at_ w F) :
 ∃ (q : KeAt) (vn : Value),q.ws.map WkAt.k = k.ws ∧ St (fun _=>False) w w [kernelBlk true X k q,Sl true wpE 1 q.v (q.ws.map WkAt.x),rd (stars (q.ws.map fun p : WkAt=>workerA p.x R p.k)),Blk true q.nt #[.int .i64 k.net.boxes,.int .i64 k.net.next,vn] 147,Sl true pkcell 14 vn k.net.way,rd (masterA q.ma k.ma),rd (logA q.lg R k.log)]:=by
 obtain ⟨q,_,_,⟨h1,_⟩,⟨_,_,h3,⟨_,_,h4,⟨_,F5,h5,⟨_,_,⟨vn,_,_,n1,n2,_,_⟩,⟨_,_,h7,⟨_,_,h8,h9,_,_⟩,_,_⟩,_,_⟩,_,_⟩,_,_⟩,_,_⟩,_,_⟩:=h
 refine ⟨q,vn,h1,?_⟩
 have S1 : St (fun _=>False) w w [rd (logA q.lg R k.log)]:=(St.init _ w).share rfl rfl h9
 have S2:=S1.share (A:=rd (masterA q.ma k.ma)) rfl rfl h7
 have S3:=S2.share (A:=Sl true pkcell 14 vn k.net.way) rfl rfl (own_sl (sh:=true) pkcells n2)
 have S4:=S3.share (A:=Blk true q.nt #[.int .i64 k.net.boxes,.int .i64 k.net.next,vn] 147) rfl rfl n1
 have S5:=S4.share (A:=rd (stars (q.ws.map fun p : WkAt=>workerA p.x R p.k))) rfl rfl h5
 have S6:=S5.share (A:=Sl true wpE 1 q.v (q.ws.map WkAt.x)) rfl rfl (own_sl (sh:=true) wpElen h4)
 exact S6.share (A:=kernelBlk true X k q) rfl rfl h3
structure KeOk (k : KeE) : Prop where
 many : k.ws.length ≤ 8
 ok : ∀ w ∈ k.ws,WkFine w
 way : k.net.way.length ≤ 1000000
def mailB (x : PkE) : Bool:=x.x.kind == 0 || x.x.kind == 1
def mailN (l : List PkE) : Nat:=l.countP mailB
def cntW (k : WkE) : CntE:=⟨(sumN evN k.ps : Nat),(sumN anN k.ps : Nat),(sumN rcN k.ps : Nat),(sumN svN k.ps : Nat),0⟩
def cntK (k : KeE) : CntE:=(k.ws.map cntW).foldl CntE.plus ⟨0,0,0,0,(mailN k.net.way : Nat)⟩
theorem sumN_le (f : LpE → Nat) (m : Nat) : ∀ l : List (Int × LpE),(∀ q ∈ l,f q.2 ≤ m) → sumN f l ≤ l.length * m
 | [],_=>by simp [sumN]
 | a :: l,h=>by
   have:=sumN_le f m l fun q hq=>h q (List.mem_cons_of_mem _ hq)
   have:=h a (by simp)
   unfold sumN at *
   simp only [List.map_cons,List.sum_cons,List.length_cons,Nat.add_mul]
   omega
theorem cntW_ok {k : WkE} (h : WkFine k) : CntOk 1099511627776 (cntW k):=by
 have hm:=h.many
 have a:=sumN_le evN 65536 k.ps fun q hq=>(h.ok q hq).evs
 have b:=sumN_le anN 65536 k.ps fun q hq=>(h.ok q hq).ans
 have c:=sumN_le rcN 65536 k.ps fun q hq=>(h.ok q hq).recs
 have d:=sumN_le svN 65536 k.ps fun q hq=>(h.ok q hq).svs
 have e : k.ps.length * 65536 ≤ 32 * 65536:=Nat.mul_le_mul_right _ hm
 constructor <;> simp only [cntW] <;> omega
theorem mailN_snoc {l : List PkE} {j : Nat} {x : PkE} (h : l[j]? = some x) : mailN (l.take (j + 1)) = mailN (l.take j) + (if mailB x = true then 1 else 0):=by
 unfold mailN
 rw [List.take_add_one,h,Option.toList_some,List.countP_append]
 by_cases e : mailB x = true
 · rw [if_pos e];simp [e]
 · rw [if_neg e];simp [e]
def krd (X R : Nat) (k : KeE) (q : KeAt) (vn : Value) : List Asn:=[kernelBlk true X k q,Sl true wpE 1 q.v (q.ws.map WkAt.x),rd (stars (q.ws.map fun p : WkAt=>workerA p.x R p.k)),Blk true q.nt #[.int .i64 k.net.boxes,.int .i64 k.net.next,vn] 147,Sl true pkcell 14 vn k.net.way]
def KcPhi (b2 b3 X R : Nat) (k : KeE) (q : KeAt) (vn : Value) (j : Nat) (L : List Asn) : Prop:=
 ∃ n : Nat,Hid (n = mailN (k.net.way.take j)) ∧ L = Blk false b3 #[.int .i64 0,.int .i64 0,.int .i64 0,.int .i64 0,.int .i64 n] 35 :: Blk false b2 #[.int .i64 0,.int .i64 0,.int .i64 0,.int .i64 0,.int .i64 0] 35 :: krd X R k q vn
def KcRel (D b2 b3 X R : Nat) (k : KeE) (q : KeAt) (v : Value) (n : Nat) (w : World) (l i : Value) (wr : World) : Prop:=
 ∃ (j : Nat) (lo : List CntE),j ≤ k.ws.length ∧ i = .int .i64 j ∧ Hid (lo = (k.ws.take j).map cntW) ∧
  St (fun _=>False) w wr [Mem.Own 35 cncell 5 l lo,DefA D,Blk false b3 #[.int .i64 0,.int .i64 0,.int .i64 0,.int .i64 0,.int .i64 n] 35,Blk false b2 #[.int .i64 0,.int .i64 0,.int .i64 0,.int .i64 0,.int .i64 0] 35,Blk true X #[.pointer (some ⟨q.lg,0,none⟩),v,.pointer (some ⟨q.nt,0,none⟩),.pointer (some ⟨q.ma,0,none⟩),.pointer (some ⟨q.bu,0,none⟩),.int .i64 k.window,.int .i64 k.fan,.bool k.over] 65,Sl true wpE 1 v (q.ws.map WkAt.x),rd (stars (q.ws.map fun p : WkAt=>workerA p.x R p.k))]
theorem kcounts_calls (X R : Nat) (k : KeE) (hk : KeOk k) (w : World) (F : Nat → Prop) (h : (kernelA X R k).at_ w F) :
 Calls Tryz.prog 10 #[.pointer (some ⟨X,0,none⟩)] w fun e w'=>e = .returned (let y:=cntK k;.agg #[.int .i64 y.a,.int .i64 y.b,.int .i64 y.c,.int .i64 y.d,.int .i64 y.e]) ∧ Below w.heap.size w w':=by
 obtain ⟨q,vn,hq,S0⟩:=kernelR h
 have S:=S0.pick [0,1,2,3,4] rfl
 simp only [pick,nth] at S
 clear h S0
 have HA:=Lib.hid fun w F F2 h1 h2=>netall_calls q.nt k.net vn hk.way w F F2 h1 h2
 have HQ:=Lib.hid hq
 have HK:=Lib.hid hk
 clear hq hk
 refine calls_marks Tryz.func10 rfl ?_
 simp only [Tryz.ntmps10,List.size_toArray,List.length_cons,List.length_nil,Nat.reduceAdd,Nat.reduceSub,Array.replicate_succ,Array.replicate_zero,List.push_toArray,List.append_toArray,nil_append,cons_append]
 unfold kernelBlk at S
 go_wp2_with first | ((with_reducible apply wps_alloca (E:=35) S);(case hz=>exact Tryz.zeroValue35);clear S;first | (guard_hyp b2 : Nat;intro b3 wz S) | intro b2 wz S) | ((with_reducible apply wps_load S 2);(case hx|hi|hu=>rfl);(case hT=>decide +kernel)) | (go_at_call 34;refine Calls.mono (HA.out _ _ _ (S.get (i:=5) rfl).choose_spec (S.get (i:=6) rfl).choose_spec) ?_;rintro rr wz ⟨bt,vt,rfl,T⟩;replace S:=S.join T rfl;clear T;simp only [cons_append,nil_append] at S)
 replace S:=S.weak (i:=0) (A':=Blk true bt #[vt] 145) rfl (fun e=>by cases e) (fun F h=>⟨F,fun _ hb=>hb,h⟩)
 simp only [set_cons_zero] at S
 replace S:=S.freeze true 1 pkcells rfl
 simp only [set_cons_zero,set_cons_succ] at S
 refine wps_range (those1_iter bt vt k.net.way HK.out.way) S rfl (calls_enter Tryz.func102 (by kernel_rfl) rfl) (KcPhi b2 b3 X R k q vn) (fun _ _ _=>False) ⟨0,Lib.hid rfl,rfl⟩ (fun x args N h=>by obtain ⟨rfl,_⟩:=h;rfl) ?round ?done ?stop
 case stop=>intro _ _ _ _ _ _ h;exact h.elim
 case round=>
  rintro lp D r j x args N L W hx ⟨rfl,rfl⟩ ⟨n,HN,rfl⟩ S
  unfold krd kernelBlk at S
  simp only [zip_one9K,setIfInBounds_toArray,set_cons_succ,set_cons_zero,cons_append,nil_append] at S ⊢
  have HN2:=Lib.hid (mailN_snoc hx)
  rw [← HN.out] at HN2
  have hnb : n ≤ 1000000:=by rw [HN.out];exact Nat.le_trans (Nat.le_trans List.countP_le_length (List.length_take_le' ..)) HK.out.way
  by_cases h0 : x.x.kind = 0
  · have f1 : (x.x.kind == 0) = true:=by simpa using h0
    have f2 : True:=trivial
    rw [if_pos (by unfold mailB;simp [h0])] at HN2
    clear hx h0
    gi_wp2_with first
     | (refine wpi_at (.inr ⟨_,rfl⟩) rfl fun K hK=>?_
        go_wp2_with first | ((with_reducible apply wps_alloca (E:=100) S);(case hz=>exact Tryz.zeroValue100);clear S;intro b4 wz S) | ((with_reducible apply wps_storea (T:=100) S 0 (vs:=[.int .i64 x.no,.int .i64 x.from_,.int .i64 x.to_,.int .i64 x.x.kind,.int .i64 x.x.m.ev.key.at_,.int .i64 x.x.m.ev.key.src,.int .i64 x.x.m.ev.key.sent,.int .i64 x.x.m.ev.key.no,.int .i64 x.x.m.ev.dst,.int .i64 x.x.m.ev.kind,.int .i64 x.x.m.ev.data,.bool x.x.m.anti,.int .i64 x.x.no,.int .i64 x.x.at_]) (m:=14));(case hx|hy|hi|hm|h1=>rfl);(case hn=>exact nle rfl);(case hT=>decide +kernel);clear S;intro wz S;simp only [set_cons_zero,set_cons_succ,setAll,setIfInBounds_toArray] at S)
        refine hK _ _ ?_
        (try simp only [Act.put]);(try simp only [setIfInBounds_toArray]);(try simp only [set_cons_succ]);(try simp only [set_cons_zero])
        clear hK K)
    refine ⟨_,S.lastSplit rfl,fun r' W2 S=>?_⟩
    simp only [List.dropLast,cons_append,nil_append] at S
    refine wpIn_block (wpIn_seq_nK fun K hK=>wpi_list_k (.inr ⟨_,rfl⟩) rfl fun K2 hK2=>?_)
    go_wp2_with first | go_skip | ((with_reducible apply wps_load S 0);(case hx|hi|hu=>rfl);(case hT=>decide +kernel))
    refine hK2 _ _ (hK _ _ ?_)
    clear hK hK2 K K2
    refine wpIn_cond_true (by first | rfl | (simp [Act.eval,f1,f2];done)) (wpi_list_k (.inr ⟨_,rfl⟩) rfl fun K2 hK2=>?_)
    go_wp2_with first | ((with_reducible apply wps_load S 3);(case hx|hi|hu=>rfl);(case hT=>decide +kernel)) | ((with_reducible apply wps_store (u:=(.int .i64 ((n : Int) + 1))) S 3);(case hx|hy|hi|h1=>rfl);(case hn=>exact nle rfl);(case hT=>decide +kernel);clear S;intro wz S;simp only [set_cons_succ,set_cons_zero,setIfInBounds_toArray] at S)
    refine hK2 _ _ ?_
    clear hK2 K2
    rw [show (n : Int) + 1 = ((n + 1 : Nat) : Int) by omega] at S
    exact ⟨_,⟨n + 1,HN2.symm,rfl⟩,S.pick [1,2,3,4,5,6,7,8,9,10] rfl⟩
  · have f1 : (x.x.kind == 0) = false:=by simpa using h0
    by_cases h1 : x.x.kind = 1
    · have f2 : (x.x.kind == 1) = true:=by simpa using h1
      rw [if_pos (by unfold mailB;simp [h1])] at HN2
      clear hx h0 h1
      gi_wp2_with first
       | (refine wpi_at (.inr ⟨_,rfl⟩) rfl fun K hK=>?_
          go_wp2_with first | ((with_reducible apply wps_alloca (E:=100) S);(case hz=>exact Tryz.zeroValue100);clear S;intro b4 wz S) | ((with_reducible apply wps_storea (T:=100) S 0 (vs:=[.int .i64 x.no,.int .i64 x.from_,.int .i64 x.to_,.int .i64 x.x.kind,.int .i64 x.x.m.ev.key.at_,.int .i64 x.x.m.ev.key.src,.int .i64 x.x.m.ev.key.sent,.int .i64 x.x.m.ev.key.no,.int .i64 x.x.m.ev.dst,.int .i64 x.x.m.ev.kind,.int .i64 x.x.m.ev.data,.bool x.x.m.anti,.int .i64 x.x.no,.int .i64 x.x.at_]) (m:=14));(case hx|hy|hi|hm|h1=>rfl);(case hn=>exact nle rfl);(case hT=>decide +kernel);clear S;intro wz S;simp only [set_cons_zero,set_cons_succ,setAll,setIfInBounds_toArray] at S)
          refine hK _ _ ?_
          (try simp only [Act.put]);(try simp only [setIfInBounds_toArray]);(try simp only [set_cons_succ]);(try simp only [set_cons_zero])
          clear hK K)
      refine ⟨_,S.lastSplit rfl,fun r' W2 S=>?_⟩
      simp only [List.dropLast,cons_append,nil_append] at S
      refine wpIn_block (wpIn_seq_nK fun K hK=>wpi_list_k (.inr ⟨_,rfl⟩) rfl fun K2 hK2=>?_)
      go_wp2_with first | ((with_reducible apply wps_load S 0);(case hx|hi|hu=>rfl);(case hT=>decide +kernel))
      refine hK2 _ _ (hK _ _ ?_)
      clear hK hK2 K K2
      refine wpIn_cond_true (by first | rfl | (simp [Act.eval,f1,f2];done)) (wpi_list_k (.inr ⟨_,rfl⟩) rfl fun K2 hK2=>?_)
      go_wp2_with first | ((with_reducible apply wps_load S 3);(case hx|hi|hu=>rfl);(case hT=>decide +kernel)) | ((with_reducible apply wps_store (u:=(.int .i64 ((n : Int) + 1))) S 3);(case hx|hy|hi|h1=>rfl);(case hn=>exact nle rfl);(case hT=>decide +kernel);clear S;intro wz S;simp only [set_cons_succ,set_cons_zero,setIfInBounds_toArray] at S)
      refine hK2 _ _ ?_
      clear hK2 K2
      rw [show (n : Int) + 1 = ((n + 1 : Nat) : Int) by omega] at S
      exact ⟨_,⟨n + 1,HN2.symm,rfl⟩,S.pick [1,2,3,4,5,6,7,8,9,10] rfl⟩
    · have f2 : (x.x.kind == 1) = false:=by simpa using h1
      rw [if_neg (by unfold mailB;simp [h0,h1])] at HN2
      clear hx h0 h1
      gi_wp2_with first
       | (refine wpi_at (.inr ⟨_,rfl⟩) rfl fun K hK=>?_
          go_wp2_with first | ((with_reducible apply wps_alloca (E:=100) S);(case hz=>exact Tryz.zeroValue100);clear S;intro b4 wz S) | ((with_reducible apply wps_storea (T:=100) S 0 (vs:=[.int .i64 x.no,.int .i64 x.from_,.int .i64 x.to_,.int .i64 x.x.kind,.int .i64 x.x.m.ev.key.at_,.int .i64 x.x.m.ev.key.src,.int .i64 x.x.m.ev.key.sent,.int .i64 x.x.m.ev.key.no,.int .i64 x.x.m.ev.dst,.int .i64 x.x.m.ev.kind,.int .i64 x.x.m.ev.data,.bool x.x.m.anti,.int .i64 x.x.no,.int .i64 x.x.at_]) (m:=14));(case hx|hy|hi|hm|h1=>rfl);(case hn=>exact nle rfl);(case hT=>decide +kernel);clear S;intro wz S;simp only [set_cons_zero,set_cons_succ,setAll,setIfInBounds_toArray] at S)
          refine hK _ _ ?_
          (try simp only [Act.put]);(try simp only [setIfInBounds_toArray]);(try simp only [set_cons_succ]);(try simp only [set_cons_zero])
          clear hK K)
      refine ⟨_,S.lastSplit rfl,fun r' W2 S=>?_⟩
      simp only [List.dropLast,cons_append,nil_append] at S
      refine wpIn_block (wpIn_seq_nK fun K hK=>wpi_list_k (.inr ⟨_,rfl⟩) rfl fun K2 hK2=>?_)
      go_wp2_with first | ((with_reducible apply wps_load S 0);(case hx|hi|hu=>rfl);(case hT=>decide +kernel))
      refine hK2 _ _ (hK _ _ ?_)
      clear hK hK2 K K2
      refine wpIn_cond_false (by first | rfl | (simp [Act.eval,f1,f2];done)) (wpIn_skip ?_)
      exact ⟨_,⟨n,HN2.symm,rfl⟩,S.pick [1,2,3,4,5,6,7,8,9,10] rfl⟩
 case done=>
  rintro D W L ⟨n,HN,rfl⟩ S
  unfold krd kernelBlk at S
  simp only [cons_append,nil_append] at S
  rw [List.take_length] at HN
  have hnb : n ≤ 1000000:=by rw [HN.out];exact Nat.le_trans List.countP_le_length HK.out.way
  have HLW : Hid ((q.ws.map WkAt.x).length = k.ws.length):=Lib.hid (by rw [List.length_map,← HQ.out,List.length_map])
  have hwl:=HK.out.many
  obtain ⟨av,cv,hqv,_⟩:=(S.sl 6 rfl).elim fun _ h=>h.form
  rw [HLW.out] at hqv
  rw [hqv] at S
  have S:=(S.nil 35 cncell 5).pick [0,1,4,5,6,7,8] rfl
  simp only [pick,nth] at S
  go_wp2_with first | ((with_reducible apply wps_load S 4);(case hx|hi|hu=>rfl);(case hT=>decide +kernel))
  go_loopw [5,36] (fun l i wr=>KcRel D b2 b3 X R k q (.slice av k.ws.length cv) n w l i wr) (fun _ i _=>k.ws.length - (intOf i).toNat)
  case atStart=>exact ⟨0,[],Nat.zero_le _,rfl,Lib.hid rfl,S⟩
  case round=>
   clear S
   obtain ⟨j,lo,hj,rfl,HLO,S⟩:=hrel
   have hlo : lo.length = j:=by rw [HLO.out,List.length_map,List.length_take];omega
   obtain ⟨ao,co,rfl,_⟩:=(S.ownsl cncells 0 rfl).elim fun _ h=>h.form
   by_cases hlt : j < k.ws.length
   · obtain ⟨kj,hkj⟩ : ∃ kj,k.ws[j]? = some kj:=⟨_,List.getElem?_eq_getElem hlt⟩
     obtain ⟨wa,hwa,hwk⟩ : ∃ wa,q.ws[j]? = some wa ∧ wa.k = kj:=by
      rw [← HQ.out,List.getElem?_map] at hkj
      exact Option.map_eq_some_iff.1 hkj
     obtain ⟨Rb,o,rfl⟩ : ∃ R o,av = some ⟨R,o,none⟩:=(S.sl 5 rfl).elim fun F h=>h.head (by rw [HLW.out];omega)
     have hlt2 : (j : Int) < k.ws.length:=by omega
     have HXI : Hid ((q.ws.map WkAt.x)[j]? = some wa.x):=Lib.hid (by rw [List.getElem?_map,hwa];rfl)
     have HSI : Hid ((q.ws.map fun p : WkAt=>workerA p.x R p.k)[j]? = some (workerA wa.x R kj)):=Lib.hid (by rw [List.getElem?_map,hwa,← hwk];rfl)
     have HWC:=Lib.hid fun w F h=>wcounts_calls wa.x R kj (HK.out.ok kj (List.mem_of_getElem? hkj)) w F h
     rw [show countsV kj = .agg #[.int .i64 (cntW kj).a,.int .i64 (cntW kj).b,.int .i64 (cntW kj).c,.int .i64 (cntW kj).d,.int .i64 (cntW kj).e] from rfl] at HWC
     have HLO2 : Hid (lo ++ [cntW kj] = (k.ws.take (j + 1)).map cntW):=Lib.hid (by rw [take_snocP hkj,List.map_append,← HLO.out];rfl)
     generalize cntW kj = ck at *
     have hll : lo.length < 4294967296:=by omega
     clear hkj hwa hwk hlo
     go_wp2_with first | ((with_reducible apply wps_load_el S 5 (hj:=HXI.out) (q:=0) (u:=(.pointer (some ⟨wa.x,0,none⟩))));(case hx|hi=>rfl);(case hn=>omega);(case hu=>rfl);(case hT=>decide +kernel)) | (go_at_call 35;refine Calls.mono (HWC.out _ _ (star_get (S.get (i:=6) rfl) HSI.out).choose_spec) ?_;rintro e wz ⟨rfl,hE⟩;replace S:=S.ext (Keep.of_below hE);clear hE) | ((with_reducible apply wps_build1a (T:=101) (E:=35) S);(case hx=>rfl);(case hr=>intro w;kernel_rfl);clear S;intro bz wz S) | ((with_reducible apply wps_append1 elem_Cnt cncells cnone (by decide) S 1 (j:=0) (e:=ck));(case hx|hy|hi|hj|he=>rfl);(case hl=>omega);clear S;intro az nz cz wz hnz S;simp only [set_cons_succ,set_cons_zero] at S)
     replace S:=S.pick [1,2,3,4,5,6,7] rfl
     simp only [pick,nth] at S
     go_roundw
     case rel=>exact ⟨j + 1,_,by omega,by go_num,HLO2,S⟩
     case measure=>first | (simp [intOf];done) | (simp [intOf];omega)
   · obtain rfl : j = k.ws.length:=by omega
     rw [List.take_length] at HLO
     have HCP:=Lib.hid fun w F h=>cplus_calls ⟨0,0,0,0,(n : Int)⟩ (.slice ao lo.length co) lo ⟨by simp,by simp,by simp,by simp,by simp,by simp,by simp,by simp,by simp,by simp;omega⟩ (fun x hx=>by
      rw [HLO.out] at hx
      obtain ⟨z,hz,rfl⟩:=List.mem_map.1 hx
      exact cntW_ok (HK.out.ok z hz)) (by omega) w F h
     have HY : Hid (lo.foldl CntE.plus ⟨0,0,0,0,(n : Int)⟩ = cntK k):=Lib.hid (by rw [HLO.out,HN.out];rfl)
     rw [HY.out] at HCP
     obtain ⟨y,hy⟩ : ∃ y,cntK k = y:=⟨_,rfl⟩
     rw [hy] at HCP HY
     have HYY:=Lib.hid hy
     clear hy
     simp only at HCP
     clear hlo hlt
     go_wp2_with first | ((with_reducible apply wps_loada (T:=35) (k:=5) S 2);(case hx|hi=>rfl);(case hk=>exact nle rfl);(case hT=>decide +kernel)) | (go_at_call 36;refine Calls.mono (HCP.out _ _ (own_sl (sh:=true) cncells (S.get (i:=0) rfl).choose_spec)) ?_;rintro e wz ⟨rfl,hE⟩;replace S:=S.ext (Keep.of_below hE);clear hE) | ((with_reducible apply wps_storea (T:=35) S 3 (vs:=[.int .i64 y.a,.int .i64 y.b,.int .i64 y.c,.int .i64 y.d,.int .i64 y.e]) (m:=5));(case hx|hy|hi|hm|h1=>rfl);(case hn=>exact nle rfl);(case hT=>decide +kernel);clear S;intro wz S;simp only [set_cons_zero,set_cons_succ,setAll,setIfInBounds_toArray] at S)
     refine leaves_ret1 (S.pick [1,3] rfl) rfl fun w' S=>⟨_,results1 rfl (S.resA 0 rfl rfl (by kernel_rfl)),by rw [HYY.out],S.below⟩
end Go.Proofs.YtmjljoaakdocaaaGreatDoor
/- The walks of a kernel's Waits and Running. -/
namespace Go.Proofs.YtmjljoaakdocaaaGreatDoor
open Go Go.RowKit Reg Mem
open List (set_cons_succ set_cons_zero setIfInBounds_toArray cons_append nil_append)
def waitsE (box : Int) (n : NetE) : Nat:=(n.way.filter fun x=>x.to_ == box).length
def WaPhi (b5 X R : Nat) (k : KeE) (q : KeAt) (vn : Value) (j : Nat) (L : List Asn) : Prop:=L = Blk false b5 #[.int .i64 j] 3 :: krd X R k q vn
theorem kwaits_calls (X R : Nat) (k : KeE) (hk : k.net.way.length ≤ 1000000) (box : Int) (w : World) (F : Nat → Prop) (h : (kernelA X R k).at_ w F) :
 Calls Tryz.prog 11 #[.pointer (some ⟨X,0,none⟩),.int .i64 box] w fun e w'=>e = .returned (.int .i64 (waitsE box k.net : Nat)) ∧ Below w.heap.size w w':=by
 obtain ⟨q,vn,hq,S0⟩:=kernelR h
 have S:=S0.pick [0,1,2,3,4] rfl
 simp only [pick,nth] at S
 clear h S0
 have HA:=Lib.hid fun w F F2 h1 h2=>netto_calls q.nt k.net vn box hk w F F2 h1 h2
 obtain ⟨l,hl⟩ : ∃ l,k.net.way.filter (fun x=>x.to_ == box) = l:=⟨_,rfl⟩
 rw [hl] at HA
 have hll : l.length ≤ 1000000:=by rw [← hl];exact Nat.le_trans (List.length_filter_le ..) hk
 have HW : Hid (waitsE box k.net = l.length):=Lib.hid (by unfold waitsE;rw [hl])
 clear hl
 refine calls_marks Tryz.func11 rfl ?_
 simp only [Tryz.ntmps11,List.size_toArray,List.length_cons,List.length_nil,Nat.reduceAdd,Nat.reduceSub,Array.replicate_succ,Array.replicate_zero,List.push_toArray,List.append_toArray,nil_append,cons_append]
 unfold kernelBlk at S
 go_wp2_with first | ((with_reducible apply wps_alloc1 (E:=3) S);(case hz=>exact Tryz.zeroValue3);(case h1=>rfl);clear S;intro b5 wz S) | ((with_reducible apply wps_store (u:=(.int .i64 0)) S 0);(case hx|hy|hi|h1=>rfl);(case hn=>exact nle rfl);(case hT=>decide +kernel);clear S;intro wz S;simp only [set_cons_zero,setIfInBounds_toArray] at S) | ((with_reducible apply wps_load S 1);(case hx|hi|hu=>rfl);(case hT=>decide +kernel)) | (go_at_call 37;refine Calls.mono (HA.out _ _ _ (S.get (i:=4) rfl).choose_spec (S.get (i:=5) rfl).choose_spec) ?_;rintro rr wz ⟨bt,vt,rfl,T⟩;replace S:=S.join T rfl;clear T;simp only [cons_append,nil_append] at S)
 replace S:=S.weak (i:=0) (A':=Blk true bt #[vt] 145) rfl (fun e=>by cases e) (fun F h=>⟨F,fun _ hb=>hb,h⟩)
 simp only [set_cons_zero] at S
 replace S:=S.freeze true 1 pkcells rfl
 simp only [set_cons_zero,set_cons_succ] at S
 refine wps_range (those1_iter bt vt l hll) S rfl (calls_enter Tryz.func102 (by kernel_rfl) rfl) (WaPhi b5 X R k q vn) (fun _ _ _=>False) rfl (fun x args N h=>by obtain ⟨rfl,_⟩:=h;rfl) ?round ?done ?stop
 case stop=>intro _ _ _ _ _ _ h;exact h.elim
 case round=>
  rintro lp D r j x args N L W hx ⟨rfl,rfl⟩ rfl S
  unfold krd kernelBlk at S
  have hj : j < l.length:=(List.getElem?_eq_some_iff.1 hx).1
  simp only [zip_one9K,setIfInBounds_toArray,set_cons_succ,set_cons_zero,cons_append,nil_append] at S ⊢
  refine wpIn_skip ?_
  refine ⟨_,S.lastSplit rfl,fun r' W2 S=>?_⟩
  simp only [List.dropLast,cons_append,nil_append] at S
  refine wpIn_block (wpi_list_k (.inr ⟨_,rfl⟩) rfl fun K2 hK2=>?_)
  go_wp2_with first | ((with_reducible apply wps_load S 2);(case hx|hi|hu=>rfl);(case hT=>decide +kernel)) | ((with_reducible apply wps_store (u:=(.int .i64 ((j : Int) + 1))) S 2);(case hx|hy|hi|h1=>rfl);(case hn=>exact nle rfl);(case hT=>decide +kernel);clear S;intro wz S;simp only [set_cons_succ,set_cons_zero,setIfInBounds_toArray] at S)
  refine hK2 _ _ ?_
  clear hK2 K2
  rw [show (j : Int) + 1 = ((j + 1 : Nat) : Int) by omega] at S
  exact ⟨_,rfl,S⟩
 case done=>
  rintro D W L rfl S
  unfold krd kernelBlk at S
  simp only [cons_append,nil_append] at S
  go_wp2_with first | ((with_reducible apply wps_load S 3);(case hx|hi|hu=>rfl);(case hT=>decide +kernel))
  refine leaves_ret1 (S.pick [0] rfl) rfl fun w' S=>⟨_,results1 rfl (res_tmp rfl),by rw [HW.out];rfl,S.below⟩
theorem krunning_calls (X R : Nat) (k : KeE) (w : World) (F : Nat → Prop) (h : (kernelA X R k).at_ w F) :
 Calls Tryz.prog 12 #[.pointer (some ⟨X,0,none⟩)] w fun e w'=>e = .returned (.bool k.ma.runs) ∧ Below w.heap.size w w':=by
 obtain ⟨q,vn,hq,S0⟩:=kernelR h
 have S:=S0.pick [0,5] rfl
 simp only [pick,nth] at S
 clear h S0
 unfold kernelBlk at S
 go_enter Tryz.func12,Tryz.ntmps12
 go_wp2_with first | ((with_reducible apply wps_load S 0);(case hx|hi|hu=>rfl);(case hT=>decide +kernel)) | (go_at_call 38;refine Calls.mono (mrun_calls q.ma k.ma _ _ (rd_get (S.get (i:=1) rfl)).choose_spec) ?_;rintro e wz ⟨rfl,hE⟩;replace S:=S.ext (Keep.of_below hE);clear hE)
 go_ret
 exact ⟨rfl,S.below⟩
end Go.Proofs.YtmjljoaakdocaaaGreatDoor
/- The walk of a worker's Free. -/
namespace Go.Proofs.YtmjljoaakdocaaaGreatDoor
open Go Go.RowKit Reg Mem
open List (set_cons_succ set_cons_zero setIfInBounds_toArray cons_append nil_append)
def frLp (below : Int) (p : LpE) : LpE:=if below ≤ p.freed then p else freeE below p
def frEv (below : Int) (p : LpE) : List Event:=if below ≤ p.freed then [] else freedL below p
theorem lpfree_ok (X R : Nat) (p : LpE) (below : Int) (hk : LpOk p) (hs : ∀ x ∈ p.svs,-9223372036854775808 ≤ x.1 ∧ x.1 < 9223372036854775807) (hb : below ≤ lpLeast p) (w : World) (F : Nat → Prop) (S0 : St F w w [lpA X R p]) :
 Calls Tryz.prog 176 #[.pointer (some ⟨X,0,none⟩),.int .i64 below] w fun e w'=>∃ v,e = .returned (.tuple #[v,.int .i64 0]) ∧ St F w w' [Mem.Own 58 Event.cells 7 v (frEv below p),lpA X R (frLp below p)]:=by
 refine (lpfree_calls X R p below hk hs w F S0).mono ?_
 rintro e w' (⟨h,_⟩ | ⟨_,h,rfl,S⟩ | ⟨_,h,v,rfl,S⟩)
 · omega
 · refine ⟨_,rfl,?_⟩
   unfold frEv frLp
   rw [if_pos h,if_pos h]
   exact S.nil 58 Event.cells 7
 · refine ⟨v,rfl,?_⟩
   unfold frEv frLp
   rw [if_neg h,if_neg h]
   exact S
def LpAt.fr (below : Int) (q : LpAt) : LpAt:=⟨q.id,q.x,frLp below q.p⟩
def wfrE (below : Int) (k : WkE) : WkE:={ k with ps:=k.ps.map fun q=>(q.1,frLp below q.2) }
def wfrL (below : Int) (l : List (Int × LpE)) : List Event:=l.flatMap fun q=>frEv below q.2
theorem frEv_len (below : Int) (p : LpE) : (frEv below p).length ≤ p.evs.length:=by
 unfold frEv freedL
 split
 · exact Nat.zero_le _
 · exact List.length_filter_le ..
def WFreePost (W R : Nat) (k : WkE) (below : Int) (F : Nat → Prop) (w : World) (e : Ending) (w' : World) : Prop:=
 (¬ (∀ t ∈ localE k,below ≤ t) ∧ e = .returned (.tuple #[.slice none 0 0,.int .i64 18]) ∧ St F w w' [workerA W R k]) ∨
 ((∀ t ∈ localE k,below ≤ t) ∧ ∃ v,e = .returned (.tuple #[v,.int .i64 0]) ∧ St F w w' [Mem.Own 58 Event.cells 7 v (wfrL below k.ps),workerA W R (wfrE below k)])
def WfRel1 (W R : Nat) (k : WkE) (v : Value) (below : Int) (F : Nat → Prop) (w : World) (i : Value) (wr : World) : Prop:=
 ∃ j : Nat,j ≤ (localE k).length ∧ i = .int .i64 j ∧ Hid (∀ (q : Nat) t,q < j → (localE k)[q]? = some t → below ≤ t) ∧ St F w wr [Sl true intE 1 v (localE k),workerA W R k]
def frAt (below : Int) (qs : List LpAt) (j : Nat) : List LpAt:=(qs.take j).map (LpAt.fr below) ++ qs.drop j
theorem frAt_get {below : Int} {qs : List LpAt} {j : Nat} {q : LpAt} (h : qs[j]? = some q) : (frAt below qs j)[j]? = some q:=by
 have hj:=(List.getElem?_eq_some_iff.1 h).1
 unfold frAt
 rw [List.getElem?_append_right (by simp;omega),List.length_map,List.length_take,Nat.min_eq_left (by omega),Nat.sub_self,List.getElem?_drop,Nat.add_zero,h]
theorem frAt_set {below : Int} {qs : List LpAt} {j : Nat} {q : LpAt} (h : qs[j]? = some q) : (frAt below qs j).set j (q.fr below) = frAt below qs (j + 1):=by
 obtain ⟨hj,e⟩:=List.getElem?_eq_some_iff.1 h
 unfold frAt
 have hl : ((qs.take j).map (LpAt.fr below)).length = j:=by rw [List.length_map,List.length_take];omega
 rw [List.set_append_right _ _ (by omega),hl,Nat.sub_self,List.drop_eq_getElem_cons hj,set_cons_zero,List.take_add_one,h,Option.toList_some,List.map_append,List.append_assoc]
 rfl
def WfRel2 (W R g M : Nat) (k : WkE) (qs : List LpAt) (v : Value) (below : Int) (F : Nat → Prop) (w : World) (l i : Value) (wr : World) : Prop:=
 ∃ (j : Nat) (lo : List Event),j ≤ k.ps.length ∧ i = .int .i64 j ∧ lo.length ≤ j * 65536 ∧ Hid (lo = wfrL below (k.ps.take j)) ∧
  St F w wr [Mem.Own 58 Event.cells 7 l lo,Sl true intE 1 v (k.ps.map (·.1)),stars ((frAt below qs j).map fun q=>lpA q.x R q.p),MapK false Tryz.prog 3 intE M (qs.map LpAt.kv),gvtA g k.no k.opn k.low,Blk false W #[.pointer (some ⟨g,0,none⟩),.map (some M)] 135]
theorem wfree_calls (W R : Nat) (k : WkE) (hk : WkFine k) (hs : ∀ q ∈ k.ps,∀ x ∈ q.2.svs,-9223372036854775808 ≤ x.1 ∧ x.1 < 9223372036854775807) (below : Int) (w : World) (F : Nat → Prop) (S0 : St F w w [workerA W R k]) :
 Calls Tryz.prog 139 #[.pointer (some ⟨W,0,none⟩),.int .i64 below] w (WFreePost W R k below F w):=by
 have S:=S0
 clear S0
 have HLO:=Lib.hid fun w F h=>wlocal_calls W R k hk w F h
 have HL:=Lib.hid fun w F h=>wlps_calls W R k (by have:=hk.many;omega) w F h
 rw [sortZ_self hk.up] at HL
 have HK:=Lib.hid hk
 have HS:=Lib.hid hs
 have HLEN : Hid ((k.ps.map (·.1)).length = k.ps.length):=Lib.hid (List.length_map ..)
 have HLEN2 : Hid ((localE k).length = k.ps.length):=Lib.hid (List.length_map ..)
 have hkl : k.ps.length ≤ 32:=hk.many
 clear hk hs
 go_enter Tryz.func139,Tryz.ntmps139
 go_wp2_with first | (go_at_call 31;(refine Calls.mono (HLO.out _ _ (S.get (i:=0) rfl).choose_spec) ?_);rintro rr wz ⟨vl,rfl,T⟩;replace S:=S.join T rfl;clear T;simp only [cons_append,nil_append] at S;replace S:=S.freeze true 0 intE_len rfl;simp only [set_cons_zero] at S;obtain ⟨al,cl,rfl,_⟩:=(S.sl 0 rfl).elim fun _ h=>h.form;rw [HLEN2.out])
 rw [HLEN2.out] at S
 go_loopw [18] (fun i wr=>WfRel1 W R k (.slice al k.ps.length cl) below F w i wr) (fun i _=>k.ps.length - (intOf i).toNat)
 case atStart=>exact ⟨0,Nat.zero_le _,rfl,Lib.hid fun q t h=>by omega,S⟩
 case round=>
  clear S
  obtain ⟨j,hj,rfl,HJ,S⟩:=hrel
  rw [HLEN2.out] at hj
  by_cases hlt : j < k.ps.length
  · obtain ⟨t,ht⟩ : ∃ t,(localE k)[j]? = some t:=⟨_,List.getElem?_eq_getElem (by rw [HLEN2.out];exact hlt)⟩
    obtain ⟨Rb,o,rfl⟩ : ∃ R o,al = some ⟨R,o,none⟩:=(S.sl 0 rfl).elim fun F h=>h.head (by rw [HLEN2.out];omega)
    have hlt2 : (j : Int) < k.ps.length:=by omega
    have HT:=Lib.hid ht
    by_cases hb : t < below
    · have f1 : decide (t < below) = true:=decide_eq_true hb
      have HN : Hid (¬ ∀ t ∈ localE k,below ≤ t):=Lib.hid fun h=>by have:=h t (List.mem_of_getElem? ht);omega
      clear ht hb
      go_wp2_with first | ((with_reducible apply wps_load_el S 0 (hj:=HT.out) (q:=0) (u:=(.int .i64 t)));(case hx|hi=>rfl);(case hn=>omega);(case hu=>rfl);(case hT=>decide +kernel))
      (try simp only [Exit.inBlock,Exit.then]);refine bodyPost_ret (results2 rfl (res_tmp rfl) (res_tmp rfl)) rfl ?_
      exact .inl ⟨HN.out,rfl,S.pick [1] rfl⟩
    · have f1 : decide (t < below) = false:=decide_eq_false hb
      have HJ2 : Hid (∀ (q : Nat) t,q < j + 1 → (localE k)[q]? = some t → below ≤ t):=Lib.hid fun q t2 hq hy=>by
       rcases Nat.lt_or_eq_of_le (Nat.le_of_lt_succ hq) with h | rfl
       · exact HJ.out q t2 h hy
       · rw [ht] at hy;cases hy;omega
      clear ht hb
      go_wp2_with first | ((with_reducible apply wps_load_el S 0 (hj:=HT.out) (q:=0) (u:=(.int .i64 t)));(case hx|hi=>rfl);(case hn=>omega);(case hu=>rfl);(case hT=>decide +kernel))
      go_roundw
      case rel=>exact ⟨j + 1,by rw [HLEN2.out];omega,by go_num,HJ2,S⟩
      case measure=>first | (simp [intOf];done) | (simp [intOf];omega)
  · obtain rfl : j = k.ps.length:=by omega
    have HALL : Hid (∀ t ∈ localE k,below ≤ t):=Lib.hid fun t ht=>by
     obtain ⟨q,hq,e⟩:=List.mem_iff_getElem.1 ht
     exact HJ.out q t (by rw [← HLEN2.out];exact hq) (by rw [List.getElem?_eq_getElem hq,e])
    clear hlt
    go_wp2_with first | (go_at_call 57;(refine Calls.mono (HL.out _ _ (S.get (i:=1) rfl).choose_spec) ?_);rintro rr wz ⟨ad,c,rfl,T⟩;rw [HLEN.out] at T;rw [HLEN.out];replace S:=S.join T rfl;clear T;simp only [cons_append,nil_append] at S)
    replace S:=S.freeze true 0 intE_len rfl
    simp only [set_cons_zero] at S
    replace S:=S.pick [2,0] rfl
    simp only [pick,nth] at S
    obtain ⟨g,M,qs,hq,S2⟩:=worker_open S
    clear S
    have HQ:=Lib.hid hq
    clear hq
    have S:=(S2.nil 58 Event.cells 7).pick [0,5,2,1,3,4] rfl
    clear S2
    simp only [pick,nth] at S
    go_loopw [8,29] (fun l i wr=>WfRel2 W R g M k qs (.slice ad k.ps.length c) below F w l i wr) (fun _ i _=>k.ps.length - (intOf i).toNat)
    case atStart=>exact ⟨0,[],Nat.zero_le _,rfl,Nat.zero_le _,Lib.hid rfl,by simpa [frAt] using S⟩
    case round=>
     clear S hj
     obtain ⟨j,lo,hj,rfl,hlo,HLOO,S⟩:=hrel
     obtain ⟨ao,co,rfl,_⟩:=(S.ownsl ecells 0 rfl).elim fun _ h=>h.form
     by_cases hlt : j < k.ps.length
     · obtain ⟨p,hp⟩ : ∃ p,k.ps[j]? = some p:=⟨_,List.getElem?_eq_getElem hlt⟩
       obtain ⟨Rb,o,rfl⟩ : ∃ R o,ad = some ⟨R,o,none⟩:=(S.sl 1 rfl).elim fun F h=>h.head (by rw [HLEN.out];omega)
       have hlt2 : (j : Int) < k.ps.length:=by omega
       have HPI : Hid ((k.ps.map (·.1))[j]? = some p.1):=Lib.hid (by rw [List.getElem?_map,hp];rfl)
       obtain ⟨x,hx1,hx2⟩:=wk_at (R:=R) HQ.out (up_nodup HK.out.up) hp
       obtain ⟨q,hqj,hqe⟩ : ∃ q,qs[j]? = some q ∧ q.e = p:=by
        rw [← HQ.out,List.getElem?_map] at hp
        exact Option.map_eq_some_iff.1 hp
       have hqx : lpA q.x R q.p = lpA x R p.2:=by
        rw [List.getElem?_map,hqj] at hx1
        exact Option.some.inj hx1
       have hxx : q.x = x ∧ q.p = p.2:=by
        refine ⟨?_,by rw [← hqe];rfl⟩
        have h2 : (lookK (qs.map LpAt.kv) p.1).getD (.pointer none) = .pointer (some ⟨q.x,0,none⟩):=by
         rw [lookK_at (n:=j) (v:=.pointer (some ⟨q.x,0,none⟩))]
         · rfl
         · have e1 : (qs.map LpAt.kv).map (·.1) = k.ps.map (·.1):=by rw [← HQ.out,List.map_map,List.map_map];rfl
           rw [e1];exact up_nodup HK.out.up
         · rw [List.getElem?_map,hqj,← hqe];rfl
        rw [hx2] at h2
        simp only [Value.pointer.injEq,Option.some.injEq,Addr.mk.injEq] at h2
        exact h2.1.symm
       obtain ⟨rfl,hpp⟩:=hxx
       have HLK:=Lib.hid hx2
       have hpk:=HK.out.ok p (List.mem_of_getElem? hp)
       have HUS : Hid (((frAt below qs j).map fun q=>lpA q.x R q.p)[j]? = some (lpA q.x R p.2)):=Lib.hid (by rw [List.getElem?_map,frAt_get hqj,← hpp];rfl)
       have HSET : Hid (((frAt below qs j).map fun q=>lpA q.x R q.p).set j (lpA q.x R (frLp below p.2)) = (frAt below qs (j + 1)).map fun q=>lpA q.x R q.p):=Lib.hid (by
        rw [← frAt_set hqj,List.map_set,← hpp];rfl)
       have HF:=Lib.hid fun w F S0=>lpfree_ok q.x R p.2 below hpk (HS.out p (List.mem_of_getElem? hp)) (HALL.out _ (List.mem_map.2 ⟨p,List.mem_of_getElem? hp,rfl⟩)) w F S0
       have HLO2 : Hid (lo ++ frEv below p.2 = wfrL below (k.ps.take (j + 1))):=Lib.hid (by unfold wfrL;rw [take_snocL hp,List.flatMap_append];unfold wfrL at HLOO;rw [← HLOO.out];simp)
       have hel : (frEv below p.2).length ≤ 65536:=Nat.le_trans (frEv_len ..) hpk.evs
       clear hp hx1 hx2 hqj hqe hqx hpk hpp
       go_wp2_with first | ((with_reducible apply wps_load_el S 1 (hj:=HPI.out) (q:=0) (u:=(.int .i64 p.1)));(case hx|hi=>rfl);(case hn=>omega);(case hu=>rfl);(case hT=>decide +kernel)) | ((with_reducible apply wps_load S 5);(case hx|hi|hu=>rfl);(case hT=>decide +kernel)) | ((with_reducible apply wps_lookupK keyedI Tryz.underlying133 Tryz.zeroValue137 S 3 rfl p.1 (v:=.pointer (some ⟨q.x,0,none⟩)));(case hx=>rfl);(case hy=>exact (wholeI _).symm);(case hv=>exact HLK.out)) | (go_at_call 176;replace S:=(S.pick [2,0,1,3,4,5] rfl).starPull j HUS.out rfl;simp only [pick,nth] at S;obtain ⟨Fz,hF,hBk⟩:=S.lend [0] [] [1,2,3,4,5,6] rfl rfl rfl;simp only [cons_append,nil_append,pick,nth] at hF hBk;refine Calls.mono (HF.out _ _ hF) ?_;rintro rr wz ⟨vz,rfl,T⟩;replace S:=(hBk _ _ T rfl).pick [1,2,0,3,4,5,6,7] rfl;clear hBk hF T;simp only [cons_append,nil_append,pick,nth] at S;replace S:=S.starPush j (List.getElem?_set_self (by have:=(List.getElem?_eq_some_iff.1 HUS.out).1;exact this)) rfl;rw [List.set_set,HSET.out] at S;replace S:=S.freeze true 1 ecells rfl;simp only [set_cons_zero,set_cons_succ] at S) | ((with_reducible apply wps_appends elem_Ev ecells eone (by decide) S 2 (j:=1));(case hx|hy|hi|hj=>rfl);(case hl=>first | omega | (simp;omega));clear S;intro az nz cz wz hnz S;simp only [set_cons_succ,set_cons_zero] at S)
       replace S:=S.pick [2,3,0,4,5,6] rfl
       simp only [pick,nth] at S
       go_roundw
       case rel=>exact ⟨j + 1,_,by omega,by go_num,by rw [List.length_append];omega,HLO2,S⟩
       case measure=>first | (simp [intOf];done) | (simp [intOf];omega)
     · obtain rfl : j = k.ps.length:=by omega
       rw [List.take_length] at HLOO
       have HEND : Hid (frAt below qs k.ps.length = qs.map (LpAt.fr below)):=Lib.hid (by
        have : k.ps.length = qs.length:=by rw [← HQ.out,List.length_map]
        unfold frAt
        rw [this,List.take_length,List.drop_length,List.append_nil])
       go_wp2_with first | ((with_reducible apply wps_load S 0);(case hx|hi|hu=>rfl);(case hT=>decide +kernel))
       (try simp only [Exit.inBlock,Exit.then]);refine bodyPost_ret (results2 rfl (res_tmp rfl) (res_tmp rfl)) rfl ?_
       rw [HEND.out] at S
       refine .inr ⟨HALL.out,_,rfl,?_⟩
       rw [← HLOO.out]
       have S2:=S.pick [3,2,4,5,0] rfl
       simp only [pick,nth] at S2
       have S3 : St F w _ [workerA W R (wfrE below k),Mem.Own 58 Event.cells 7 _ lo]:=worker_close (k:=wfrE below k) (qs:=qs.map (LpAt.fr below)) (by
        show (qs.map (LpAt.fr below)).map LpAt.e = k.ps.map _
        rw [← HQ.out,List.map_map,List.map_map];rfl) (by
        rw [show (qs.map (LpAt.fr below)).map LpAt.kv = qs.map LpAt.kv by rw [List.map_map];rfl]
        exact S2)
       exact S3.pick [1,0] rfl
end Go.Proofs.YtmjljoaakdocaaaGreatDoor
