import Derived.Test.YtmjljoaakdocaaaGreatDoorY23
import Derived.Test.YtmjljoaakdocaaaGreatDoorY24
import Derived.Test.YtmjljoaakdocaaaGreatDoorY13
import Derived.Test.YtmjljoaakdocaaaGreatDoorY07
/- The walk of a kernel's publish. -/
set_option maxHeartbeats 16000000
set_option maxRecDepth 100000
namespace Go.Proofs.YtmjljoaakdocaaaGreatDoor
open Go Go.RowKit Reg Mem
open List (set_cons_succ set_cons_zero setIfInBounds_toArray cons_append nil_append)
theorem wfree_ok (W R : Nat) (k : WkE) (hk : WkFine k) (hs : ∀ q ∈ k.ps,∀ x ∈ q.2.svs,-9223372036854775808 ≤ x.1 ∧ x.1 < 9223372036854775807) (below : Int) (hb : ∀ t ∈ localE k,below ≤ t) (w : World) (F : Nat → Prop) (S0 : St F w w [workerA W R k]) :
 Calls Tryz.prog 139 #[.pointer (some ⟨W,0,none⟩),.int .i64 below] w fun e w'=>∃ v,e = .returned (.tuple #[v,.int .i64 0]) ∧ St F w w' [Mem.Own 58 Event.cells 7 v (wfrL below k.ps),workerA W R (wfrE below k)]:=by
 refine (wfree_calls W R k hk hs below w F S0).mono ?_
 rintro e w' (⟨h,_⟩ | ⟨_,h⟩)
 · exact absurd hb h
 · exact h
def WkAt.fr (below : Int) (q : WkAt) : WkAt:=⟨q.x,wfrE below q.k⟩
def frW (below : Int) (qs : List WkAt) (j : Nat) : List WkAt:=(qs.take j).map (WkAt.fr below) ++ qs.drop j
theorem frW_get {below : Int} {qs : List WkAt} {j : Nat} {q : WkAt} (h : qs[j]? = some q) : (frW below qs j)[j]? = some q:=by
 have hj:=(List.getElem?_eq_some_iff.1 h).1
 unfold frW
 rw [List.getElem?_append_right (by simp;omega),List.length_map,List.length_take,Nat.min_eq_left (by omega),Nat.sub_self,List.getElem?_drop,Nat.add_zero,h]
theorem frW_set {below : Int} {qs : List WkAt} {j : Nat} {q : WkAt} (h : qs[j]? = some q) : (frW below qs j).set j (q.fr below) = frW below qs (j + 1):=by
 obtain ⟨hj,e⟩:=List.getElem?_eq_some_iff.1 h
 unfold frW
 have hl : ((qs.take j).map (WkAt.fr below)).length = j:=by rw [List.length_map,List.length_take];omega
 rw [List.set_append_right _ _ (by omega),hl,Nat.sub_self,List.drop_eq_getElem_cons hj,set_cons_zero,List.take_add_one,h,Option.toList_some,List.map_append,List.append_assoc]
 rfl
def freedK (below : Int) (l : List WkE) : List Event:=l.flatMap fun k=>wfrL below k.ps
def published (g : LogE) (k : KeE) : KeE:={ k with ws:=k.ws.map (wfrE k.ma.time),log:=g,over:=k.ma.time == 1073741825 }
def CommitsL (R : Nat) (vs hs : List Value) (c : Cfg) (g : LogE) (below : Int) (l : List Event) (g' : LogE) : Prop:=
 ∀ (lg : Nat) (v : Value) (w : World) (F : Nat → Prop),St F w w [logA lg R g,Sl true Event.cells 7 v l,ModA true 110 R vs hs c,Tab] → Calls Tryz.prog 140 #[.pointer (some ⟨lg,0,none⟩),.int .i64 below,v] w fun e w'=>∃ a n cp,e = .returned (.tuple #[.slice a n cp,.int .i64 0]) ∧ St F w w' [logA lg R g']
theorem wfrL_len {below : Int} {l : List (Int × LpE)} (h : ∀ q ∈ l,q.2.evs.length ≤ 65536) : (wfrL below l).length ≤ l.length * 65536:=by
 induction l with
 | nil=>simp [wfrL]
 | cons a l ih=>
   have h1:=ih fun q hq=>h q (List.mem_cons_of_mem _ hq)
   have h2:=h a (by simp)
   have h3:=frEv_len below a.2
   unfold wfrL at *
   rw [List.flatMap_cons,List.length_append,List.length_cons,Nat.add_mul]
   omega
def KpRel (X R : Nat) (vs hs : List Value) (c : Cfg) (k : KeE) (q : KeAt) (v : Value) (F : Nat → Prop) (w : World) (l i : Value) (wr : World) : Prop:=
 ∃ (j : Nat) (lo : List Event),j ≤ k.ws.length ∧ i = .int .i64 j ∧ lo.length ≤ j * 2097152 ∧ Hid (lo = freedK k.ma.time (k.ws.take j)) ∧
  St F w wr [Mem.Own 58 Event.cells 7 l lo,budgetA q.bu k.bu,logA q.lg R k.log,masterA q.ma k.ma,netA q.nt k.net,stars ((frW k.ma.time q.ws j).map fun p : WkAt=>workerA p.x R p.k),Mem.Own 76 wpE 1 v (q.ws.map WkAt.x),Blk false X #[.pointer (some ⟨q.lg,0,none⟩),v,.pointer (some ⟨q.nt,0,none⟩),.pointer (some ⟨q.ma,0,none⟩),.pointer (some ⟨q.bu,0,none⟩),.int .i64 k.window,.int .i64 k.fan,.bool k.over] 65,ModA true 110 R vs hs c,Tab]
structure KePub (k : KeE) : Prop extends KeOk k where
 svs : ∀ w ∈ k.ws,∀ q ∈ w.ps,∀ x ∈ q.2.svs,-9223372036854775808 ≤ x.1 ∧ x.1 < 9223372036854775807
 free : ∀ w ∈ k.ws,∀ t ∈ localE w,k.ma.time ≤ t
theorem kpublish_calls (X R : Nat) (vs hs : List Value) (c : Cfg) (k : KeE) (g' : LogE) (hk : KePub k) (hc : CommitsL R vs hs c k.log k.ma.time (freedK k.ma.time k.ws) g') (w : World) (F : Nat → Prop) (S0 : St F w w [kernelA X R k,ModA true 110 R vs hs c,Tab]) :
 Calls Tryz.prog 93 #[.pointer (some ⟨X,0,none⟩)] w fun e w'=>e = .returned (.int .i64 0) ∧ St F w w' [kernelA X R (published g' k)]:=by
 obtain ⟨q,hq,S⟩:=kernel_open S0
 clear S0
 have HK:=Lib.hid hk
 have HT:=Lib.hid fun w F h=>mtime_calls q.ma k.ma w F h
 have HC:=Lib.hid (hc q.lg)
 have HQ:=Lib.hid hq
 have HLW : Hid ((q.ws.map WkAt.x).length = k.ws.length):=Lib.hid (by rw [List.length_map,← hq,List.length_map])
 have hwl:=hk.many
 clear hk hq hc
 obtain ⟨av,cv,hqv,_⟩:=(S.ownsl wpElen 5 rfl).elim fun _ h=>h.form
 rw [HLW.out] at hqv
 unfold kernelBlk at S
 rw [hqv] at S
 have HQV:=Lib.hid hqv
 clear hqv
 go_enter Tryz.func93,Tryz.ntmps93
 go_wp2_with first | ((with_reducible apply wps_load S 6);(case hx|hi|hu=>rfl);(case hT=>decide +kernel)) | (go_at_call 138;refine Calls.mono (HT.out _ _ (S.get (i:=2) rfl).choose_spec) ?_;rintro e wz ⟨rfl,hE⟩;replace S:=S.ext (Keep.of_below hE);clear hE)
 replace S:=S.nil 58 Event.cells 7
 go_loopw [4,21] (fun l i wr=>KpRel X R vs hs c k q (.slice av k.ws.length cv) F w l i wr) (fun _ i _=>k.ws.length - (intOf i).toNat)
 case atStart=>exact ⟨0,[],Nat.zero_le _,rfl,Nat.zero_le _,Lib.hid rfl,by simpa [frW] using S⟩
 case round=>
  clear S
  obtain ⟨j,lo,hj,rfl,hlo,HLO,S⟩:=hrel
  obtain ⟨ao,co,rfl,_⟩:=(S.ownsl ecells 0 rfl).elim fun _ h=>h.form
  by_cases hlt : j < k.ws.length
  · obtain ⟨kj,hkj⟩ : ∃ kj,k.ws[j]? = some kj:=⟨_,List.getElem?_eq_getElem hlt⟩
    obtain ⟨wa,hwa,hwk⟩ : ∃ wa,q.ws[j]? = some wa ∧ wa.k = kj:=by
     rw [← HQ.out,List.getElem?_map] at hkj
     exact Option.map_eq_some_iff.1 hkj
    have hlt2 : (j : Int) < k.ws.length:=by omega
    have HXI : Hid ((q.ws.map WkAt.x)[j]? = some wa.x):=Lib.hid (by rw [List.getElem?_map,hwa];rfl)
    have hmem:=List.mem_of_getElem? hkj
    have HUS : Hid (((frW k.ma.time q.ws j).map fun p : WkAt=>workerA p.x R p.k)[j]? = some (workerA wa.x R kj)):=Lib.hid (by rw [List.getElem?_map,frW_get hwa,← hwk];rfl)
    have HSET : Hid (((frW k.ma.time q.ws j).map fun p : WkAt=>workerA p.x R p.k).set j (workerA wa.x R (wfrE k.ma.time kj)) = (frW k.ma.time q.ws (j + 1)).map fun p : WkAt=>workerA p.x R p.k):=Lib.hid (by
     rw [← frW_set hwa,List.map_set,← hwk];rfl)
    have HF:=Lib.hid fun w F S0=>wfree_ok wa.x R kj (HK.out.ok kj hmem) (HK.out.svs kj hmem) k.ma.time (HK.out.free kj hmem) w F S0
    have HLO2 : Hid (lo ++ wfrL k.ma.time kj.ps = freedK k.ma.time (k.ws.take (j + 1))):=Lib.hid (by unfold freedK;rw [take_snocL hkj,List.flatMap_append];unfold freedK at HLO;rw [← HLO.out];simp)
    have hel : (wfrL k.ma.time kj.ps).length ≤ 2097152:=Nat.le_trans (wfrL_len fun q hq=>((HK.out.ok kj hmem).ok q hq).evs) (by have:=(HK.out.ok kj hmem).many;exact Nat.mul_le_mul_right 65536 this)
    obtain ⟨Rb,cb,e⟩:=own_hdE 6 S rfl (by rw [HLW.out];omega)
    rw [HLW.out] at e
    simp only [Value.slice.injEq] at e
    obtain ⟨rfl,-,rfl⟩:=e
    clear hkj hwa hwk hmem
    go_wp2_with first | ((with_reducible apply wps_load_own wpElen S 6 (hj:=HXI.out) (q:=0) (u:=(.pointer (some ⟨wa.x,0,none⟩))));(case hx|hi=>rfl);(case hn=>omega);(case hu=>rfl);(case hT=>decide +kernel)) | (go_at_call 139;replace S:=(S.pick [5,0,1,2,3,4,6,7,8,9] rfl).starPull j HUS.out rfl;simp only [pick,nth] at S;obtain ⟨Fz,hF,hBk⟩:=S.lend [0] [] [1,2,3,4,5,6,7,8,9,10] rfl rfl rfl;simp only [cons_append,nil_append,pick,nth] at hF hBk;refine Calls.mono (HF.out _ _ hF) ?_;rintro rr wz ⟨vz,rfl,T⟩;replace S:=(hBk _ _ T rfl).pick [1,2,0,3,4,5,6,7,8,9,10,11] rfl;clear hBk hF T;simp only [cons_append,nil_append,pick,nth] at S;replace S:=S.starPush j (List.getElem?_set_self (by have:=(List.getElem?_eq_some_iff.1 HUS.out).1;exact this)) rfl;rw [List.set_set,HSET.out] at S;replace S:=S.freeze true 1 ecells rfl;simp only [set_cons_zero,set_cons_succ] at S) | ((with_reducible apply wps_appends elem_Ev ecells eone (by decide) S 2 (j:=1));(case hx|hy|hi|hj=>rfl);(case hl=>first | omega | (simp;omega));clear S;intro az nz cz wz hnz S;simp only [set_cons_succ,set_cons_zero] at S)
    replace S:=S.pick [2,3,4,5,6,0,7,8,9,10] rfl
    simp only [pick,nth] at S
    go_roundw
    case rel=>exact ⟨j + 1,_,by omega,by go_num,by rw [List.length_append];omega,HLO2,S⟩
    case measure=>first | (simp [intOf];done) | (simp [intOf];omega)
  · obtain rfl : j = k.ws.length:=by omega
    rw [List.take_length] at HLO
    have HEND : Hid (frW k.ma.time q.ws k.ws.length = q.ws.map (WkAt.fr k.ma.time)):=Lib.hid (by
     have : k.ws.length = q.ws.length:=by rw [← HQ.out,List.length_map]
     unfold frW
     rw [this,List.take_length,List.drop_length,List.append_nil])
    rw [HEND.out] at S
    rw [← HLO.out] at HC
    replace S:=S.freeze true 0 ecells rfl
    simp only [set_cons_zero] at S
    obtain ⟨b,hb⟩ : ∃ b,(k.ma.time == 1073741825) = b:=⟨_,rfl⟩
    have HB:=Lib.hid hb
    clear hlt
    go_wp2_with first | ((with_reducible apply wps_load S 7);(case hx|hi|hu=>rfl);(case hT=>decide +kernel)) | (go_at_call 140;obtain ⟨Fz,hF,hBk⟩:=S.lend [2] [0,8,9] [1,3,4,5,6,7] rfl rfl rfl;simp only [cons_append,nil_append,pick,nth] at hF hBk;refine Calls.mono (HC.out _ _ _ hF) ?_;rintro rr wz ⟨az,nz2,cz,rfl,T⟩;replace S:=(hBk _ _ T rfl).pick [0,1,2,3,4,5,6] rfl;clear hBk hF T;simp only [cons_append,nil_append,pick,nth] at S) | ((with_reducible apply wps_store (u:=(.bool b)) S 6);(case hx|hy|hi|h1=>rfl);(case hn=>exact nle rfl);(case hT=>decide +kernel);clear S;intro wz S;simp only [set_cons_succ,set_cons_zero,setIfInBounds_toArray] at S)
    go_ret
    have S2:=S.pick [1,0,2,3,4,5,6] rfl
    simp only [pick,nth] at S2
    refine ⟨rfl,kernel_close (k:=published g' k) (q:={ q with ws:=q.ws.map (WkAt.fr k.ma.time) }) ?_ ?_⟩
    · show (q.ws.map (WkAt.fr k.ma.time)).map WkAt.k = k.ws.map (wfrE k.ma.time)
      rw [← HQ.out,List.map_map,List.map_map];rfl
    · unfold kernelBlk published
      simp only
      rw [HQV.out,HB.out,show (q.ws.map (WkAt.fr k.ma.time)).map WkAt.x = q.ws.map WkAt.x by rw [List.map_map];rfl]
      exact S2
end Go.Proofs.YtmjljoaakdocaaaGreatDoor
/- The walk of a kernel's round. -/
namespace Go.Proofs.YtmjljoaakdocaaaGreatDoor
open Go Go.RowKit Reg Mem
open List (set_cons_succ set_cons_zero setIfInBounds_toArray cons_append nil_append)
def beganM (m : MaE) : MaE:=⟨m.no + 1,true,m.time,List.replicate m.reps.length (-1)⟩
def startI (no : Int) : ItemE:=⟨3,⟨⟨⟨0,0,0,0⟩,0,0,0⟩,false⟩,no,0⟩
def sendAll (n : NetE) (a : Int) (x : ItemE) : Nat → NetE
 | 0=>n
 | j + 1=>(sendAll n a x j).sent a j x
theorem sendAll_boxes (n : NetE) (a : Int) (x : ItemE) : ∀ j,(sendAll n a x j).boxes = n.boxes
 | 0=>rfl
 | j + 1=>sendAll_boxes n a x j
theorem sendAll_next (n : NetE) (a : Int) (x : ItemE) : ∀ j : Nat,(sendAll n a x j).next = n.next + j
 | 0=>by simp [sendAll]
 | j + 1=>by
   show (sendAll n a x j).next + 1 = _
   rw [sendAll_next n a x j];omega
theorem sendAll_way (n : NetE) (a : Int) (x : ItemE) : ∀ j : Nat,(sendAll n a x j).way.length = n.way.length + j
 | 0=>rfl
 | j + 1=>by
   show ((sendAll n a x j).way ++ [_]).length = _
   rw [List.length_append,sendAll_way n a x j];rfl
def krounded (k : KeE) : KeE:={ k with ma:=beganM k.ma,net:=sendAll k.net k.ws.length (startI (k.ma.no + 1)) k.ws.length }
def KrRel (b3 X R : Nat) (k : KeE) (q : KeAt) (d : Int × Int × Int) (v : Value) (F : Nat → Prop) (w : World) (i : Value) (wr : World) : Prop:=
 ∃ j : Nat,j ≤ k.ws.length ∧ i = .int .i64 j ∧
  St F w wr [netA q.nt (sendAll k.net k.ws.length (startI (k.ma.no + 1)) j),Blk false b3 #[.int .i64 d.1,.int .i64 d.2.1,.int .i64 d.2.2] 23,budgetA q.bu k.bu,logA q.lg R k.log,masterA q.ma (beganM k.ma),stars (q.ws.map fun p : WkAt=>workerA p.x R p.k),Mem.Own 76 wpE 1 v (q.ws.map WkAt.x),Blk false X #[.pointer (some ⟨q.lg,0,none⟩),v,.pointer (some ⟨q.nt,0,none⟩),.pointer (some ⟨q.ma,0,none⟩),.pointer (some ⟨q.bu,0,none⟩),.int .i64 k.window,.int .i64 k.fan,.bool k.over] 65]
structure KeRun (k : KeE) : Prop extends KeOk k where
 reps : k.ma.reps.length = k.ws.length
 no0 : 0 ≤ k.ma.no
 no1 : k.ma.no ≤ 1000000
 boxes : k.net.boxes = k.ws.length + 1
 next0 : 0 ≤ k.net.next
 next1 : k.net.next ≤ 1000000
 way1 : k.net.way.length ≤ 900000
theorem kround_calls (X R : Nat) (k : KeE) (d : Int × Int × Int) (hk : KeRun k) (hr : k.ma.runs = false) (w : World) (F : Nat → Prop) (S0 : St F w w [kernelA X R k]) :
 Calls Tryz.prog 55 #[.pointer (some ⟨X,0,none⟩),.agg #[.int .i64 d.1,.int .i64 d.2.1,.int .i64 d.2.2]] w fun e w'=>e = .returned (.int .i64 0) ∧ St F w w' [kernelA X R (krounded k)]:=by
 obtain ⟨q,hq,S⟩:=kernel_open S0
 clear S0
 have HK:=Lib.hid hk
 have HB:=Lib.hid fun w F S0=>mbegin_calls q.ma k.ma w F S0 (by have:=hk.no0;omega) (by have:=hk.no1;omega) (by rw [hk.reps];exact hk.many) hr
 rw [show (⟨k.ma.no + 1,true,k.ma.time,List.replicate k.ma.reps.length (-1)⟩ : MaE) = beganM k.ma from rfl] at HB
 have HQ:=Lib.hid hq
 have HLW : Hid ((q.ws.map WkAt.x).length = k.ws.length):=Lib.hid (by rw [List.length_map,← hq,List.length_map])
 have hwl:=hk.many
 clear hk hr hq
 obtain ⟨av,cv,hqv,_⟩:=(S.ownsl wpElen 5 rfl).elim fun _ h=>h.form
 rw [HLW.out] at hqv
 unfold kernelBlk at S
 rw [hqv] at S
 have HQV:=Lib.hid hqv
 clear hqv
 go_enter Tryz.func55,Tryz.ntmps55
 go_wp2_with first | ((with_reducible apply wps_boxa (E:=23) S);(case hx=>rfl);clear S;intro b3 wz S) | ((with_reducible apply wps_load S 7);(case hx|hi|hu=>rfl);(case hT=>decide +kernel)) | (go_at_call 94;obtain ⟨Fz,hF,hBk⟩:=S.lend [3] [] [0,1,2,4,5,6,7] rfl rfl rfl;simp only [cons_append,nil_append,pick,nth] at hF hBk;refine Calls.mono (HB.out _ _ hF) ?_;rintro rr wz ⟨rfl,T⟩;replace S:=(hBk _ _ T rfl).pick [4,1,2,3,0,5,6,7] rfl;clear hBk hF T;simp only [cons_append,nil_append,pick,nth] at S)
 go_loopw [24] (fun i wr=>KrRel b3 X R k q d (.slice av k.ws.length cv) F w i wr) (fun i _=>k.ws.length - (intOf i).toNat)
 case atStart=>exact ⟨0,Nat.zero_le _,rfl,S⟩
 case round=>
  clear S
  obtain ⟨j,hj,rfl,S⟩:=hrel
  by_cases hlt : j < k.ws.length
  · have hlt2 : (j : Int) < k.ws.length:=by omega
    have HSD:=Lib.hid fun v w F S0=>netsend_calls q.nt (sendAll k.net k.ws.length (startI (k.ma.no + 1)) j) k.ws.length j v (startI (k.ma.no + 1)) w F S0 (by rw [sendAll_boxes,HK.out.boxes];unfold boxB;simp;omega) (by rw [sendAll_boxes,HK.out.boxes];unfold boxB;simp;omega) (by rw [sendAll_next];have:=HK.out.next0;omega) (by rw [sendAll_next];have:=HK.out.next1;omega) (by rw [sendAll_way];have:=HK.out.way1;omega)
    rw [show (sendAll k.net k.ws.length (startI (k.ma.no + 1)) j).sent k.ws.length j (startI (k.ma.no + 1)) = sendAll k.net k.ws.length (startI (k.ma.no + 1)) (j + 1) from rfl] at HSD
    generalize sendAll k.net k.ws.length (startI (k.ma.no + 1)) j = nj at *
    go_wp2_with first | ((with_reducible apply wps_load S 7);(case hx|hi|hu=>rfl);(case hT=>decide +kernel)) | ((with_reducible apply wps_buildSlice (T:=264) (E:=86) (cs:=#[.int .i64 3,.int .i64 0,.int .i64 0,.int .i64 0,.int .i64 0,.int .i64 0,.int .i64 0,.int .i64 0,.bool false,.int .i64 (k.ma.no + 1),.int .i64 0]) S);(case hr=>intro w;kernel_rfl);clear S;intro bz wz S) | (go_at_call 91;replace S:=S.weak (i:=0) (A':=Sl true itcell 11 (.slice (some ⟨bz,0,none⟩) 1 1) [startI (k.ma.no + 1)]) rfl (fun e=>by cases e) (fun F h=>⟨F,fun _ hb=>hb,blk_sl (n:=1) [startI (k.ma.no + 1)] itcells h rfl rfl⟩);simp only [set_cons_zero] at S;obtain ⟨Fz,hF,hBk⟩:=S.lend [1] [0] [2,3,4,5,6,7,8] rfl rfl rfl;simp only [cons_append,nil_append,pick,nth] at hF hBk;refine Calls.mono (HSD.out _ _ _ hF) ?_;rintro rr wz ⟨rfl,T⟩;replace S:=hBk _ _ T rfl;clear hBk hF T;simp only [cons_append,nil_append] at S) | ((with_reducible refine tot_done ?ht ?_);(case ht=>kernel_rfl)) | ((with_reducible apply wps_text S);(case hm=>kernel_rfl);(case hB=>decide +kernel);clear S;intro wz S)
    go_roundw
    case rel=>exact ⟨j + 1,by omega,by go_num,S⟩
    case measure=>first | (simp [intOf];done) | (simp [intOf];omega)
  · obtain rfl : j = k.ws.length:=by omega
    go_wp2_with first | ((with_reducible apply wps_load S 0);(case hx|hi|hu=>rfl);(case hT=>decide +kernel))
    go_ret
    refine ⟨rfl,kernel_close (k:=krounded k) (q:=q) HQ.out ?_⟩
    unfold kernelBlk
    rw [HQV.out]
    exact S.pick [2,3,4,0,5,6,7] rfl
end Go.Proofs.YtmjljoaakdocaaaGreatDoor
/- The walks of what a worker of rounds tells. -/
namespace Go.Proofs.YtmjljoaakdocaaaGreatDoor.Mem
open Go Go.RowKit Reg
open List (set_cons_succ set_cons_zero setIfInBounds_toArray cons_append nil_append)
section
variable {P : Program} {ops : Array Oper} {rest : List Oper} {a : Act} {Q : Exit → Act → World → Prop} {d : Option Tmp} {tt : TypeId} {p : String} {af : Array Edge} {gd : Option (Nat × Bool)} {x : Operand}
variable {G : Nat → Prop} {w0 w : World} {L : List Asn}
theorem wps_lenE {sh : Bool} {M clock : Nat} {es : Array MapEntry} {T K E : TypeId} (hT : P.underlying T = some (.map K E)) (S : St G w0 w L) (i : Nat) (hi : L[i]? = some (MapE sh M es clock)) (hx : a.eval x = .map (some M))
 (h : wpList P ops Q rest (a.put d (.int .i64 es.size)) w) (hgd : gOk gd ops a = true:=by with_unfolding_all rfl) :
 wpList P ops Q ({ dst:=d,op:=.call { callee:=.builtin .len,args:=#[x],argTypes:=#[T] },type:=tt,pos:=p,after:=af,guard:=gd } :: rest) a w:=
 wpList_ok hgd fun K' hK'=>by
  obtain ⟨F,hF⟩:=S.get hi
  have hr : (Builtin.len_ #[T] tt #[.map (some M)]).run P w = .ok (.int .i64 es.size) w:=by
   simp [Builtin.len_,run_underlying hT,run_getObj_map w M es clock hF.1]
   rfl
  unfold Oper.wp execOp
  simp [resolve,invoke,builtin,hx,hr,Result.andThen]
  exact hK' _ _ h
end
end Go.Proofs.YtmjljoaakdocaaaGreatDoor.Mem
namespace Go.Proofs.YtmjljoaakdocaaaGreatDoor
open Go Go.RowKit Reg Mem
open List (set_cons_succ set_cons_zero setIfInBounds_toArray cons_append nil_append)
def leastO (l : List (Int × Int)) : Int:=l.foldl (fun a p=>min a p.2) 1073741825
theorem foldmin (l : List (Int × Int)) : ∀ a : Int,l.foldl (fun a p=>min a p.2) a ≤ a ∧ (∀ p ∈ l,l.foldl (fun a p=>min a p.2) a ≤ p.2) ∧ (l.foldl (fun a p=>min a p.2) a = a ∨ ∃ p ∈ l,l.foldl (fun a p=>min a p.2) a = p.2):=by
 induction l with
 | nil=>intro a;exact ⟨Int.le_refl _,fun p h=>by simp at h,.inl rfl⟩
 | cons q l ih=>
   intro a
   obtain ⟨h1,h2,h3⟩:=ih (min a q.2)
   simp only [List.foldl_cons]
   refine ⟨by omega,fun p hp=>?_,?_⟩
   · rcases List.mem_cons.1 hp with rfl | hp
     · omega
     · exact h2 p hp
   · rcases h3 with h3 | ⟨p,hp,h3⟩
     · rcases Int.le_total a q.2 with h | h
       · exact .inl (by rw [h3];omega)
       · exact .inr ⟨q,by simp,by rw [h3];omega⟩
     · exact .inr ⟨p,by simp [hp],h3⟩
structure LeastP (es : Array MapEntry) (seen : Array Nat) (z : Int) : Prop where
 top : z ≤ 1073741825
 low : ∀ e ∈ es.toList,e.born ∈ seen → ∀ t : Int,e.val = .int .i64 t → z ≤ t
 is : z = 1073741825 ∨ ∃ e ∈ es.toList,e.val = .int .i64 z
theorem tells_vals {es : Array MapEntry} {clock : Nat} {l : List (Int × Int)} (ht : Tells Tryz.prog 3 intE es clock (iiV l)) : es.toList.map (·.val) = l.map fun p=>Value.int .i64 p.2:=by
 have:=congrArg (List.map Prod.snd) ht.same
 rw [List.map_map,List.map_map] at this
 unfold iiV at this
 rw [List.map_map] at this
 exact this
theorem least_done {es : Array MapEntry} {clock : Nat} {l : List (Int × Int)} {seen : Array Nat} {z : Int} (ht : Tells Tryz.prog 3 intE es clock (iiV l)) (h : LeastP es seen z) (hd : ∀ e ∈ es.toList,e.born ∈ seen) : leastO l = z:=by
 have hv:=tells_vals ht
 obtain ⟨h1,h2,h3⟩:=foldmin l 1073741825
 have a1 : z ≤ leastO l:=by
  rcases h3 with h3 | ⟨p,hp,h3⟩
  · unfold leastO;rw [h3];exact h.top
  · unfold leastO
    rw [h3]
    have : Value.int .i64 p.2 ∈ es.toList.map (·.val):=by rw [hv];exact List.mem_map.2 ⟨p,hp,rfl⟩
    obtain ⟨e,he,e1⟩:=List.mem_map.1 this
    exact h.low e he (hd e he) p.2 e1
 have a2 : leastO l ≤ z:=by
  rcases h.is with e | ⟨e,he,e1⟩
  · rw [e];exact h1
  · have : e.val ∈ es.toList.map (·.val):=List.mem_map.2 ⟨e,he,rfl⟩
    rw [hv,e1] at this
    obtain ⟨p,hp,e2⟩:=List.mem_map.1 this
    have hp2:=h2 p hp
    cases e2
    exact hp2
 omega
theorem least_next {es : Array MapEntry} {seen : Array Nat} {z t : Int} (h : LeastP es seen z) {e : MapEntry} (he : e ∈ es.toList) (hn : (es.toList.map (·.born)).Nodup) (hv : e.val = .int .i64 t) : LeastP es (seen.push e.born) (min z t):=by
 refine ⟨by have:=h.top;omega,fun e2 he2 hs u hu=>?_,?_⟩
 · rw [Array.mem_push] at hs
   rcases hs with hs | hs
   · have:=h.low e2 he2 hs u hu;omega
   · obtain ⟨i,hi,e3⟩:=List.mem_iff_getElem.1 he
     obtain ⟨j,hj,e4⟩:=List.mem_iff_getElem.1 he2
     have : (es.toList.map (·.born))[i]'(by simpa using hi) = (es.toList.map (·.born))[j]'(by simpa using hj):=by simp only [List.getElem_map,e3,e4,hs]
     have:=(List.getElem_inj hn).1 this
     subst this
     rw [e3] at e4;subst e4
     rw [hv] at hu;cases hu;omega
 · rcases Int.le_total z t with h1 | h1
   · rcases h.is with e1 | ⟨e2,he2,e1⟩
     · exact .inl (by omega)
     · exact .inr ⟨e2,he2,by rw [e1];congr 1;omega⟩
   · exact .inr ⟨e,he,by rw [hv];congr 1;omega⟩
theorem tells_size {es : Array MapEntry} {clock : Nat} {l : List (Int × Int)} (ht : Tells Tryz.prog 3 intE es clock (iiV l)) : es.size = l.length:=by
 have:=congrArg List.length (tells_vals ht);simpa using this
def leftE2 (S0 : Nat) (r : Nat) (w : World) : Nat:=leftE r S0 w
def GoRel (X M r : Nat) (no low : Int) (es : Array MapEntry) (clock : Nat) (l : List (Int × Int)) (w : World) (v : Value) (wr : World) : Prop:=
 ∃ (seen : Array Nat) (pre : List Int) (rest : List MapEntry) (z : Int),v = .int .i64 z ∧ Hid (Came es (iiV l) seen pre rest) ∧ Hid (LeastP es seen z) ∧
  St (fun _=>False) w wr [IterE r M clock seen clock,Blk true X #[.int .i64 no,.map (some M),.int .i64 low] 180,MapE true M es clock]
theorem left_of2 {M r clock c0 n : Nat} {seen : Array Nat} {L : List Asn} {G : Nat → Prop} {w0 w : World} (S : St G w0 w (IterE r M clock seen c0 :: L)) : leftE r n w = n - seen.size:=by
 obtain ⟨F,hF⟩:=S.get (i:=0) rfl
 unfold leftE
 rw [hF.1]
theorem gopen_parts (X M : Nat) (no : Int) (opn : List (Int × Int)) (low : Int) (w : World) (F F2 : Nat → Prop) (h1 : (Blk true X #[.int .i64 no,.map (some M),.int .i64 low] 180).at_ w F) (h2 : (MapK true Tryz.prog 3 intE M (iiV opn)).at_ w F2) :
 Calls Tryz.prog 174 #[.pointer (some ⟨X,0,none⟩)] w fun e w'=>e = .returned (.tuple #[.int .i64 opn.length,.int .i64 (leastO opn)]) ∧ Below w.heap.size w w':=by
 obtain ⟨⟨es,clock,h7,ht⟩,h9⟩:=h2
 have S : St (fun _=>False) w w [Blk true X #[.int .i64 no,.map (some M),.int .i64 low] 180,MapE true M es clock]:=by
  have S1 : St (fun _=>False) w w [MapE true M es clock]:=(St.init _ w).share (F:=F2) rfl rfl ⟨h7,h9⟩
  exact S1.share (A:=Blk true X #[.int .i64 no,.map (some M),.int .i64 low] 180) rfl rfl h1
 clear h1 h7 h9
 have HT:=Lib.hid ht
 have hsz:=tells_size ht
 have HSZ:=Lib.hid hsz
 clear ht hsz
 go_enter Tryz.func174,Tryz.ntmps174
 go_wp2_with first | ((with_reducible apply wps_load S 0);(case hx|hi|hu=>rfl);(case hT=>decide +kernel)) | ((with_reducible apply wps_rangeE Tryz.underlying178 S 1 rfl);(case hx=>rfl);clear S;intro r wz S)
 go_frame
 go_loopw [4] (fun v wr=>GoRel X M r no low es clock opn w v wr) (fun _ wr=>leftE r es.size wr)
 case atStart=>exact ⟨#[],[],_,1073741825,rfl,Lib.hid (came_start es _),Lib.hid ⟨Int.le_refl _,fun e _ hs=>by simp at hs,.inl rfl⟩,S⟩
 case round=>
  clear S
  obtain ⟨seen,pre,rest,z,rfl,HC,HP,S⟩:=hrel
  have HLF:=Lib.hid (left_of2 (n:=es.size) S)
  go_wp2_with first | ((with_reducible refine wps_nextE S 0 2 rfl rfl HT.out.old (Nat.le_refl _) ?hx ?hdone ?hmore);(case hx=>rfl))
  case hdone=>
   intro hd
   have HZ:=Lib.hid (least_done HT.out HP.out hd)
   clear hd
   go_wp2_with first | ((with_reducible apply wps_load S 1);(case hx|hi|hu=>rfl);(case hT=>decide +kernel)) | ((with_reducible apply wps_lenE Tryz.underlying178 S 2 rfl);(case hx=>rfl))
   (try simp only [Exit.inBlock,Exit.then]);refine bodyPost_ret (results2 rfl (res_tmp rfl) (res_tmp rfl)) rfl ?_
   exact ⟨by rw [← HZ.out,← HSZ.out];rfl,S.below⟩
  case hmore=>
   intro e w2 he hs S2
   obtain ⟨k,rest',hk,hC2,hlen,-⟩:=came_next HT.out HC.out he hs
   simp only [set_cons_zero] at S2
   obtain ⟨t,hv⟩ : ∃ t : Int,e.val = .int .i64 t:=by
    have h1:=tells_vals HT.out
    have h2 : e.val ∈ es.toList.map (·.val):=List.mem_map.2 ⟨e,he,rfl⟩
    rw [h1] at h2
    obtain ⟨p,_,e1⟩:=List.mem_map.1 h2
    exact ⟨p.2,e1.symm⟩
   obtain ⟨ek,ev,eb⟩:=e
   simp only at hk hv
   subst hk
   subst hv
   have HP2:=Lib.hid (least_next HP.out he HT.out.born rfl)
   have HC2:=Lib.hid hC2
   have HE:=Lib.hid he
   have hle : seen.size < es.size:=by
    obtain ⟨got,g1,g2,g3⟩:=hC2.split
    have h1:=g1.length_eq
    have h2:=congrArg List.length g2
    simp at h1 h2
    omega
   have HLE:=Lib.hid hle
   clear hC2 he hs hle S hlen
   have S:=S2
   clear S2
   have HLF2:=Lib.hid (left_of2 (n:=es.size) S)
   go_wp2_with first | ((with_reducible apply wps_entryE (e:=⟨.int .i64 k,.int .i64 t,eb⟩) S 0 2 rfl rfl HE.out HT.out.born);(case hx=>rfl))
   go_roundw
   case rel=>exact ⟨_,_,rest',_,rfl,HC2,Lib.hid (by have:=HP2.out;rw [Int.min_def] at this;first | exact this | (split at this <;> split <;> first | exact this | (exfalso;omega))),S⟩
   case measure=>
    have h1:=HLF.out;have h2:=HLF2.out;have h3:=HLE.out
    rw [Array.size_push] at h2
    show leftE r es.size w2 < leftE r es.size wr
    omega
end Go.Proofs.YtmjljoaakdocaaaGreatDoor
/- The walk of a worker of rounds' Start. -/
namespace Go.Proofs.YtmjljoaakdocaaaGreatDoor
open Go Go.RowKit Reg Mem
open List (set_cons_succ set_cons_zero setIfInBounds_toArray cons_append nil_append)
def gvtB (X : Nat) (no : Int) (opn : List (Int × Int)) (low : Int) (M : Nat) : Asn:=sep false (Blk false X #[.int .i64 no,.map (some M),.int .i64 low] 180) (MapK false Tryz.prog 3 intE M (iiV opn))
theorem gvt_open {G : Nat → Prop} {w0 w : World} {L : List Asn} {X : Nat} {no : Int} {opn : List (Int × Int)} {low : Int} (S : St G w0 w (gvtA X no opn low :: L)) : ∃ M,St G w0 w (Blk false X #[.int .i64 no,.map (some M),.int .i64 low] 180 :: MapK false Tryz.prog 3 intE M (iiV opn) :: L):=by
 obtain ⟨M,S⟩:=S.open_exs (fun _=>rfl)
 exact ⟨M,S.open_sep rfl rfl⟩
theorem gvt_close {G : Nat → Prop} {w0 w : World} {L : List Asn} {X M : Nat} {no : Int} {opn : List (Int × Int)} {low : Int} (S : St G w0 w (Blk false X #[.int .i64 no,.map (some M),.int .i64 low] 180 :: MapK false Tryz.prog 3 intE M (iiV opn) :: L)) : St G w0 w (gvtA X no opn low :: L):=by
 have S2 : St G w0 w (gvtB X no opn low M :: L):=S.close_sep rfl rfl
 exact S2.close_exs (A:=gvtB X no opn low) M rfl
def startW (opn : List (Int × Int)) (low : Int) (l : List Int) : Int:=l.foldl min (min (leastO opn) low)
def GsRel1 (T : List Asn) (n : Nat) (F : Nat → Prop) (w : World) (i : Value) (wr : World) : Prop:=∃ j : Nat,j ≤ n ∧ i = .int .i64 j ∧ St F w wr T
def GsRel2 (T : List Asn) (l : List Int) (a : Int) (F : Nat → Prop) (w : World) (v i : Value) (wr : World) : Prop:=
 ∃ (j : Nat) (z : Int),j ≤ l.length ∧ i = .int .i64 j ∧ v = .int .i64 z ∧ Hid ((l.take j).foldl min a = z) ∧ St F w wr T
theorem gstart_calls (X : Nat) (no : Int) (opn : List (Int × Int)) (low : Int) (v : Value) (l : List Int) (w : World) (F : Nat → Prop) (S0 : St F w w [gvtA X no opn low,Sl true intE 1 v l]) (h0 : -9223372036854775808 ≤ no) (h1 : no < 9223372036854775807) (hn : l.length ≤ 65536) (hl : ∀ t ∈ l,timeB t = true) :
 Calls Tryz.prog 134 #[.pointer (some ⟨X,0,none⟩),.int .i64 (no + 1),v] w fun e w'=>e = .returned (.tuple #[.int .i64 (startW opn low l),.int .i64 0]) ∧ St F w w' [gvtA X (no + 1) opn 1073741825]:=by
 obtain ⟨M,S⟩:=gvt_open S0
 clear S0
 obtain ⟨ad,c,rfl,_⟩:=(S.sl 2 rfl).elim fun _ h=>h.form
 have HF:=Lib.hid fun w=>follows_calls no h0 h1 w
 have HO:=Lib.hid fun w F F2 h1 h2=>gopen_parts X M no opn low w F F2 h1 h2
 have HT : Hid (∀ t,t ∈ l → ∀ w,Calls Tryz.prog 135 #[.int .i64 t] w fun e w'=>e = .returned (.bool true) ∧ Below w.heap.size w w'):=Lib.hid fun t ht w=>by have:=isTime_calls t w;rwa [hl t ht] at this
 obtain ⟨V,hV⟩ : ∃ V,startW opn low l = V:=⟨_,rfl⟩
 rw [hV]
 unfold startW at hV
 have HV:=Lib.hid hV
 have f1 : ((no + 1) != (no + 1)) = false:=by simp
 clear hV h0 h1 hl
 generalize leastO opn = lo at *
 go_enter Tryz.func134,Tryz.ntmps134
 go_wp2_with first | ((with_reducible apply wps_loada (T:=127) (k:=1) S 0);(case hx|hi=>rfl);(case hk=>exact nle rfl);(case hT=>decide +kernel)) | (go_at_call 133;refine Calls.mono (HF.out _) ?_;rintro e wz ⟨rfl,hE⟩;replace S:=S.ext (Keep.of_below hE);clear hE)
 go_loopw [25] (fun i wr=>GsRel1 [Blk false X #[.int .i64 no,.map (some M),.int .i64 low] 180,MapK false Tryz.prog 3 intE M (iiV opn),Sl true intE 1 (.slice ad l.length c) l] l.length F w i wr) (fun i _=>l.length - (intOf i).toNat)
 case atStart=>exact ⟨0,Nat.zero_le _,rfl,S⟩
 case round=>
  clear S
  obtain ⟨j,hj,rfl,S⟩:=hrel
  by_cases hlt : j < l.length
  · obtain ⟨x,hx⟩ : ∃ x,l[j]? = some x:=⟨_,List.getElem?_eq_getElem hlt⟩
    obtain ⟨R,o,rfl⟩ : ∃ R o,ad = some ⟨R,o,none⟩:=(S.sl 2 rfl).elim fun F h=>h.head (by omega)
    have hlt2 : (j : Int) < l.length:=by omega
    have HX:=Lib.hid hx
    have HT2:=Lib.hid (HT.out x (List.mem_of_getElem? hx))
    clear hx
    go_wp2_with first | ((with_reducible apply wps_load_el S 2 (hj:=HX.out) (q:=0) (u:=(.int .i64 x)));(case hx|hi=>rfl);(case hn=>omega);(case hu=>rfl);(case hT=>decide +kernel)) | (go_at_call 135;refine Calls.mono (HT2.out _) ?_;rintro e wz ⟨rfl,hE⟩;replace S:=S.ext (Keep.of_below hE);clear hE)
    go_roundw
    case rel=>exact ⟨j + 1,by omega,by go_num,S⟩
    case measure=>first | (simp [intOf];done) | (simp [intOf];omega)
  · obtain rfl : j = l.length:=by omega
    go_wp2_with first | (go_at_call 174;refine Calls.mono (HO.out _ _ _ (S.get (i:=0) rfl).choose_spec (S.get (i:=1) rfl).choose_spec) ?_;rintro e wz ⟨rfl,hE⟩;replace S:=S.ext (Keep.of_below hE);clear hE) | ((with_reducible apply wps_load S 0);(case hx|hi|hu=>rfl);(case hT=>decide +kernel))
    generalize min lo low = a0 at *
    go_loopw [11,46] (fun v i wr=>GsRel2 [Blk false X #[.int .i64 no,.map (some M),.int .i64 low] 180,MapK false Tryz.prog 3 intE M (iiV opn),Sl true intE 1 (.slice ad l.length c) l] l a0 F w v i wr) (fun _ i _=>l.length - (intOf i).toNat)
    case atStart=>exact ⟨0,a0,Nat.zero_le _,rfl,rfl,Lib.hid rfl,S⟩
    case round=>
     clear S
     obtain ⟨j,z,hj,rfl,rfl,HJ,S⟩:=hrel
     by_cases hlt : j < l.length
     · obtain ⟨x,hx⟩ : ∃ x,l[j]? = some x:=⟨_,List.getElem?_eq_getElem hlt⟩
       obtain ⟨R,o,rfl⟩ : ∃ R o,ad = some ⟨R,o,none⟩:=(S.sl 2 rfl).elim fun F h=>h.head (by omega)
       have hlt2 : (j : Int) < l.length:=by omega
       have HX:=Lib.hid hx
       have HJ2 : Hid ((l.take (j + 1)).foldl min a0 = min z x):=Lib.hid (by rw [List.take_add_one,hx,Option.toList_some,List.foldl_append,HJ.out];first | done | rfl)
       clear hx
       go_wp2_with first | ((with_reducible apply wps_load_el S 2 (hj:=HX.out) (q:=0) (u:=(.int .i64 x)));(case hx|hi=>rfl);(case hn=>omega);(case hu=>rfl);(case hT=>decide +kernel))
       go_roundw
       case rel=>exact ⟨j + 1,_,by omega,by go_num,rfl,Lib.hid (HJ2.out.trans (by rw [Int.min_def])),S⟩
       case measure=>first | (simp [intOf];done) | (simp [intOf];omega)
     · obtain rfl : j = l.length:=by omega
       rw [List.take_length,HV.out] at HJ
       obtain rfl : V = z:=HJ.out
       go_wp2_with first | ((with_reducible apply wps_store (u:=(.int .i64 (no + 1))) S 0);(case hx|hy|hi|h1=>rfl);(case hn=>exact nle rfl);(case hT=>decide +kernel);clear S;intro wz S;simp only [set_cons_zero,setIfInBounds_toArray] at S) | ((with_reducible apply wps_store (u:=(.int .i64 1073741825)) S 0);(case hx|hy|hi|h1=>rfl);(case hn=>exact nle rfl);(case hT=>decide +kernel);clear S;intro wz S;simp only [set_cons_succ,set_cons_zero,setIfInBounds_toArray] at S)
       (try simp only [Exit.inBlock,Exit.then]);refine bodyPost_ret (results2 rfl (res_tmp rfl) (res_tmp rfl)) rfl ?_
       exact ⟨rfl,gvt_close (S.pick [0,1] rfl)⟩
end Go.Proofs.YtmjljoaakdocaaaGreatDoor
/- The walk of a worker's Report. -/
namespace Go.Proofs.YtmjljoaakdocaaaGreatDoor
open Go Go.RowKit Reg Mem
open List (set_cons_succ set_cons_zero setIfInBounds_toArray cons_append nil_append)
def reportW (k : WkE) : Int:=startW k.opn k.low (localE k)
theorem wreport_calls (W R : Nat) (k : WkE) (hk : WkFine k) (w : World) (F : Nat → Prop) (S0 : St F w w [workerA W R k]) (h0 : -9223372036854775808 ≤ k.no) (h1 : k.no < 9223372036854775807) (hl : ∀ t ∈ localE k,timeB t = true) :
 Calls Tryz.prog 90 #[.pointer (some ⟨W,0,none⟩),.int .i64 (k.no + 1)] w fun e w'=>e = .returned (.tuple #[.int .i64 (reportW k),.int .i64 0]) ∧ St F w w' [workerA W R { k with no:=k.no + 1,low:=1073741825 }]:=by
 obtain ⟨g,M,qs,hq,S⟩:=worker_open S0
 clear S0
 have HQ:=Lib.hid hq
 have HL:=Lib.hid fun w F h=>wlocal_calls W R k hk w F h
 have HG:=Lib.hid fun v w F S0=>gstart_calls g k.no k.opn k.low v (localE k) w F S0 h0 h1 (by unfold localE;rw [List.length_map];have:=hk.many;omega) hl
 clear hq hk h0 h1 hl
 go_enter Tryz.func90,Tryz.ntmps90
 go_wp2_with first | ((with_reducible apply wps_load S 3);(case hx|hi|hu=>rfl);(case hT=>decide +kernel)) | (go_at_call 31;(with_reducible refine Calls.mono (HL.out _ _ ((worker_close HQ.out S).get (i:=0) rfl).choose_spec) ?_);rintro rr wz ⟨v,rfl,T⟩;replace S:=S.join T rfl;clear T;simp only [cons_append,nil_append] at S) | ((with_reducible refine tot_done ?ht ?_);(case ht=>kernel_rfl)) | ((with_reducible apply wps_load S 0);(case hx|hi|hu=>rfl);(case hT=>decide +kernel))
 replace S:=S.freeze true 0 intE_len rfl
 simp only [set_cons_zero] at S
 obtain ⟨Fz,hF,hBk⟩:=S.lend [3] [0] [1,2,4] rfl rfl rfl
 simp only [cons_append,nil_append,pick,nth] at hF hBk
 refine Calls.mono (HG.out _ _ _ hF) ?_
 rintro rr wz ⟨rfl,T⟩
 replace S:=hBk _ _ T rfl
 clear hBk hF T
 simp only [cons_append,nil_append] at S
 go_wp2_with first | ((with_reducible refine tot_done ?ht ?_);(case ht=>kernel_rfl)) | ((with_reducible apply wps_load S 0);(case hx|hi|hu=>rfl);(case hT=>decide +kernel))
 (try simp only [Exit.inBlock,Exit.then]);refine bodyPost_ret (results2 rfl (res_tmp rfl) (res_tmp rfl)) rfl ?_
 exact ⟨rfl,worker_close (k:={ k with no:=k.no + 1,low:=1073741825 }) (qs:=qs) HQ.out (S.pick [1,2,0,3] rfl)⟩
end Go.Proofs.YtmjljoaakdocaaaGreatDoor
/- The walk of a kernel's deliver, where a round is told. -/
namespace Go.Proofs.YtmjljoaakdocaaaGreatDoor
open Go Go.RowKit Reg Mem
open List (set_cons_succ set_cons_zero setIfInBounds_toArray cons_append nil_append)
theorem netpick_ok (X : Nat) (n : NetE) (bx which : Int) (x : PkE) (hw1 : -9223372036854775808 ≤ which) (hw2 : which ≤ 9223372036854775807) (hd : (n.way.map (·.no)).Nodup) (hn : n.way.length ≤ 1000000) (hb : boxB n.boxes bx = true) (hx : pickE bx which n.way = some x) (w : World) (F : Nat → Prop) (S0 : St F w w [netA X n]) :
 Calls Tryz.prog 87 #[.pointer (some ⟨X,0,none⟩),.int .i64 bx,.int .i64 which] w fun e w'=>e = .returned (.tuple #[.agg #[.int .i64 x.no,.int .i64 x.from_,.int .i64 x.to_,.int .i64 x.x.kind,.int .i64 x.x.m.ev.key.at_,.int .i64 x.x.m.ev.key.src,.int .i64 x.x.m.ev.key.sent,.int .i64 x.x.m.ev.key.no,.int .i64 x.x.m.ev.dst,.int .i64 x.x.m.ev.kind,.int .i64 x.x.m.ev.data,.bool x.x.m.anti,.int .i64 x.x.no,.int .i64 x.x.at_],.int .i64 0]) ∧ St F w w' [netA X (n.less x.no)]:=by
 refine (netpick_calls X n bx which hw1 hw2 hd hn w F S0).mono ?_
 rintro e w' (⟨h,_⟩ | ⟨_,h,_⟩ | ⟨_,y,hy,_,rfl,S⟩)
 · rw [hb] at h;cases h
 · unfold pickE at hx;rw [h] at hx;simp at hx
 · rw [hx] at hy;cases hy;exact ⟨rfl,S⟩
def reportI (no at_ : Int) : ItemE:=⟨4,⟨⟨⟨0,0,0,0⟩,0,0,0⟩,false⟩,no,at_⟩
def WkE.told (k : WkE) : WkE:={ k with no:=k.no + 1,low:=1073741825 }
def started (k : KeE) (x : PkE) (i : Nat) (kj : WkE) : KeE:={ k with ws:=k.ws.set i kj.told,net:=(k.net.less x.no).sent x.to_ k.ws.length (reportI x.x.no (reportW kj)) }
theorem kdeliver_start (X R : Nat) (k : KeE) (d : Int × Int × Int) (x : PkE) (kj : WkE) (hk : KeRun k) (hd1 : -9223372036854775808 ≤ d.2.2) (hd2 : d.2.2 ≤ 9223372036854775807) (hd : (k.net.way.map (·.no)).Nodup) (hb : boxB k.net.boxes d.2.1 = true) (hx : pickE d.2.1 d.2.2 k.net.way = some x)
 (hkd : x.x.kind = 3) (h0 : 0 ≤ x.to_) (h1 : x.to_ < k.ws.length) (hkj : k.ws[x.to_.toNat]? = some kj) (hno : x.x.no = kj.no + 1) (hn0 : -9223372036854775808 ≤ kj.no) (hn1 : kj.no < 9223372036854775807) (hl : ∀ t ∈ localE kj,timeB t = true) (w : World) (F : Nat → Prop) (S0 : St F w w [kernelA X R k]) :
 Calls Tryz.prog 54 #[.pointer (some ⟨X,0,none⟩),.agg #[.int .i64 d.1,.int .i64 d.2.1,.int .i64 d.2.2]] w fun e w'=>e = .returned (.int .i64 0) ∧ St F w w' [kernelA X R (started k x x.to_.toNat kj)]:=by
 obtain ⟨q,hq,S⟩:=kernel_open S0
 clear S0
 have HK:=Lib.hid hk
 have HP:=Lib.hid fun w F S0=>netpick_ok q.nt k.net d.2.1 d.2.2 x hd1 hd2 hd hk.way hb hx w F S0
 obtain ⟨wa,hwa,hwk⟩ : ∃ wa,q.ws[x.to_.toNat]? = some wa ∧ wa.k = kj:=by
  rw [← hq,List.getElem?_map] at hkj
  exact Option.map_eq_some_iff.1 hkj
 have HWR:=Lib.hid fun w F S0=>wreport_calls wa.x R kj (hk.ok kj (List.mem_of_getElem? hkj)) w F S0 hn0 hn1 hl
 rw [← hno] at HWR
 rw [show ({ kj with no:=x.x.no,low:=1073741825 } : WkE) = kj.told by unfold WkE.told;rw [hno]] at HWR
 have HXI : Hid ((q.ws.map WkAt.x)[x.to_.toNat]? = some wa.x):=Lib.hid (by rw [List.getElem?_map,hwa];rfl)
 have HUS : Hid ((q.ws.map fun p : WkAt=>workerA p.x R p.k)[x.to_.toNat]? = some (workerA wa.x R kj)):=Lib.hid (by rw [List.getElem?_map,hwa,← hwk];rfl)
 have HSET : Hid ((q.ws.map fun p : WkAt=>workerA p.x R p.k).set x.to_.toNat (workerA wa.x R kj.told) = (q.ws.set x.to_.toNat ⟨wa.x,kj.told⟩).map fun p : WkAt=>workerA p.x R p.k):=Lib.hid (by rw [List.map_set])
 have HQ2 : Hid ((q.ws.set x.to_.toNat ⟨wa.x,kj.told⟩).map WkAt.k = k.ws.set x.to_.toNat kj.told):=Lib.hid (by rw [List.map_set,hq])
 have HX2 : Hid ((q.ws.set x.to_.toNat ⟨wa.x,kj.told⟩).map WkAt.x = q.ws.map WkAt.x):=Lib.hid (by
  rw [List.map_set]
  have e1 : (q.ws.map WkAt.x)[x.to_.toNat]? = some wa.x:=by rw [List.getElem?_map,hwa];rfl
  obtain ⟨e2,e3⟩:=List.getElem?_eq_some_iff.1 e1
  show (q.ws.map WkAt.x).set x.to_.toNat wa.x = _
  rw [← e3,List.set_getElem_self])
 have HLW : Hid ((q.ws.map WkAt.x).length = k.ws.length):=Lib.hid (by rw [List.length_map,← hq,List.length_map])
 have HSD:=Lib.hid fun v w F S0=>netsend_calls q.nt (k.net.less x.no) x.to_ k.ws.length v (reportI x.x.no (reportW kj)) w F S0 (by show boxB k.net.boxes _ = true;rw [hk.boxes];unfold boxB;simp;omega) (by show boxB k.net.boxes _ = true;rw [hk.boxes];unfold boxB;simp;omega) hk.next0 (by have:=hk.next1;show k.net.next < _;omega) (by have:=hk.way1;exact Nat.lt_of_le_of_lt (List.length_filter_le ..) (by omega))
 have hwl:=hk.many
 have f0 : (x.x.kind == 0) = false:=by rw [hkd];rfl
 have f1 : (x.x.kind == 1) = false:=by rw [hkd];rfl
 have f2 : (x.x.kind == 2) = false:=by rw [hkd];rfl
 have f3 : (x.x.kind == 3) = true:=by rw [hkd];rfl
 clear hk hq hkd hd1 hd2 hd hb hx hkj hwa hwk hno hn0 hn1 hl
 obtain ⟨Rv,cv,hqv⟩:=own_hdE 5 S rfl (by rw [HLW.out];omega)
 rw [HLW.out] at hqv
 unfold kernelBlk at S
 rw [hqv] at S
 have HQV:=Lib.hid hqv
 clear hqv
 obtain ⟨rw0,hrw⟩ : ∃ r,reportW kj = r:=⟨_,rfl⟩
 rw [hrw] at HSD HWR
 have HRW:=Lib.hid hrw
 clear hrw
 go_enter Tryz.func54,Tryz.ntmps54
 go_upto_region 1 with first | ((with_reducible apply wps_boxa (E:=23) S);(case hx=>rfl);clear S;intro b3 wz S)
 replace S:=S.pick [0,1,2,3,5,6,7,4] rfl
 simp only [pick,nth] at S
 (refine wp_region_wt (soft:=[0,1,2,3,4,5,6,7]) (L:=[_,_,_,_,_,_,_]) (T:=[_]) S ?hm ?hB ?_);(case hm=>kernel_rfl);(case hB=>decide +kernel);clear S
 iterate 8
  (with_reducible apply softs_cons)
  (case hw=>
    (with_reducible apply soft_of);(case hi=>rfl)
    intro T wz S
    simp only [cons_append,nil_append] at S
    go_wp2_with first | ((with_reducible apply wps_load S 6);(case hx|hi|hu=>rfl);(case hT=>decide +kernel)) | ((with_reducible apply wps_load S 0);(case hx|hi|hu=>rfl);(case hT=>decide +kernel)) | ((with_reducible refine tot_done ?ht ?_);(case ht=>kernel_rfl))
    exact ⟨rfl,S⟩)
  (case hs=>exact ⟨_,rfl,by kernel_rfl⟩)
 refine softs_nil ?_
 (with_reducible apply W_hard2 (i:=8) (i':=12));(case hn=>rfl);(case hr=>decide +kernel)
 focus
  intro wz S
  (with_reducible apply hard_of);(case hi=>rfl)
  simp only [cons_append,nil_append] at S
  go_wp2_with first | (go_at_call 87;obtain ⟨Fz,hF,hBk⟩:=S.lend [7] [] [0,1,2,3,4,5,6] rfl rfl rfl;simp only [cons_append,nil_append,pick,nth] at hF hBk;refine Calls.mono (HP.out _ _ hF) ?_;rintro rr wz ⟨rfl,T⟩;replace S:=(hBk _ _ T rfl).pick [1,2,3,4,5,6,7,0] rfl;clear hBk hF T;simp only [cons_append,nil_append,pick,nth] at S) | ((with_reducible refine tot_done ?ht ?_);(case ht=>kernel_rfl))
  refine ⟨_,S,?_⟩
  clear S
  (refine W_mid (f:=3) (soft:=[9,10,11]) rfl ?hB ?_);(case hB=>decide +kernel)
  iterate 3
   (with_reducible apply softs_cons)
   (case hw=>
     (with_reducible apply soft_of);(case hi=>rfl)
     intro T wz S
     simp only [cons_append,nil_append] at S
     go_wp2_with first | ((with_reducible refine tot_done ?ht ?_);(case ht=>kernel_rfl))
     exact ⟨rfl,S⟩)
   (case hs=>exact ⟨_,rfl,by kernel_rfl⟩)
  refine softs_nil ?_
  (with_reducible apply W_hard1 (i:=12));(case hn=>rfl);(case hr=>decide +kernel)
  intro wz S
  (with_reducible apply hard_of);(case hi=>rfl)
  simp only [cons_append,nil_append] at S
  go_wp2_with first | ((with_reducible apply wps_alloca (E:=100) S);(case hz=>exact Tryz.zeroValue100);clear S;intro b5 wz S) | ((with_reducible refine tot_done ?ht ?_);(case ht=>kernel_rfl))
  refine ⟨_,S.pick [1,2,3,4,5,6,7,8,0] rfl,?_⟩
  clear S
  (with_reducible apply W_hard1 (i:=13));(case hn=>rfl);(case hr=>decide +kernel)
  intro wz S
  (with_reducible apply hard_of);(case hi=>rfl)
  simp only [cons_append,nil_append] at S
  go_wp2_with first | ((with_reducible apply wps_storea (T:=100) S 8 (vs:=[.int .i64 x.no,.int .i64 x.from_,.int .i64 x.to_,.int .i64 x.x.kind,.int .i64 x.x.m.ev.key.at_,.int .i64 x.x.m.ev.key.src,.int .i64 x.x.m.ev.key.sent,.int .i64 x.x.m.ev.key.no,.int .i64 x.x.m.ev.dst,.int .i64 x.x.m.ev.kind,.int .i64 x.x.m.ev.data,.bool x.x.m.anti,.int .i64 x.x.no,.int .i64 x.x.at_]) (m:=14));(case hx|hy|hi|hm|h1=>rfl);(case hn=>exact nle rfl);(case hT=>decide +kernel);clear S;intro wz S;simp only [set_cons_zero,set_cons_succ,setAll,setIfInBounds_toArray] at S) | ((with_reducible refine tot_done ?ht ?_);(case ht=>kernel_rfl))
  refine ⟨_,S,?_⟩
  clear S
  (refine W_mid (f:=0) (soft:=[14]) rfl ?hB ?_);(case hB=>decide +kernel)
  iterate 1
   (with_reducible apply softs_cons)
   (case hw=>
     (with_reducible apply soft_of);(case hi=>rfl)
     intro T wz S
     simp only [cons_append,nil_append] at S
     go_wp2_with first | ((with_reducible refine tot_done ?ht ?_);(case ht=>kernel_rfl))
     exact ⟨rfl,S⟩)
   (case hs=>exact ⟨_,rfl,by kernel_rfl⟩)
  refine softs_nil ?_
  (with_reducible apply W_done);(case hn=>rfl);(case hr=>decide +kernel)
  intro wz S
  repeat (first | simp only at S | simp only [pick] at S | simp only [nth] at S | simp only [set_cons_succ] at S | simp only [set_cons_zero] at S | simp only [setIfInBounds_toArray] at S | simp only [setAll] at S | simp only [cons_append] at S | simp only [nil_append] at S | simp only [List.append_nil] at S)
 rotate_left 1
 focus
  intro wz S
  (with_reducible apply hard_of);(case hi=>rfl)
  simp only [cons_append,nil_append] at S
  go_wp2_with first | ((with_reducible apply wps_alloca (E:=100) S);(case hz=>exact Tryz.zeroValue100);clear S;intro b5 wz S) | ((with_reducible refine tot_done ?ht ?_);(case ht=>kernel_rfl))
  refine ⟨_,S.pick [1,2,3,4,5,6,7,8,0] rfl,?_⟩
  clear S
  (with_reducible apply W_hard1 (i:=8));(case hn=>rfl);(case hr=>decide +kernel)
  intro wz S
  (with_reducible apply hard_of);(case hi=>rfl)
  simp only [cons_append,nil_append] at S
  go_wp2_with first | (go_at_call 87;obtain ⟨Fz,hF,hBk⟩:=S.lend [7] [] [0,1,2,3,4,5,6,8] rfl rfl rfl;simp only [cons_append,nil_append,pick,nth] at hF hBk;refine Calls.mono (HP.out _ _ hF) ?_;rintro rr wz ⟨rfl,T⟩;replace S:=(hBk _ _ T rfl).pick [1,2,3,4,5,6,7,0,8] rfl;clear hBk hF T;simp only [cons_append,nil_append,pick,nth] at S) | ((with_reducible refine tot_done ?ht ?_);(case ht=>kernel_rfl))
  refine ⟨_,S,?_⟩
  clear S
  (refine W_mid (f:=2) (soft:=[9,10,11]) rfl ?hB ?_);(case hB=>decide +kernel)
  iterate 3
   (with_reducible apply softs_cons)
   (case hw=>
     (with_reducible apply soft_of);(case hi=>rfl)
     intro T wz S
     simp only [cons_append,nil_append] at S
     go_wp2_with first | ((with_reducible refine tot_done ?ht ?_);(case ht=>kernel_rfl))
     exact ⟨rfl,S⟩)
   (case hs=>exact ⟨_,rfl,by kernel_rfl⟩)
  refine softs_nil ?_
  (with_reducible apply W_hard1 (i:=13));(case hn=>rfl);(case hr=>decide +kernel)
  intro wz S
  (with_reducible apply hard_of);(case hi=>rfl)
  simp only [cons_append,nil_append] at S
  go_wp2_with first | ((with_reducible apply wps_storea (T:=100) S 8 (vs:=[.int .i64 x.no,.int .i64 x.from_,.int .i64 x.to_,.int .i64 x.x.kind,.int .i64 x.x.m.ev.key.at_,.int .i64 x.x.m.ev.key.src,.int .i64 x.x.m.ev.key.sent,.int .i64 x.x.m.ev.key.no,.int .i64 x.x.m.ev.dst,.int .i64 x.x.m.ev.kind,.int .i64 x.x.m.ev.data,.bool x.x.m.anti,.int .i64 x.x.no,.int .i64 x.x.at_]) (m:=14));(case hx|hy|hi|hm|h1=>rfl);(case hn=>exact nle rfl);(case hT=>decide +kernel);clear S;intro wz S;simp only [set_cons_zero,set_cons_succ,setAll,setIfInBounds_toArray] at S) | ((with_reducible refine tot_done ?ht ?_);(case ht=>kernel_rfl))
  refine ⟨_,S,?_⟩
  clear S
  (refine W_mid (f:=0) (soft:=[14]) rfl ?hB ?_);(case hB=>decide +kernel)
  iterate 1
   (with_reducible apply softs_cons)
   (case hw=>
     (with_reducible apply soft_of);(case hi=>rfl)
     intro T wz S
     simp only [cons_append,nil_append] at S
     go_wp2_with first | ((with_reducible refine tot_done ?ht ?_);(case ht=>kernel_rfl))
     exact ⟨rfl,S⟩)
   (case hs=>exact ⟨_,rfl,by kernel_rfl⟩)
  refine softs_nil ?_
  (with_reducible apply W_done);(case hn=>rfl);(case hr=>decide +kernel)
  intro wz S
  repeat (first | simp only at S | simp only [pick] at S | simp only [nth] at S | simp only [set_cons_succ] at S | simp only [set_cons_zero] at S | simp only [setIfInBounds_toArray] at S | simp only [setAll] at S | simp only [cons_append] at S | simp only [nil_append] at S | simp only [List.append_nil] at S)
 all_goals
  go_wp2_with first | ((with_reducible apply wps_load S 8);(case hx|hi|hu=>rfl);(case hT=>decide +kernel)) | ((with_reducible apply wps_load S 6);(case hx|hi|hu=>rfl);(case hT=>decide +kernel)) | ((with_reducible apply wps_load_own wpElen S 5 (hj:=HXI.out) (q:=0) (u:=(.pointer (some ⟨wa.x,0,none⟩))));(case hx|hi=>rfl);(case hn=>omega);(case hu=>rfl);(case hT=>decide +kernel)) | (go_at_call 90;replace S:=(S.pick [4,0,1,2,3,5,6,7,8] rfl).starPull x.to_.toNat HUS.out rfl;simp only [pick,nth] at S;obtain ⟨Fz,hF,hBk⟩:=S.lend [0] [] [1,2,3,4,5,6,7,8,9] rfl rfl rfl;simp only [cons_append,nil_append,pick,nth] at hF hBk;refine Calls.mono (HWR.out _ _ hF) ?_;rintro rr wz ⟨rfl,T⟩;replace S:=hBk _ _ T rfl;clear hBk hF T;simp only [cons_append,nil_append] at S;replace S:=S.starPush x.to_.toNat (List.getElem?_set_self (by have:=(List.getElem?_eq_some_iff.1 HUS.out).1;exact this)) rfl;rw [List.set_set,HSET.out] at S;replace S:=S.pick [1,2,3,4,0,5,6,7,8] rfl;simp only [pick,nth] at S) | ((with_reducible apply wps_buildSlice (T:=264) (E:=86) (cs:=#[.int .i64 4,.int .i64 0,.int .i64 0,.int .i64 0,.int .i64 0,.int .i64 0,.int .i64 0,.int .i64 0,.bool false,.int .i64 x.x.no,.int .i64 rw0]) S);(case hr=>intro w;kernel_rfl);clear S;intro bz wz S) | (go_at_call 91;replace S:=S.weak (i:=0) (A':=Sl true itcell 11 (.slice (some ⟨bz,0,none⟩) 1 1) [reportI x.x.no rw0]) rfl (fun e=>by cases e) (fun F h=>⟨F,fun _ hb=>hb,blk_sl (n:=1) [reportI x.x.no rw0] itcells h rfl rfl⟩);simp only [set_cons_zero] at S;obtain ⟨Fz,hF,hBk⟩:=S.lend [8] [0] [1,2,3,4,5,6,7,9] rfl rfl rfl;simp only [cons_append,nil_append,pick,nth] at hF hBk;refine Calls.mono (HSD.out _ _ _ hF) ?_;rintro rr wz ⟨rfl,T⟩;replace S:=hBk _ _ T rfl;clear hBk hF T;simp only [cons_append,nil_append] at S) | ((with_reducible refine tot_done ?ht ?_);(case ht=>kernel_rfl)) | ((with_reducible apply wps_text S);(case hm=>kernel_rfl);(case hB=>decide +kernel);clear S;intro wz S)
  go_ret
  have S2:=S.pick [2,3,4,0,5,6,7] rfl
  simp only [pick,nth] at S2
  refine ⟨rfl,kernel_close (k:=started k x x.to_.toNat kj) (q:={ q with ws:=q.ws.set x.to_.toNat ⟨wa.x,kj.told⟩ }) HQ2.out ?_⟩
  unfold kernelBlk started
  simp only
  rw [HQV.out,HX2.out,HRW.out]
  exact S2
end Go.Proofs.YtmjljoaakdocaaaGreatDoor
