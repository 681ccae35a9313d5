import Derived.Test.YtcnfionnnpnplaaGreatDoorZ20
import Derived.Test.YtcnfionnnpnplaaGreatDoorZ11
import Derived.Test.YtcnfionnnpnplaaGreatDoorZ03
import Derived.Shelf.SlSortCmp.WholeK
import Derived.Shelf.SlSortCmp.Whole1
import Derived.Test.YtcnfionnnpnplaaGreatDoorProg
import Derived.Shelf.SlLaysF0
import Derived.KernelRfl
import Derived.Shelf.SlSortCmp.NoneTotal
/- The walks of a trace's Of, Len and States, and of a list's ahead. -/
set_option maxHeartbeats 16000000
set_option maxRecDepth 100000
namespace Go.Proofs.YtcnfionnnpnplaaGreatDoor
open Go Go.RowKit Reg Mem
open List (set_cons_succ set_cons_zero setIfInBounds_toArray cons_append nil_append)
def ofQ (t : TrE) (lp : Int) : List BatE:=if 0 ≤ lp then match t[lp.toNat]? with
 | some p=>p.1
 | none=>[] else []
def lenQ (t : TrE) : Nat:=(t.map fun p=>p.1.length).sum
def BatsPost (bs : List BatE) (w : World) (e : Ending) (w' : World) : Prop:=
 ∃ a cp d,e = .returned (.slice a bs.length cp) ∧ d.map (·.b) = bs ∧ St (fun _=>False) w w' [Mem.Own 52 BatV.cells 8 (.slice a bs.length cp) d,insA false d,outA false d]
theorem bats_nil {w w' : World} (S : St (fun _=>False) w w' []) : BatsPost [] w (.returned (.slice none 0 0)) w':=
 ⟨none,0,[],rfl,rfl,(((S.slsNil Event.cells 7).slsNil Event.cells 7).nil 52 BatV.cells 8)⟩
theorem tof_calls (X R : Nat) (t : TrE) (lp : Int) (w : World) (F : Nat → Prop) (h : (traceA X R t).at_ w F) (ht : SmallT t) :
 Calls Tryz.prog 22 #[.pointer (some ⟨X,0,none⟩),.int .i64 lp] w (BatsPost (ofQ t lp) w):=by
 obtain ⟨v,ps,pool,hpt,hpl,S⟩:=traceR_st h
 clear h
 obtain ⟨ap,cp,rfl,_⟩:=(S.sl 3 rfl).elim fun _ h=>h.form
 have hn : ps.length = t.length:=by rw [← hpt,List.length_map]
 by_cases h0 : lp < 0
 · have HR : Hid (ofQ t lp = []):=Lib.hid (by unfold ofQ;rw [if_neg (by omega)])
   rw [HR.out]
   have f1 : decide (lp < 0) = true:=decide_eq_true h0
   clear hpt hpl ht hn
   go_enter Tryz.func22,Tryz.ntmps22
   go_wp2_with first | ((with_reducible apply wps_load S 4);(case hx|hi|hu=>rfl);(case hT=>decide +kernel))
   go_ret
   exact bats_nil (S.pick [] rfl)
 have f1 : decide (lp < 0) = false:=decide_eq_false h0
 by_cases h1 : (ps.length : Int) ≤ lp
 · have HR : Hid (ofQ t lp = []):=Lib.hid (by unfold ofQ;rw [if_pos (by omega),List.getElem?_eq_none (by omega)])
   rw [HR.out]
   have f2 : decide (lp ≥ (ps.length : Int)) = true:=decide_eq_true h1
   have f3 : decide ((ps.length : Int) ≤ lp) = true:=decide_eq_true h1
   clear hpt hpl ht hn
   go_enter Tryz.func22,Tryz.ntmps22
   go_wp2_with first | ((with_reducible apply wps_load S 4);(case hx|hi|hu=>rfl);(case hT=>decide +kernel))
   go_ret
   exact bats_nil (S.pick [] rfl)
 obtain ⟨k,rfl⟩ : ∃ k : Nat,lp = k:=⟨lp.toNat,by omega⟩
 obtain ⟨p,hp⟩ : ∃ p,ps[k]? = some p:=⟨_,List.getElem?_eq_getElem (by omega)⟩
 have hte : t[k]? = some p.e:=by rw [← hpt,List.getElem?_map,hp];rfl
 have hsb : SmallB (p.l.map (·.b)):=ht.2 p.e (List.mem_of_getElem? hte)
 have HR : Hid (ofQ t k = p.l.map (·.b)):=Lib.hid (by unfold ofQ;rw [if_pos (by omega),Int.toNat_natCast,hte];rfl)
 rw [HR.out]
 have HPL : Hid (∀ x ∈ p.l,x ∈ pool):=Lib.hid (hpl p (List.mem_of_getElem? hp))
 have hk2 : (k : Int) < ps.length:=by omega
 obtain ⟨pa,pc,pl,pst⟩:=p
 obtain ⟨R1,o1,rfl⟩ : ∃ R o,ap = some ⟨R,o,none⟩:=(S.sl 3 rfl).elim fun F h=>h.head (by omega)
 have HPV : Hid ((ps.map ProcV.v)[k]? = some (.slice pa pl.length pc)):=Lib.hid (by rw [List.getElem?_map,hp];rfl)
 have HPW : Hid ((ps.map (·.l))[k]? = some pl):=Lib.hid (by rw [List.getElem?_map,hp];rfl)
 have f2 : decide ((k : Int) ≥ (ps.length : Int)) = false:=decide_eq_false h1
 have f3 : decide ((ps.length : Int) ≤ (k : Int)) = false:=decide_eq_false h1
 have HP:=Lib.hid hp
 clear hpt hpl ht hn hte h1 h0 hp
 go_enter Tryz.func22,Tryz.ntmps22
 go_wp2_with first | ((with_reducible apply wps_load_el S 3 (hj:=HP.out) (q:=0) (u:=(⟨pa,pc,pl,pst⟩:ProcV).v));(case hx|hi=>rfl);(case hn=>omega);(case hu=>rfl);(case hT=>decide +kernel)) | (go_at_call 31;refine Calls.mono (town_calls _ _ pl _ _ _ _ (sls_elT (S.get (i:=2) rfl).choose_spec HPV.out HPW.out) (sls_sub true (S.get (i:=0) rfl).choose_spec HPL.out) (sls_sub true (S.get (i:=1) rfl).choose_spec HPL.out) hsb) ?_;rintro e wz ⟨a,ca,d,rfl,hd,T⟩;replace S:=S.join T rfl;clear T;simp only [cons_append,nil_append] at S) | ((with_reducible apply wps_load S 4);(case hx|hi|hu=>rfl);(case hT=>decide +kernel))
 go_ret
 exact ⟨a,ca,d,by rw [List.length_map];rfl,hd,by rw [List.length_map];exact S.pick [0,1,2] rfl⟩
def TLenRel (L : List Asn) (t : TrE) (w : World) (n i : Value) (wr : World) : Prop:=
 ∃ j : Nat,j ≤ t.length ∧ i = .int .i64 j ∧ n = .int .i64 (lenQ (t.take j) : Nat) ∧ St (fun _=>False) w wr L
theorem lenQ_le : ∀ {t : TrE} {n : Nat},(∀ p ∈ t,p.1.length ≤ n) → lenQ t ≤ t.length * n
 | [],n,_=>by simp [lenQ]
 | p :: t,n,h=>by
   have h1:=h p (by simp)
   have h2:=lenQ_le (t:=t) (n:=n) fun q hq=>h q (List.mem_cons_of_mem _ hq)
   unfold lenQ at *
   rw [List.map_cons,List.sum_cons,List.length_cons,Nat.add_mul]
   omega
theorem tlen_calls (X R : Nat) (t : TrE) (w : World) (F : Nat → Prop) (h : (traceA X R t).at_ w F) (ht : SmallT t) :
 Calls Tryz.prog 18 #[.pointer (some ⟨X,0,none⟩)] w fun e w'=>e = .returned (.int .i64 (lenQ t : Nat)) ∧ Below w.heap.size w w':=by
 obtain ⟨v,ps,pool,hpt,hpl,S⟩:=traceR_st h
 clear h
 obtain ⟨ap,cp,rfl,_⟩:=(S.sl 3 rfl).elim fun _ h=>h.form
 have hn : t.length = ps.length:=by rw [← hpt,List.length_map]
 have hn6 : t.length ≤ 65536:=ht.1
 have HT:=Lib.hid ht
 have HPT:=Lib.hid hpt
 clear hpt hpl ht
 go_enter Tryz.func18,Tryz.ntmps18
 go_wp2_with first | ((with_reducible apply wps_load S 4);(case hx|hi|hu=>rfl);(case hT=>decide +kernel))
 go_loopw [3,13] (fun n i wr=>TLenRel _ t w n i wr) (fun _ i _=>t.length - (intOf i).toNat)
 case atStart=>exact ⟨0,Nat.zero_le _,rfl,rfl,S⟩
 case round=>
  clear S
  obtain ⟨j,hj,rfl,rfl,S⟩:=hrel
  by_cases hlt : j < t.length
  · obtain ⟨p,hp⟩ : ∃ p,ps[j]? = some p:=⟨_,List.getElem?_eq_getElem (by omega)⟩
    have hte : t[j]? = some p.e:=by rw [← HPT.out,List.getElem?_map,hp];rfl
    have hlt2 : (j : Int) < ps.length:=by omega
    have hsb:=HT.out.2 p.e (List.mem_of_getElem? hte)
    have hpl : p.l.length ≤ 65536:=by have:=hsb.1;simpa [ProcV.e] using this
    have HLQ : Hid (lenQ (t.take (j + 1)) = lenQ (t.take j) + p.l.length):=Lib.hid (by unfold lenQ;rw [take_snoc hte,List.map_append,List.sum_append];simp [ProcV.e])
    obtain ⟨m,hm⟩ : ∃ m,lenQ (t.take j) = m:=⟨_,rfl⟩
    have hmb : m ≤ 65536 * 65536:=by
     have h1:=lenQ_le (t:=t.take j) (n:=65536) fun q hq=>(HT.out.2 q (List.mem_of_mem_take hq)).1
     rw [List.length_take] at h1
     have h2 : min j t.length * 65536 ≤ 65536 * 65536:=Nat.mul_le_mul_right _ (by have:=HT.out.1;omega)
     omega
    rw [hm] at HLQ ⊢
    obtain ⟨pa,pc,pl,pst⟩:=p
    obtain ⟨R1,o1,rfl⟩ : ∃ R o,ap = some ⟨R,o,none⟩:=(S.sl 3 rfl).elim fun F h=>h.head (by omega)
    have HP:=Lib.hid hp
    simp only at hpl HLQ
    clear hp hte hsb hm
    go_wp2_with first | ((with_reducible apply wps_loada_el S 3 (hj:=HP.out) (q:=0) (vs:=[(⟨pa,pc,pl,pst⟩:ProcV).v,.int .i64 (⟨pa,pc,pl,pst⟩:ProcV).st.n0,.int .i64 (⟨pa,pc,pl,pst⟩:ProcV).st.n1,.int .i64 (⟨pa,pc,pl,pst⟩:ProcV).st.n2,.int .i64 (⟨pa,pc,pl,pst⟩:ProcV).st.n3]) (m:=5));(case hx|hi=>rfl);(case hn=>omega);(case hm|hv=>rfl);(case hT=>decide +kernel)) | ((with_reducible apply wps_alloca (E:=94) S);(case hz=>exact Tryz.zeroValue94);clear S;intro b5 wz S) | ((with_reducible apply wps_storea (T:=94) S 0 (vs:=[.slice pa pl.length pc,.int .i64 pst.n0,.int .i64 pst.n1,.int .i64 pst.n2,.int .i64 pst.n3]) (m:=5));(case hx|hy|hi|hm|h1=>rfl);(case hn=>exact nle rfl);(case hT=>decide +kernel);clear S;intro wz S;simp only [set_cons_zero,set_cons_succ,setAll,setIfInBounds_toArray] at S) | ((with_reducible apply wps_load S 0);(case hx|hi|hu=>rfl);(case hT=>decide +kernel))
    go_roundw
    case rel=>exact ⟨j + 1,by omega,by go_num,by rw [HLQ.out];go_num,S.pick [1,2,3,4,5] rfl⟩
    case measure=>simp [intOf];omega
  · obtain rfl : j = t.length:=by omega
    rw [List.take_length]
    have hge : ¬ ((t.length : Int) < ps.length):=by omega
    go_wp2_with first | ((with_reducible apply wps_loada (T:=94) (k:=5) S 0);(case hx|hi=>rfl);(case hk=>exact nle rfl);(case hT=>decide +kernel))
    go_ret
    exact ⟨rfl,S.below⟩
def TStRel (L : List Asn) (t : TrE) (w : World) (v i : Value) (wr : World) : Prop:=
 ∃ j : Nat,j ≤ t.length ∧ i = .int .i64 j ∧ St (fun _=>False) w wr (Mem.Own 50 State.cells 4 v ((t.take j).map lastS) :: L)
theorem lastV_e (p : ProcV) : lastS p.e = if (lastV p.l).2 then (lastV p.l).1.b.thn else p.st:=by
 unfold lastS lastV ProcV.e
 simp only [List.getLast?_map]
 cases p.l.getLast? <;> rfl
theorem tstates_calls (X R : Nat) (t : TrE) (w : World) (F : Nat → Prop) (h : (traceA X R t).at_ w F) (ht : SmallT t) :
 Calls Tryz.prog 20 #[.pointer (some ⟨X,0,none⟩)] w fun e w'=>∃ a c,e = .returned (.slice a (t.map lastS).length c) ∧ St (fun _=>False) w w' [Mem.Own 50 State.cells 4 (.slice a (t.map lastS).length c) (t.map lastS)]:=by
 obtain ⟨v,ps,pool,hpt,hpl,S⟩:=traceR_st h
 clear h
 obtain ⟨ap,cp,rfl,_⟩:=(S.sl 3 rfl).elim fun _ h=>h.form
 have hn : t.length = ps.length:=by rw [← hpt,List.length_map]
 have hn6 : t.length ≤ 65536:=ht.1
 have HPT:=Lib.hid hpt
 have HT:=Lib.hid ht
 clear hpt hpl ht
 go_enter Tryz.func20,Tryz.ntmps20
 go_wp2_with first | ((with_reducible apply wps_load S 4);(case hx|hi|hu=>rfl);(case hT=>decide +kernel))
 go_loopw [3,16] (fun v i wr=>TStRel _ t w v i wr) (fun _ i _=>t.length - (intOf i).toNat)
 case atStart=>exact ⟨0,Nat.zero_le _,rfl,S.nil 50 State.cells 4⟩
 case round=>
  clear S
  obtain ⟨j,hj,rfl,S⟩:=hrel
  obtain ⟨sv,HSV⟩ : ∃ l,Hid ((t.take j).map lastS = l):=⟨_,rfl⟩
  rw [HSV.out] at S
  have hsl : Hid (sv.length = j):=Lib.hid (by rw [← HSV.out,List.length_map,List.length_take];omega)
  have hsl2 : sv.length < 4294967296:=by rw [hsl.out];omega
  obtain ⟨a1,c1,rfl,_⟩:=(S.ownsl sacells 0 rfl).elim fun _ h=>h.form
  by_cases hlt : j < t.length
  · obtain ⟨p,hp⟩ : ∃ p,ps[j]? = some p:=⟨_,List.getElem?_eq_getElem (by omega)⟩
    have hte : t[j]? = some p.e:=by rw [← HPT.out,List.getElem?_map,hp];rfl
    have hlt2 : (j : Int) < ps.length:=by omega
    have HLS : Hid (∀ s,s = lastS p.e → (t.take (j + 1)).map lastS = sv ++ [s]):=Lib.hid fun s hs=>by rw [take_snoc hte,List.map_append,HSV.out,hs];rfl
    have HPV : Hid ((ps.map ProcV.v)[j]? = some p.v):=Lib.hid (by rw [List.getElem?_map,hp];rfl)
    have HPW : Hid ((ps.map (·.l))[j]? = some p.l):=Lib.hid (by rw [List.getElem?_map,hp];rfl)
    have hpn : p.l.length ≤ 4294967296:=by have:=(HT.out.2 p.e (List.mem_of_getElem? hte)).1;have h2 : p.e.1.length = p.l.length:=(by simp [ProcV.e]);omega
    rw [lastV_e] at HLS
    obtain ⟨pa,pc,pl,pst⟩:=p
    obtain ⟨R1,o1,rfl⟩ : ∃ R o,ap = some ⟨R,o,none⟩:=(S.sl 4 rfl).elim fun F h=>h.head (by omega)
    have HP:=Lib.hid hp
    obtain ⟨⟨⟨yat,ylp,yins,ythn,ysent⟩,yai,yci,yao,yco⟩,q,hlv⟩ : ∃ y q,lastV pl = (y,q):=⟨_,_,rfl⟩
    have HTL:=Lib.hid fun w F h=>tlast_calls pa pc pl _ _ hlv w F h hpn
    simp only [hlv] at HLS
    simp only at HTL
    clear hp hte hlv
    cases q with
    | true=>
      simp only [if_true] at HLS
      go_wp2_with first | ((with_reducible apply wps_loada_el S 4 (hj:=HP.out) (q:=0) (vs:=[(⟨pa,pc,pl,pst⟩:ProcV).v,.int .i64 (⟨pa,pc,pl,pst⟩:ProcV).st.n0,.int .i64 (⟨pa,pc,pl,pst⟩:ProcV).st.n1,.int .i64 (⟨pa,pc,pl,pst⟩:ProcV).st.n2,.int .i64 (⟨pa,pc,pl,pst⟩:ProcV).st.n3]) (m:=5));(case hx|hi=>rfl);(case hn=>omega);(case hm|hv=>rfl);(case hT=>decide +kernel)) | ((with_reducible apply wps_alloca (E:=94) S);(case hz=>exact Tryz.zeroValue94);clear S;intro b5 wz S) | ((with_reducible apply wps_storea (T:=94) S 0 (vs:=[.slice pa pl.length pc,.int .i64 pst.n0,.int .i64 pst.n1,.int .i64 pst.n2,.int .i64 pst.n3]) (m:=5));(case hx|hy|hi|hm|h1=>rfl);(case hn=>exact nle rfl);(case hT=>decide +kernel);clear S;intro wz S;simp only [set_cons_zero,set_cons_succ,setAll,setIfInBounds_toArray] at S) | ((with_reducible apply wps_alloca (E:=50) S);(case hz=>exact Tryz.zeroValue50);clear S;intro b6 wz S) | ((with_reducible apply wps_storea (T:=50) S 0 (vs:=[.int .i64 pst.n0,.int .i64 pst.n1,.int .i64 pst.n2,.int .i64 pst.n3]) (m:=4));(case hx|hy|hi|hm|h1=>rfl);(case hn=>exact nle rfl);(case hT=>decide +kernel);clear S;intro wz S;simp only [set_cons_zero,set_cons_succ,setAll,setIfInBounds_toArray] at S) | (go_at_call 32;refine Calls.mono (HTL.out _ _ (sls_elT (S.get (i:=5) rfl).choose_spec HPV.out HPW.out)) ?_;rintro e wz ⟨rfl,hE⟩;replace S:=S.ext (Keep.of_below hE);clear hE) | ((with_reducible apply wps_alloca (E:=52) S);(case hz=>exact Tryz.zeroValue52);clear S;intro b7 wz S) | ((with_reducible apply wps_storea (T:=52) S 0 (vs:=[.int .i64 yat,.int .i64 ylp,.slice yai yins.length yci,.int .i64 ythn.n0,.int .i64 ythn.n1,.int .i64 ythn.n2,.int .i64 ythn.n3,.slice yao ysent.length yco]) (m:=8));(case hx|hy|hi|hm|h1=>rfl);(case hn=>exact nle rfl);(case hT=>decide +kernel);clear S;intro wz S;simp only [set_cons_zero,set_cons_succ,setAll,setIfInBounds_toArray] at S) | ((with_reducible apply wps_loada (T:=50) (k:=4) S 0);(case hx|hi=>rfl);(case hk=>exact nle rfl);(case hT=>decide +kernel)) | ((with_reducible apply wps_storea (T:=50) S 1 (vs:=[.int .i64 ythn.n0,.int .i64 ythn.n1,.int .i64 ythn.n2,.int .i64 ythn.n3]) (m:=4));(case hx|hy|hi|hm|h1=>rfl);(case hn=>exact nle rfl);(case hT=>decide +kernel);clear S;intro wz S;simp only [set_cons_zero,set_cons_succ,setAll,setIfInBounds_toArray] at S) | ((with_reducible apply wps_loada (T:=50) (k:=4) S 1);(case hx|hi=>rfl);(case hk=>exact nle rfl);(case hT=>decide +kernel)) | ((with_reducible apply wps_build1a (T:=64) (E:=50) S);(case hx=>rfl);(case hr=>intro w;kernel_rfl);clear S;intro bz wz S) | ((with_reducible apply wps_append1 elem_Sst sacells saone (by decide) S 4 (j:=0) (e:=ythn));(case hx|hy|hi|hj|he=>rfl);(case hl=>first | omega | (simp;omega));clear S;intro az nz cz wz hnz S;simp only [set_cons_succ,set_cons_zero] at S) | ((with_reducible apply wps_loada (T:=92) (k:=1) S 1);(case hx|hi=>rfl);(case hk=>exact nle rfl);(case hT=>decide +kernel))
      go_roundw
      case rel=>
       refine ⟨j + 1,by omega,by go_num,?_⟩
       rw [HLS.out _ rfl]
       exact S.pick [4,5,6,7,8,9] rfl
      case measure=>simp [intOf];omega
    | false=>
      simp only [Bool.false_eq_true,if_false] at HLS
      go_wp2_with first | ((with_reducible apply wps_loada_el S 4 (hj:=HP.out) (q:=0) (vs:=[(⟨pa,pc,pl,pst⟩:ProcV).v,.int .i64 (⟨pa,pc,pl,pst⟩:ProcV).st.n0,.int .i64 (⟨pa,pc,pl,pst⟩:ProcV).st.n1,.int .i64 (⟨pa,pc,pl,pst⟩:ProcV).st.n2,.int .i64 (⟨pa,pc,pl,pst⟩:ProcV).st.n3]) (m:=5));(case hx|hi=>rfl);(case hn=>omega);(case hm|hv=>rfl);(case hT=>decide +kernel)) | ((with_reducible apply wps_alloca (E:=94) S);(case hz=>exact Tryz.zeroValue94);clear S;intro b5 wz S) | ((with_reducible apply wps_storea (T:=94) S 0 (vs:=[.slice pa pl.length pc,.int .i64 pst.n0,.int .i64 pst.n1,.int .i64 pst.n2,.int .i64 pst.n3]) (m:=5));(case hx|hy|hi|hm|h1=>rfl);(case hn=>exact nle rfl);(case hT=>decide +kernel);clear S;intro wz S;simp only [set_cons_zero,set_cons_succ,setAll,setIfInBounds_toArray] at S) | ((with_reducible apply wps_alloca (E:=50) S);(case hz=>exact Tryz.zeroValue50);clear S;intro b6 wz S) | ((with_reducible apply wps_storea (T:=50) S 0 (vs:=[.int .i64 pst.n0,.int .i64 pst.n1,.int .i64 pst.n2,.int .i64 pst.n3]) (m:=4));(case hx|hy|hi|hm|h1=>rfl);(case hn=>exact nle rfl);(case hT=>decide +kernel);clear S;intro wz S;simp only [set_cons_zero,set_cons_succ,setAll,setIfInBounds_toArray] at S) | (go_at_call 32;refine Calls.mono (HTL.out _ _ (sls_elT (S.get (i:=5) rfl).choose_spec HPV.out HPW.out)) ?_;rintro e wz ⟨rfl,hE⟩;replace S:=S.ext (Keep.of_below hE);clear hE) | ((with_reducible apply wps_alloca (E:=52) S);(case hz=>exact Tryz.zeroValue52);clear S;intro b7 wz S) | ((with_reducible apply wps_storea (T:=52) S 0 (vs:=[.int .i64 yat,.int .i64 ylp,.slice yai yins.length yci,.int .i64 ythn.n0,.int .i64 ythn.n1,.int .i64 ythn.n2,.int .i64 ythn.n3,.slice yao ysent.length yco]) (m:=8));(case hx|hy|hi|hm|h1=>rfl);(case hn=>exact nle rfl);(case hT=>decide +kernel);clear S;intro wz S;simp only [set_cons_zero,set_cons_succ,setAll,setIfInBounds_toArray] at S) | ((with_reducible apply wps_loada (T:=50) (k:=4) S 0);(case hx|hi=>rfl);(case hk=>exact nle rfl);(case hT=>decide +kernel)) | ((with_reducible apply wps_loada (T:=50) (k:=4) S 1);(case hx|hi=>rfl);(case hk=>exact nle rfl);(case hT=>decide +kernel)) | ((with_reducible apply wps_build1a (T:=64) (E:=50) S);(case hx=>rfl);(case hr=>intro w;kernel_rfl);clear S;intro bz wz S) | ((with_reducible apply wps_append1 elem_Sst sacells saone (by decide) S 4 (j:=0) (e:=pst));(case hx|hy|hi|hj|he=>rfl);(case hl=>first | omega | (simp;omega));clear S;intro az nz cz wz hnz S;simp only [set_cons_succ,set_cons_zero] at S) | ((with_reducible apply wps_loada (T:=92) (k:=1) S 1);(case hx|hi=>rfl);(case hk=>exact nle rfl);(case hT=>decide +kernel))
      go_roundw
      case rel=>
       refine ⟨j + 1,by omega,by go_num,?_⟩
       rw [HLS.out _ rfl]
       exact S.pick [4,5,6,7,8,9] rfl
      case measure=>simp [intOf];omega
  · obtain rfl : j = t.length:=by omega
    rw [List.take_length] at HSV
    have hge : ¬ ((t.length : Int) < ps.length):=by omega
    have hsv : sv.length = ps.length:=by rw [hsl.out];exact hn
    rw [hsv] at S ⊢
    clear hsv
    go_wp2_with first | ((with_reducible apply wps_loada (T:=94) (k:=5) S 0);(case hx|hi=>rfl);(case hk=>exact nle rfl);(case hT=>decide +kernel))
    go_ret
    rw [HSV.out]
    exact ⟨a1,c1,rfl,S.pick [0] rfl⟩
end Go.Proofs.YtcnfionnnpnplaaGreatDoor
/- The walks of cmp.Compare and cmp.Or at ints (beside C2). -/
namespace Go.Proofs.YtcnfionnnpnplaaGreatDoor
open Go Go.RowKit Reg Mem
open List (set_cons_succ set_cons_zero setIfInBounds_toArray cons_append nil_append)
theorem isNaN_calls (x : Int) (w : World) : Calls Tryz.prog 62 #[.int .i64 x] w fun r w'=>r = .returned (.bool false) ∧ Below w.heap.size w w':=by
 have S:=St.init (fun _=>False) w
 go_enter Tryz.func62,Tryz.ntmps62
 go_wp2_with first | ((with_reducible refine tot_done ?ht ?_);(case ht=>kernel_rfl))
 go_ret
 exact ⟨by simp,S.below⟩
def icmp (x y : Int) : Int:=if x < y then -1 else if y < x then 1 else 0
theorem cmpInt_calls (x y : Int) (w : World) : Calls Tryz.prog 37 #[.int .i64 x,.int .i64 y] w fun r w'=>r = .returned (.int .i64 (icmp x y)) ∧ Below w.heap.size w w':=by
 have S:=St.init (fun _=>False) w
 by_cases h1 : x < y
 · go_enter Tryz.func37,Tryz.ntmps37
   go_wp2_with first | (go_at_call 62;refine Calls.mono (isNaN_calls _ _) ?_;rintro e wz ⟨rfl,hE⟩;replace S:=S.ext (Keep.of_below hE);clear hE) | ((with_reducible refine tot_done ?ht ?_);(case ht=>kernel_rfl))
   go_ret
   exact ⟨ret_int (by unfold icmp;rw [if_pos (by omega)]),S.below⟩
 · by_cases h2 : y < x
   · go_enter Tryz.func37,Tryz.ntmps37
     go_wp2_with first | (go_at_call 62;refine Calls.mono (isNaN_calls _ _) ?_;rintro e wz ⟨rfl,hE⟩;replace S:=S.ext (Keep.of_below hE);clear hE) | ((with_reducible refine tot_done ?ht ?_);(case ht=>kernel_rfl))
     go_ret
     exact ⟨ret_int (by unfold icmp;rw [if_neg (by omega),if_pos (by omega)]),S.below⟩
   · go_enter Tryz.func37,Tryz.ntmps37
     go_wp2_with first | (go_at_call 62;refine Calls.mono (isNaN_calls _ _) ?_;rintro e wz ⟨rfl,hE⟩;replace S:=S.ext (Keep.of_below hE);clear hE) | ((with_reducible refine tot_done ?ht ?_);(case ht=>kernel_rfl))
     go_ret
     exact ⟨ret_int (by unfold icmp;rw [if_neg (by omega),if_neg (by omega)]),S.below⟩
def orL : List Int → Int
 | []=>0
 | x :: l=>if x ≠ 0 then x else orL l
theorem orL_at {l : List Int} {j : Nat} {x : Int} (h : ∀ (q : Nat) y,q < j → l[q]? = some y → y = 0) (hj : l[j]? = some x) (hx : x ≠ 0) : orL l = x:=by
 induction l generalizing j with
 | nil=>simp at hj
 | cons a l ih=>
   cases j with
   | zero=>simp at hj;subst hj;simp [orL,hx]
   | succ j=>
     have ha:=h 0 a (by omega) rfl
     rw [orL,if_neg (by simp [ha])]
     exact ih (j:=j) (fun q y hq hy=>h (q + 1) y (by omega) (by simpa using hy)) (by simpa using hj)
theorem orL_zero {l : List Int} (h : ∀ (q : Nat) y,l[q]? = some y → y = 0) : orL l = 0:=by
 induction l with
 | nil=>rfl
 | cons a l ih=>
   have ha:=h 0 a rfl
   rw [orL,if_neg (by simp [ha])]
   exact ih (fun q y hy=>h (q + 1) y (by simpa using hy))
def OrRel (ad : Option Addr) (c : Nat) (l : List Int) (w : World) (i : Value) (wr : World) : Prop:=
 ∃ j : Nat,j ≤ l.length ∧ i = .int .i64 j ∧ (∀ (q : Nat) y,q < j → l[q]? = some y → y = 0) ∧ St (fun _=>False) w wr [Sl true intE 1 (.slice ad l.length c) l]
theorem orInt_calls (v : Value) (l : List Int) (w : World) (F : Nat → Prop) (h : (Sl true intE 1 v l).at_ w F) (hn : l.length ≤ 4294967296) : Calls Tryz.prog 36 #[v] w fun r w'=>r = .returned (.int .i64 (orL l)) ∧ Below w.heap.size w w':=by
 have S : St (fun _=>False) w w [Sl true intE 1 v l]:=(St.init _ w).share rfl rfl h
 obtain ⟨F1,hs⟩:=S.sl 0 rfl
 obtain ⟨ad,cp,rfl,_⟩:=hs.form
 clear hs
 go_enter Tryz.func36,Tryz.ntmps36
 go_wp2_with first | ((with_reducible refine tot_done ?ht ?_);(case ht=>kernel_rfl)) | ((with_reducible apply wps_load S 0);(case hx|hi|hu=>rfl);(case hT=>decide +kernel)) | ((with_reducible apply wps_load S 1);(case hx|hi|hu=>rfl);(case hT=>decide +kernel)) | ((with_reducible apply wps_load S 2);(case hx|hi|hu=>rfl);(case hT=>decide +kernel)) | ((with_reducible apply wps_load S 3);(case hx|hi|hu=>rfl);(case hT=>decide +kernel))
 go_loopw [8] (fun i wr=>OrRel ad cp l w i wr) (fun i _=>l.length - (intOf i).toNat)
 case atStart=>exact ⟨0,Nat.zero_le _,rfl,fun q r h=>by omega,S⟩
 case round=>
  clear S
  obtain ⟨j,hj,rfl,hz,S⟩:=hrel
  have Hz:=Lib.hid hz
  clear hz
  by_cases hlt : j < l.length
  · obtain ⟨x,hx⟩ : ∃ x,l[j]? = some x:=⟨_,List.getElem?_eq_getElem hlt⟩
    obtain ⟨R,o,rfl⟩ : ∃ R o,ad = some ⟨R,o,none⟩:=(S.sl 0 rfl).elim fun F h=>h.head (Nat.zero_lt_of_lt hlt)
    have hlt2 : (j : Int) < l.length:=by omega
    have Hx:=Lib.hid hx
    clear hx
    by_cases h0 : x = 0
    · go_wp2_with first | ((with_reducible apply wps_load_el S 0 (hj:=Hx.out) (q:=0) (u:=.int .i64 x));(case hx|hi=>rfl);(case hn=>omega);(case hu=>rfl);(case hT=>decide +kernel)) | ((with_reducible refine tot_done ?ht ?_);(case ht=>kernel_rfl)) | ((with_reducible apply wps_load S 0);(case hx|hi|hu=>rfl);(case hT=>decide +kernel)) | ((with_reducible apply wps_load S 1);(case hx|hi|hu=>rfl);(case hT=>decide +kernel)) | ((with_reducible apply wps_load S 2);(case hx|hi|hu=>rfl);(case hT=>decide +kernel)) | ((with_reducible apply wps_load S 3);(case hx|hi|hu=>rfl);(case hT=>decide +kernel))
      go_roundw
      case rel=>
       refine ⟨j + 1,by omega,by go_num,fun q r hq hr=>?_,S⟩
       by_cases e : q = j
       · subst e;rw [Hx.out] at hr;cases hr;exact h0
       · exact Hz.out q r (by omega) hr
      case measure=>simp [intOf];omega
    · go_wp2_with first | ((with_reducible apply wps_load_el S 0 (hj:=Hx.out) (q:=0) (u:=.int .i64 x));(case hx|hi=>rfl);(case hn=>omega);(case hu=>rfl);(case hT=>decide +kernel)) | ((with_reducible refine tot_done ?ht ?_);(case ht=>kernel_rfl)) | ((with_reducible apply wps_load S 0);(case hx|hi|hu=>rfl);(case hT=>decide +kernel)) | ((with_reducible apply wps_load S 1);(case hx|hi|hu=>rfl);(case hT=>decide +kernel)) | ((with_reducible apply wps_load S 2);(case hx|hi|hu=>rfl);(case hT=>decide +kernel)) | ((with_reducible apply wps_load S 3);(case hx|hi|hu=>rfl);(case hT=>decide +kernel))
      go_ret
      exact ⟨ret_int (orL_at Hz.out Hx.out h0).symm,S.below⟩
  · obtain rfl : j = l.length:=by omega
    go_wp2_with first | ((with_reducible refine tot_done ?ht ?_);(case ht=>kernel_rfl)) | ((with_reducible apply wps_load S 0);(case hx|hi|hu=>rfl);(case hT=>decide +kernel)) | ((with_reducible apply wps_load S 1);(case hx|hi|hu=>rfl);(case hT=>decide +kernel)) | ((with_reducible apply wps_load S 2);(case hx|hi|hu=>rfl);(case hT=>decide +kernel)) | ((with_reducible apply wps_load S 3);(case hx|hi|hu=>rfl);(case hT=>decide +kernel))
    go_ret
    exact ⟨ret_int (orL_zero fun q y hy=>Hz.out q y (List.getElem?_eq_some_iff.1 hy).1 hy).symm,S.below⟩
end Go.Proofs.YtcnfionnnpnplaaGreatDoor
/- The library's slices.SortFunc on a slice that is owned, as a step of the state. Over any program. -/
namespace Go.Proofs.YtcnfionnnpnplaaGreatDoor.Mem
open Go Go.RowKit Reg Go.Shelf Go.Sort
open List (set_cons_succ set_cons_zero setIfInBounds_toArray cons_append nil_append)
def Grew (w w' : World) : Prop:=∃ q os,w' = grow (w.drewN q) os
theorem heap_grow (w : World) (os : Array Obj) {b : Nat} (hb : b < w.heap.size) : (grow w os).heap[b]? = w.heap[b]?:=by
 show (w.heap ++ os)[b]? = _
 rw [Array.getElem?_append_left hb]
theorem Grew.of_keep {w w' : World} (h : Keep (fun _=>False) w w') : Grew w w':=by
 refine ⟨w'.drawn - w.drawn,w'.heap.extract w.heap.size w'.heap.size,?_⟩
 have hh : w'.heap = w.heap ++ w'.heap.extract w.heap.size w'.heap.size:=by
  apply Array.ext_getElem?
  intro i
  by_cases hi : i < w.heap.size
  · rw [Array.getElem?_append_left hi,h.block i hi id]
  · rw [Array.getElem?_append_right (by omega),Array.getElem?_extract]
    have hs:=h.size
    split
    · congr 1;omega
    · rw [Array.getElem?_eq_none (by omega)]
 have hd:=h.drawn
 cases w;cases w'
 simp only [grow,World.drewN,World.mk.injEq]
 exact ⟨hh,h.tape,by simp only at hd ⊢;omega,h.os,h.output⟩
section
variable {α : Type} [Inhabited α]
theorem putCells_take {enc : α → Value} {d : Array α} {c : Array Value} (h : d.size ≤ c.size) : (putCells enc 0 d c).toList.take d.size = d.toList.map enc:=by
 apply List.ext_getElem?
 intro i
 by_cases hi : i < d.size
 · rw [List.getElem?_take_of_lt hi,Array.getElem?_toList,List.getElem?_map,Array.getElem?_toList,Array.getElem?_eq_getElem hi]
   simp only [putCells,Array.getElem?_mapIdx,Array.getElem?_eq_getElem (show i < c.size by omega),Option.map_some,Nat.zero_le,Nat.zero_add,true_and,if_pos hi,Nat.sub_zero,getElem!_pos d i hi]
 · rw [List.getElem?_eq_none (by simp;omega),List.getElem?_eq_none (by simp;omega)]
theorem size_putCells {enc : α → Value} {d : Array α} {c : Array Value} {o : Nat} : (putCells enc o d c).size = c.size:=by simp [putCells]
theorem heap_putRow {enc : α → Value} {w : World} {R m o : Nat} {d : Array α} {cur : Array Value} {E : TypeId} {fr : Nat × Nat} (os : Array Obj) (hR : w.heap[R]? = some (.cells cur E fr)) :
 (grow (putRow enc (Sort.ahead w m) R o d) os).heap[R]? = some (.cells (putCells enc o d cur) E fr):=by
 have hl:=(Array.getElem?_eq_some_iff.1 hR).1
 rw [heap_grow _ _ (by rw [size_putRow];exact hl)]
 show (w.heap.modify R (onCells (putCells enc o d)))[R]? = _
 rw [Array.getElem?_modify,if_pos rfl,hR];rfl
theorem keep_putRow {enc : α → Value} {w : World} {R m o : Nat} {d : Array α} (os : Array Obj) : Keep (fun b=>b = R) w (grow (putRow enc (Sort.ahead w m) R o d) os):=by
 refine ⟨rfl,rfl,rfl,?_,fun b hb hn=>?_,Nat.le_add_right _ _⟩
 · show w.heap.size ≤ ((w.heap.modify R _) ++ os).size
   simp
 · rw [heap_grow _ _ (by rw [size_putRow];exact hb)]
   show (w.heap.modify R _)[b]? = _
   rw [Array.getElem?_modify,if_neg (fun e=>hn e.symm)]
theorem flatK_list {enc : α → List Value} {k : Nat} (hk : ∀ x,(enc x).length = k) (d : Array α) : (flatK enc k d).toList = flatE enc d.toList:=by
 apply List.ext_getElem?
 intro i
 by_cases hi : i < d.size * k
 · have k0 : 0 < k:=by rcases Nat.eq_zero_or_pos k with h | h;· subst h;simp at hi
                       · exact h
   have hj : i / k < d.size:=(Nat.div_lt_iff_lt_mul k0).2 hi
   have e1 : (flatK enc k d).toList[i]? = some ((enc d[i / k]!)[i % k]!):=by
    rw [Array.getElem?_toList,Array.getElem?_eq_getElem (by simpa using hi),← get_flatK enc k d i hi,getElem!_pos (flatK enc k d) i (by simpa using hi)]
   have e2 : i / k * k + i % k = i:=by rw [Nat.mul_comm];exact Nat.div_add_mod i k
   have hg:=flatE_get (enc:=enc) hk (xs:=d.toList) (i:=i / k) (x:=d[i / k]) (by rw [Array.getElem?_toList,Array.getElem?_eq_getElem hj]) (i % k) (Nat.mod_lt _ k0)
   rw [e2] at hg
   rw [e1,hg,getElem!_pos d (i / k) hj,List.getElem?_eq_getElem (by rw [hk];exact Nat.mod_lt _ k0),getElem!_pos (enc d[i / k]) (i % k) (by rw [hk];exact Nat.mod_lt _ k0)]
 · rw [List.getElem?_eq_none (by simp;omega),List.getElem?_eq_none (by rw [flatE_length hk];simp;omega)]
theorem perm_list {d d' : Array α} (h : PermIn 0 d.size d d') : d'.toList.Perm d.toList:=by
 obtain ⟨hs,_,hp⟩:=h
 simp [← hs] at hp
 rwa [List.take_of_length_le (by simp [hs])] at hp
theorem sorted_list {lt : α → α → Bool} {d d' : Array α} (hs : d'.size = d.size) (h : SortedIn lt 0 d.size d') : d'.toList.Pairwise (fun a b=>lt b a = false):=by
 rw [List.pairwise_iff_getElem]
 intro i j hi hj hij
 simp only [Array.length_toList] at hi hj
 have:=h i j (Nat.zero_le _) hij (by omega)
 rwa [getElem!_pos d' i hi,getElem!_pos d' j hj] at this
end
section
variable {P : Program} {ρ : Ren} {α : Type} [Inhabited α] {E : TypeId} {enc : α → List Value} {k : Nat} {G : Nat → Prop} {w0 w : World} {L : List Asn} {i : Nat}
theorem sortK (Ly : SlLaysF0.n6 P ρ) (aE : ∀ w,(isAgg (ρ.t 24)).run P w = .ok true w) (zE : ∀ w,(Go.sizeOf (ρ.t 24)).run P w = .ok k w) (hk : ∀ x,(enc x).length = k) (h1 : ∀ x,∀ v ∈ enc x,v.oneCell' = true) (cf : α → α → Int) (hO : SWO (ltOf cf))
 (g : Nat) (cb : Array Value) (eg : ∀ args w,(callFunc g args).run P w = .ok (.enter g args) w) {R n c : Nat} {xs : List α} (S : St G w0 w L) (hi : L[i]? = some (Own E enc k (.slice (some ⟨R,0,none⟩) n c) xs)) (hn : xs.length < 4611686018427387904)
 (hcmp : ∀ W,Keep (fun b=>b = R) w W → ∀ x y : α,Calls P g (#[.agg (enc x).toArray,.agg (enc y).toArray] ++ cb) W fun e w'=>e = .returned (.int .i64 (cf x y)) ∧ Grew W w') :
 Calls P (ρ.f 6) #[.slice (some ⟨R,0,none⟩) n c,.func (.func g) #[] cb] w fun e w'=>e = .returned (.tuple #[]) ∧ ∃ ys : List α,ys.Perm xs ∧ ys.Pairwise (fun a b=>ltOf cf b a = false) ∧ St G w0 w' (L.set i (Own E enc k (.slice (some ⟨R,0,none⟩) n c) ys)):=by
 obtain ⟨F0,hF0⟩:=S.get hi
 obtain ⟨hlen,hown⟩:=hF0.1
 rcases hown with ⟨e,_⟩ | ⟨g',cap,cur,e,_,hg,hnc,hcm,hcs,htake⟩
 · simp at e
 · simp only [Value.slice.injEq,Option.some.injEq,Addr.mk.injEq] at e
   obtain ⟨⟨rfl,_,_⟩,rfl,rfl⟩:=e
   have hRl:=(Array.getElem?_eq_some_iff.1 hg).1
   have hcells:=World.ownsRow.cells (show w.ownsRow 0 E k _ _ _ from hF0.1) (g:=R) rfl
   have hfl : (flatK enc k xs.toArray).toList = flatE enc xs:=by rw [flatK_list hk]
   have hH : HoldsK enc k w R 0 xs.toArray:=fun j hj=>by
    have hj' : j < (flatE enc xs).length:=by rw [← hfl];simpa using hj
    refine ⟨?_,by rw [Nat.zero_add];exact frozen_of hg j⟩
    have:=hcells j (flatE enc xs)[j] (List.getElem?_eq_getElem hj')
    rw [add_none] at this
    rw [this]
    congr 1
    have e1 : (flatK enc k xs.toArray)[j]! = (flatE enc xs)[j]:=by
     rw [getElem!_pos _ j hj,← Array.getElem_toList]
     simp only [hfl]
    exact e1.symm
   have key:=AnyQ.slices_SortFunc Ly k aE zE enc hk h1 cf hO g cb R 0 c xs.toArray w eg (fun m os dk hd x y=>(hcmp _ (keep_putRow os) x y).mono fun _ _ ⟨he,q,os',hw⟩=>⟨he,q,os',hw⟩) hH hRl (by simpa using hn)
   simp only [List.size_toArray] at key
   refine key.mono ?_
   rintro e w' ⟨rfl,d',m,os,hp,hs,rfl⟩
   have hds : d'.size = xs.length:=by simpa using hp.1
   refine ⟨rfl,d'.toList,by simpa using perm_list (d:=xs.toArray) (by simpa using hp),sorted_list (d:=xs.toArray) (by simpa using hds) (by simpa using hs),S.step hi rfl fun F hF=>⟨F,(keep_putRow os).mono (fun x _ h e=>h ((hF.2 x).2 (by simp [Value.ownBlock,e]))),⟨?_,hF.2⟩,fun x h=>.inl h⟩⟩
   have hsz : (flatK enc k d').size = xs.length * k:=by simp [hds]
   have hcs' : xs.length * k ≤ cur.size:=by rw [hcs];exact Nat.mul_le_mul_right k hnc
   have hll : d'.toList.length = xs.length:=by simpa using hds
   refine ⟨by rw [flatE_length hk],.inr ⟨R,c,putCells id 0 (flatK enc k d') cur,by rw [hll],Nat.zero_le _,heap_putRow os hg,by rw [hll];exact hnc,hcm,by rw [size_putCells];exact hcs,?_⟩⟩
   have:=putCells_take (enc:=id) (d:=flatK enc k d') (c:=cur) (by rw [hsz];exact hcs')
   rw [hsz,List.map_id,flatK_list hk] at this
   rw [hll];exact this
end
end Go.Proofs.YtcnfionnnpnplaaGreatDoor.Mem
namespace Go.Proofs.YtcnfionnnpnplaaGreatDoor
open Go Go.Shelf
open List (set_cons_succ set_cons_zero setIfInBounds_toArray cons_append nil_append)
set_option maxRecDepth 100000
def sortBts_ren : Go.Shelf.Ren:=⟨fun | 6=>34 | 14=>60 | 15=>61 | 20=>82 | 21=>83 | 22=>84 | 23=>85 | 24=>86 | 25=>87 | 26=>88 | 27=>89 | 28=>90 | 29=>91 | 46=>112 | 47=>113 | 48=>114 | 49=>115 | 50=>116 | 57=>125 | n=>n,fun | 0=>0 | 1=>1 | 2=>2 | 3=>3 | 4=>4 | 5=>5 | 6=>6 | 7=>7 | 8=>8 | 9=>9 | 10=>10 | 11=>11 | 12=>12 | 13=>13 | 14=>14 | 15=>15 | 16=>16 | 17=>17 | 18=>18 | 19=>19 | 20=>20 | 21=>21 | 22=>27 | 23=>101 | 24=>52 | 25=>104 | 27=>133 | 29=>103 | 37=>130 | 38=>131 | 39=>132 | 42=>47 | 44=>156 | 45=>157 | 46=>158 | 47=>159 | 48=>160 | 49=>161 | 50=>162 | 51=>163 | 52=>164 | 53=>165 | 54=>166 | 55=>167 | 66=>195 | 67=>196 | 68=>197 | 69=>198 | 70=>199 | 71=>200 | 76=>215 | 77=>216 | 78=>217 | 81=>233 | 82=>234 | 83=>235 | 84=>236 | 85=>237 | 86=>238 | 87=>62 | 88=>239 | 89=>240 | 90=>241 | 91=>242 | 92=>243 | 93=>244 | 94=>245 | 95=>246 | 96=>247 | n=>n,fun n=>n⟩
theorem sortBts : SlLaysF0.n6 Tryz.prog sortBts_ren:={
 mixed:=by kernel_rfl,
 f6:=⟨Tryz.f34.name,by decide,Tryz.func34.trans (congrArg some (by kernel_rfl))⟩,
 f14:=⟨Tryz.f60.name,by decide,Tryz.func60.trans (congrArg some (by kernel_rfl))⟩,
 f15:=Tryz.func61.trans (congrArg some (by kernel_rfl)),
 f20:=⟨Tryz.f82.name,by decide,Tryz.func82.trans (congrArg some (by kernel_rfl))⟩,
 f21:=⟨Tryz.f83.name,by decide,Tryz.func83.trans (congrArg some (by kernel_rfl))⟩,
 f22:=⟨Tryz.f84.name,by decide,Tryz.func84.trans (congrArg some (by kernel_rfl))⟩,
 f23:=⟨Tryz.f85.name,by decide,Tryz.func85.trans (congrArg some (by kernel_rfl))⟩,
 f24:=⟨Tryz.f86.name,by decide,Tryz.func86.trans (congrArg some (by kernel_rfl))⟩,
 f25:=⟨Tryz.f87.name,by decide,Tryz.func87.trans (congrArg some (by kernel_rfl))⟩,
 f26:=⟨Tryz.f88.name,by decide,Tryz.func88.trans (congrArg some (by kernel_rfl))⟩,
 f27:=⟨Tryz.f89.name,by decide,Tryz.func89.trans (congrArg some (by kernel_rfl))⟩,
 f28:=Tryz.func90.trans (congrArg some (by kernel_rfl)),
 f29:=Tryz.func91.trans (congrArg some (by kernel_rfl)),
 f46:=⟨Tryz.f112.name,by decide,Tryz.func112.trans (congrArg some (by kernel_rfl))⟩,
 f47:=Tryz.func113.trans (congrArg some (by kernel_rfl)),
 f48:=Tryz.func114.trans (congrArg some (by kernel_rfl)),
 f49:=⟨Tryz.f115.name,by decide,Tryz.func115.trans (congrArg some (by kernel_rfl))⟩,
 f50:=⟨Tryz.f116.name,by decide,Tryz.func116.trans (congrArg some (by kernel_rfl))⟩,
 f57:=⟨Tryz.f125.name,by decide,Tryz.func125.trans (congrArg some (by kernel_rfl))⟩,
 t0:=Tryz.underlying0,
 a0:=Tryz.isAgg0,
 z0:=Tryz.sizeOf0,
 v0:=Tryz.zeroValue0,
 t3:=Tryz.underlying3,
 a3:=Tryz.isAgg3,
 z3:=Tryz.sizeOf3,
 v3:=Tryz.zeroValue3,
 t4:=Tryz.underlying4,
 a4:=Tryz.isAgg4,
 z4:=Tryz.sizeOf4,
 v4:=Tryz.zeroValue4,
 t5:=Tryz.underlying5,
 a5:=Tryz.isAgg5,
 z5:=Tryz.sizeOf5,
 v5:=Tryz.zeroValue5,
 t9:=Tryz.underlying9,
 a9:=Tryz.isAgg9,
 z9:=Tryz.sizeOf9,
 v9:=Tryz.zeroValue9,
 t22:=Tryz.underlying27,
 a22:=Tryz.isAgg27,
 z22:=Tryz.sizeOf27,
 v22:=Tryz.zeroValue27,
 t25:=Tryz.underlying104,
 a25:=Tryz.isAgg104,
 z25:=Tryz.sizeOf104,
 v25:=Tryz.zeroValue104,
 t39:=Tryz.underlying132,
 a39:=Tryz.isAgg132,
 z39:=Tryz.sizeOf132,
 v39:=Tryz.zeroValue132,
 t45:=Tryz.underlying157,
 a45:=Tryz.isAgg157,
 z45:=Tryz.sizeOf157,
 v45:=Tryz.zeroValue157,
 t46:=Tryz.underlying158,
 a46:=Tryz.isAgg158,
 z46:=Tryz.sizeOf158,
 v46:=Tryz.zeroValue158,
 t50:=Tryz.underlying162,
 a50:=Tryz.isAgg162,
 z50:=Tryz.sizeOf162,
 v50:=Tryz.zeroValue162,
 t53:=Tryz.underlying165,
 a53:=Tryz.isAgg165,
 z53:=Tryz.sizeOf165,
 v53:=Tryz.zeroValue165,
 t55:=Tryz.underlying167,
 a55:=Tryz.isAgg167,
 z55:=Tryz.sizeOf167,
 v55:=Tryz.zeroValue167,
 t66:=Tryz.underlying195,
 a66:=Tryz.isAgg195,
 z66:=Tryz.sizeOf195,
 v66:=Tryz.zeroValue195,
 t70:=Tryz.underlying199,
 a70:=Tryz.isAgg199,
 z70:=Tryz.sizeOf199,
 v70:=Tryz.zeroValue199,
 t76:=Tryz.underlying215,
 a76:=Tryz.isAgg215,
 z76:=Tryz.sizeOf215,
 v76:=Tryz.zeroValue215,
 t77:=Tryz.underlying216,
 a77:=Tryz.isAgg216,
 z77:=Tryz.sizeOf216,
 v77:=Tryz.zeroValue216 }
end Go.Proofs.YtcnfionnnpnplaaGreatDoor
/- The walk of a trace's All. -/
namespace Go.Proofs.YtcnfionnnpnplaaGreatDoor
open Go Go.RowKit Reg Mem Go.Shelf Go.Sort
open List (set_cons_succ set_cons_zero setIfInBounds_toArray cons_append nil_append)
def BatV.tcmp (a b : BatV) : Int:=orL [icmp a.b.at_ b.b.at_,icmp a.b.lp b.b.lp]
theorem tcmp_calls (a b : BatV) (w : World) : Calls Tryz.prog 35 #[.agg #[.int .i64 a.b.at_,.int .i64 a.b.lp,.slice a.ai a.b.ins.length a.ci,.int .i64 a.b.thn.n0,.int .i64 a.b.thn.n1,.int .i64 a.b.thn.n2,.int .i64 a.b.thn.n3,.slice a.ao a.b.sent.length a.co],.agg #[.int .i64 b.b.at_,.int .i64 b.b.lp,.slice b.ai b.b.ins.length b.ci,.int .i64 b.b.thn.n0,.int .i64 b.b.thn.n1,.int .i64 b.b.thn.n2,.int .i64 b.b.thn.n3,.slice b.ao b.b.sent.length b.co]] w fun e w'=>e = .returned (.int .i64 (a.tcmp b)) ∧ Below w.heap.size w w':=by
 have S:=St.init (fun _=>False) w
 unfold BatV.tcmp
 go_enter Tryz.func35,Tryz.ntmps35
 go_wp2_with first | ((with_reducible apply wps_boxa (E:=52) S);(case hx=>rfl);clear S;intro b2 wz S)
 (refine wp_region_w (soft:=[0,1,2,3,4,5,6,7,8,9]) S ?hm ?hB ?_);(case hm=>kernel_rfl);(case hB=>decide +kernel);clear S
 iterate 10
  (with_reducible apply softs_cons)
  (case hw=>
    (with_reducible apply soft_of);(case hi=>rfl)
    intro T wz S
    simp only [cons_append,nil_append] at S
    go_wp2_with first | (go_at_call 37;refine Calls.mono (cmpInt_calls _ _ _) ?_;rintro e wz ⟨rfl,hE⟩;replace S:=S.ext (Keep.of_below hE);clear hE) | ((with_reducible refine tot_done ?ht ?_);(case ht=>kernel_rfl)) | ((with_reducible apply wps_load S 0);(case hx|hi|hu=>rfl);(case hT=>decide +kernel)) | ((with_reducible apply wps_load S 1);(case hx|hi|hu=>rfl);(case hT=>decide +kernel))
    exact ⟨rfl,S⟩)
  (case hs=>exact ⟨_,rfl,by kernel_rfl⟩)
 refine softs_nil ?_
 repeat'
  (first
    | ((with_reducible apply W_hard1 (i:=10));(case hn=>rfl);(case hr=>decide +kernel)) | ((with_reducible apply W_hard1 (i:=11));(case hn=>rfl);(case hr=>decide +kernel)) | ((with_reducible apply W_hard1 (i:=12));(case hn=>rfl);(case hr=>decide +kernel)) | ((with_reducible apply W_hard2 (i:=11) (i':=12));(case hn=>rfl);(case hr=>decide +kernel)))
  all_goals
   intro wz S
   (with_reducible apply hard_of);(case hi=>rfl)
   simp only [cons_append,nil_append] at S
   try simp only [pick,nth] at S
   go_wp2_with first | ((with_reducible apply wps_buildSlice (T:=133) (E:=3) (cs:=#[.int .i64 (icmp a.b.at_ b.b.at_),.int .i64 (icmp a.b.lp b.b.lp)]) S);(case hr=>intro w;kernel_rfl);clear S;intro bz wz S) | (go_at_call 36;refine Calls.mono (orInt_calls _ [icmp a.b.at_ b.b.at_,icmp a.b.lp b.b.lp] _ _ (blk_sl _ intE_len (S.get (i:=2) rfl).choose_spec rfl rfl) (Nat.le_of_ble_eq_true rfl)) ?_;rintro e wz ⟨rfl,hE⟩;replace S:=S.ext (Keep.of_below hE);clear hE) | ((with_reducible refine tot_done ?ht ?_);(case ht=>kernel_rfl))
   first
    | refine ⟨_,S.pick [1,2,3,4,5,6,0] rfl,?_⟩
    | refine ⟨_,S.pick [1,2,3,4,5,0] rfl,?_⟩
    | refine ⟨_,S.pick [1,2,3,4,0] rfl,?_⟩
    | refine ⟨_,S.pick [1,2,3,0] rfl,?_⟩
    | refine ⟨_,S.pick [1,2,0] rfl,?_⟩
    | refine ⟨_,S,?_⟩
 (with_reducible apply W_done);(case hn=>rfl);(case hr=>decide +kernel)
 clear S
 intro wz S
 simp only [cons_append,nil_append] at S
 try simp only [pick,nth] at S
 go_wp2_with first | ((with_reducible apply wps_load S 3);(case hx|hi|hu=>rfl);(case hT=>decide +kernel))
 go_ret
 exact ⟨rfl,S.below⟩
theorem icmp_casesB (x y : Int) : (x < y ∧ icmp x y = -1) ∨ (x = y ∧ icmp x y = 0) ∨ (y < x ∧ icmp x y = 1):=by
 unfold icmp
 rcases Int.lt_trichotomy x y with h | h | h
 · exact .inl ⟨h,by rw [if_pos h]⟩
 · exact .inr (.inl ⟨h,by rw [if_neg (by omega),if_neg (by omega)]⟩)
 · exact .inr (.inr ⟨h,by rw [if_neg (by omega),if_pos h]⟩)
theorem tcmpB_neg (a b : BatV) : decide (a.tcmp b < 0) = decide (¬ leB b.b a.b):=by
 rw [decide_eq_decide]
 unfold BatV.tcmp leB
 simp only [orL]
 rcases icmp_casesB a.b.at_ b.b.at_ with ⟨h1,e1⟩ | ⟨h1,e1⟩ | ⟨h1,e1⟩ <;> rw [e1]
 · constructor
   · intro _;omega
   · intro _;simp
 · rcases icmp_casesB a.b.lp b.b.lp with ⟨h2,e2⟩ | ⟨h2,e2⟩ | ⟨h2,e2⟩ <;> rw [e2]
   · constructor
     · intro _;omega
     · intro _;simp
   · constructor
     · intro h;exact absurd h (by simp)
     · intro _;omega
   · constructor
     · intro h;exact absurd h (by simp)
     · intro _;omega
 · constructor
   · intro h;exact absurd h (by simp)
   · intro _;omega
theorem swo_bat : SWO (ltOf BatV.tcmp):=by
 have e : (ltOf BatV.tcmp) = fun x y=>decide (¬ leB y.b x.b):=by
  funext x y;exact tcmpB_neg _ _
 rw [e]
 refine ⟨fun x=>?_,fun x y z h k=>?_,fun x y z h k=>?_⟩
 · simp [leB]
 · simp only [decide_eq_true_eq] at *;unfold leB at *;omega
 · simp only [decide_eq_false_iff_not] at *
   unfold leB at *;omega
theorem tcmp_grew (a b : BatV) (w : World) : Calls Tryz.prog 35 #[.agg a.cells.toArray,.agg b.cells.toArray] w fun e w'=>e = .returned (.int .i64 (a.tcmp b)) ∧ Grew w w':=
 (tcmp_calls a b w).mono fun _ _ h=>⟨h.1,Grew.of_keep (Keep.of_below h.2)⟩
instance : Inhabited BatV:=⟨zeroB⟩
theorem sizeBts (w : World) : (Go.sizeOf 52).run Tryz.prog w = .ok 8 w:=by kernel_rfl
theorem sortb_calls {G : Nat → Prop} {w0 w : World} {L : List Asn} (i : Nat) {v : Value} {l : List BatV} (S : St G w0 w L) (hi : L[i]? = some (Mem.Own 52 BatV.cells 8 v l)) (hn : l.length ≤ 65536) :
 Calls Tryz.prog 34 #[v,.func (.func 35) #[] #[]] w fun e w'=>e = .returned (.tuple #[]) ∧ ∃ ys : List BatV,ys.Perm l ∧ UpB (ys.map (·.b)) ∧ St G w0 w' (L.set i (Mem.Own 52 BatV.cells 8 v ys)):=by
 obtain ⟨ad,c,rfl,_⟩:=(S.ownsl bvcells i hi).elim fun _ h=>h.form
 by_cases h0 : l.length = 0
 · obtain rfl : l = []:=List.eq_nil_of_length_eq_zero h0
   refine Calls.mono (AnyF.slices_SortFunc_none (P:=Tryz.prog) (ρ:=sortBts_ren) { sortBts with } _ _ _ _) ?_
   rintro e wz ⟨rfl,rfl⟩
   refine ⟨rfl,[],.refl _,List.Pairwise.nil,?_⟩
   have e : L.set i (Mem.Own 52 BatV.cells 8 (.slice ad ([] : List BatV).length c) []) = L:=by
    obtain ⟨h1,h2⟩:=List.getElem?_eq_some_iff.1 hi
    rw [← h2,List.set_getElem_self]
   rw [e]
   exact S
 · obtain ⟨R,c',e⟩:=own_hd i S hi (by omega)
   simp only [Value.slice.injEq] at e
   obtain ⟨rfl,_,rfl⟩:=e
   refine Calls.mono (sortK (P:=Tryz.prog) (ρ:=sortBts_ren) (i:=i) (enc:=BatV.cells) (k:=8) sortBts (fun w=>by kernel_rfl) sizeBts bvcells bvone BatV.tcmp swo_bat 35 #[] (fun _ _=>rfl) S hi (by omega) (fun W _ x y=>tcmp_grew x y W)) ?_
   rintro e wz ⟨rfl,ys,hp2,hs2,S2⟩
   refine ⟨rfl,ys,hp2,?_,S2⟩
   unfold UpB
   rw [List.pairwise_map]
   refine hs2.imp fun {a b} h=>?_
   have:=tcmpB_neg b a
   unfold ltOf at h
   rw [h] at this
   have h2:=this.symm
   simp only [decide_eq_false_iff_not,Classical.not_not] at h2
   exact h2
theorem ows_perm {G : Nat → Prop} {w0 w : World} {L : List Asn} {d e : List BatV} (S : St G w0 w (owI d :: outA false d :: L)) (h : ∀ x ∈ e,x ∈ d) : St G w0 w (owI e :: outA false e :: L):=by
 have S1:=S.weak (i:=0) (A':=owI e) rfl (fun _=>rfl) fun F hF=>⟨F,fun _ hb=>hb,⟨⟨by simp,fun i v xs hv hx=>by
  rw [List.getElem?_map,Option.map_eq_some_iff] at hv hx
  obtain ⟨x,hx1,rfl⟩:=hv
  obtain ⟨y,hy1,rfl⟩:=hx
  rw [hx1] at hy1
  cases hy1
  obtain ⟨j,hj,e⟩:=List.mem_iff_getElem.1 (h x (List.mem_of_getElem? hx1))
  exact hF.1.2 j _ _ (by rw [List.getElem?_map,List.getElem?_eq_getElem hj,e];rfl) (by rw [List.getElem?_map,List.getElem?_eq_getElem hj,e];rfl)⟩,hF.2⟩⟩
 have S2:=S1.weak (i:=1) (A':=outA false e) rfl (fun _=>rfl) fun F hF=>⟨F,fun _ hb=>hb,sls_sub false hF h⟩
 exact S2
theorem owi_append {G : Nat → Prop} {w0 w : World} {L : List Asn} {d e : List BatV} (S : St G w0 w (owI d :: owI e :: L)) : St G w0 w (owI (d ++ e) :: L):=by
 unfold owI at *
 rw [List.map_append,List.map_append]
 refine S.merge _ rfl rfl rfl fun F F' h h'=>?_
 refine ⟨⟨by simp,fun j u ys hu hy=>?_⟩,fun b hb=>hb.elim (h.2 b) (h'.2 b)⟩
 by_cases hj : j < (d.map (·.vi)).length
 · rw [List.getElem?_append_left hj] at hu
   rw [List.getElem?_append_left (by rw [← h.1.1];exact hj)] at hy
   obtain ⟨Fi,h1,h2⟩:=h.1.2 j u ys hu hy
   exact ⟨Fi,h1,fun b hb=>.inl (h2 b hb)⟩
 · rw [List.getElem?_append_right (by omega)] at hu
   rw [List.getElem?_append_right (by have:=h.1.1;omega)] at hy
   rw [← h.1.1] at hy
   obtain ⟨Fi,h1,h2⟩:=h'.1.2 _ u ys hu hy
   exact ⟨Fi,h1,fun b hb=>.inr (h2 b hb)⟩
def BatsPost2 (bs : List BatE) (w : World) (e : Ending) (w' : World) : Prop:=
 ∃ a cp d,e = .returned (.slice a bs.length cp) ∧ d.map (·.b) = bs ∧ St (fun _=>False) w w' [Mem.Own 52 BatV.cells 8 (.slice a bs.length cp) d,owI d,outA false d]
def TAllRel (L : List Asn) (t : TrE) (w : World) (v i : Value) (wr : World) : Prop:=
 ∃ (j : Nat) (d : List BatV),j ≤ t.length ∧ i = .int .i64 j ∧ Hid (d.map (·.b) = (t.take j).flatMap (·.1)) ∧ St (fun _=>False) w wr (Mem.Own 52 BatV.cells 8 v d :: owI d :: outA false d :: L)
theorem flat_sub2 {t : TrE} {j : Nat} : ((t.take j).flatMap (·.1)).length ≤ (t.flatMap (·.1)).length:=by
 conv=>rhs;rw [← List.take_append_drop j t,List.flatMap_append,List.length_append]
 omega
theorem tall_calls2 (X R : Nat) (t : TrE) (m : List BatE) (w : World) (F : Nat → Prop) (h : (traceA X R t).at_ w F) (ht : SmallT t) (hn : (t.flatMap (·.1)).length ≤ 65536) (hm : (t.flatMap (·.1)).Perm m) (hr : Rise m) :
 Calls Tryz.prog 12 #[.pointer (some ⟨X,0,none⟩)] w (BatsPost2 (sortB m) w):=by
 obtain ⟨v,ps,pool,hpt,hpl,S⟩:=traceR_st h
 clear h
 obtain ⟨ap,cp,rfl,_⟩:=(S.sl 3 rfl).elim fun _ h=>h.form
 have hnl : t.length = ps.length:=by rw [← hpt,List.length_map]
 have hn6 : t.length ≤ 65536:=ht.1
 have HT:=Lib.hid ht
 have HPT:=Lib.hid hpt
 have HPL:=Lib.hid hpl
 have HR:=Lib.hid hr
 have HM:=Lib.hid hm
 have HN:=Lib.hid hn
 clear hpt hpl ht hr hn hm
 go_enter Tryz.func12,Tryz.ntmps12
 go_wp2_with first | ((with_reducible apply wps_load S 4);(case hx|hi|hu=>rfl);(case hT=>decide +kernel))
 go_loopw [3,13] (fun v i wr=>TAllRel _ t w v i wr) (fun _ i _=>t.length - (intOf i).toNat)
 case atStart=>exact ⟨0,[],Nat.zero_le _,rfl,Lib.hid rfl,((S.slsNil Event.cells 7).owsNil 56 Event.cells 7).nil 52 BatV.cells 8⟩
 case round=>
  clear S
  obtain ⟨j,d,hj,rfl,HD,S⟩:=hrel
  obtain ⟨a1,c1,rfl,_⟩:=(S.ownsl bvcells 0 rfl).elim fun _ h=>h.form
  by_cases hlt : j < t.length
  · obtain ⟨p,hp⟩ : ∃ p,ps[j]? = some p:=⟨_,List.getElem?_eq_getElem (by omega)⟩
    have hte : t[j]? = some p.e:=by rw [← HPT.out,List.getElem?_map,hp];rfl
    have hlt2 : (j : Int) < ps.length:=by omega
    have hsb : SmallB (p.l.map (·.b)):=HT.out.2 p.e (List.mem_of_getElem? hte)
    have hd6 : d.length ≤ 65536:=by have h1:=congrArg List.length HD.out;rw [List.length_map] at h1;have h2:=flat_sub2 (t:=t) (j:=j);have:=HN.out;omega
    have HD2 : Hid (∀ e : List BatV,e.map (·.b) = p.l.map (·.b) → (d ++ e).map (·.b) = (t.take (j + 1)).flatMap (·.1)):=Lib.hid fun e he=>by
     rw [take_snoc hte,List.flatMap_append,List.map_append,HD.out,he];simp [ProcV.e]
    have HPV : Hid ((ps.map ProcV.v)[j]? = some p.v):=Lib.hid (by rw [List.getElem?_map,hp];rfl)
    have HPW : Hid ((ps.map (·.l))[j]? = some p.l):=Lib.hid (by rw [List.getElem?_map,hp];rfl)
    have HPX : Hid (∀ x ∈ p.l,x ∈ pool):=Lib.hid (HPL.out p (List.mem_of_getElem? hp))
    obtain ⟨pa,pc,pl,pst⟩:=p
    obtain ⟨R1,o1,rfl⟩ : ∃ R o,ap = some ⟨R,o,none⟩:=(S.sl 6 rfl).elim fun F h=>h.head (by omega)
    have hpl6 : pl.length ≤ 65536:=by have:=hsb.1;rwa [List.length_map] at this
    have HP:=Lib.hid hp
    clear hp hte
    go_wp2_with first | ((with_reducible apply wps_loada_el S 6 (hj:=HP.out) (q:=0) (vs:=[(⟨pa,pc,pl,pst⟩:ProcV).v,.int .i64 (⟨pa,pc,pl,pst⟩:ProcV).st.n0,.int .i64 (⟨pa,pc,pl,pst⟩:ProcV).st.n1,.int .i64 (⟨pa,pc,pl,pst⟩:ProcV).st.n2,.int .i64 (⟨pa,pc,pl,pst⟩:ProcV).st.n3]) (m:=5));(case hx|hi=>rfl);(case hn=>omega);(case hm|hv=>rfl);(case hT=>decide +kernel)) | ((with_reducible apply wps_alloca (E:=94) S);(case hz=>exact Tryz.zeroValue94);clear S;intro b5 wz S) | ((with_reducible apply wps_storea (T:=94) S 0 (vs:=[.slice pa pl.length pc,.int .i64 pst.n0,.int .i64 pst.n1,.int .i64 pst.n2,.int .i64 pst.n3]) (m:=5));(case hx|hy|hi|hm|h1=>rfl);(case hn=>exact nle rfl);(case hT=>decide +kernel);clear S;intro wz S;simp only [set_cons_zero,set_cons_succ,setAll,setIfInBounds_toArray] at S) | (go_at_call 31;refine Calls.mono (town_calls2 _ _ pl _ _ _ _ (sls_elT (S.get (i:=6) rfl).choose_spec HPV.out HPW.out) (sls_sub true (S.get (i:=4) rfl).choose_spec HPX.out) (sls_sub true (S.get (i:=5) rfl).choose_spec HPX.out) hsb) ?_;rintro e wz ⟨a,ca,e1,rfl,he1,T⟩;(have hel : e1.length = pl.length:=(by have:=congrArg List.length he1;simpa using this));have HE1:=Lib.hid he1;clear he1;replace S:=S.join T rfl;clear T;simp only [cons_append,nil_append] at S;have HEL:=Lib.hid hel;clear hel;replace S:=S.freeze true 0 bvcells rfl;simp only [set_cons_zero] at S) | ((with_reducible apply wps_appends elem_Bat bvcells bvone (by decide) S 4 (j:=0));(case hx|hy|hi|hj=>rfl);(case hl=>have:=HEL.out;omega);clear S;intro az nz cz wz hnz S;simp only [set_cons_succ,set_cons_zero] at S) | ((with_reducible apply wps_load S 0);(case hx|hi|hu=>rfl);(case hT=>decide +kernel))
    go_roundw
    case rel=>
     refine ⟨j + 1,d ++ e1,by omega,by go_num,Lib.hid (HD2.out _ HE1.out),?_⟩
     have S2:=S.pick [5,1,6,2,4,7,8,9,10,11] rfl
     simp only [pick,nth] at S2
     have S3:=(owi_append S2).pick [1,2,0,3,4,5,6,7,8] rfl
     simp only [pick,nth] at S3
     exact (out_append S3).pick [2,1,0,3,4,5,6,7] rfl
    case measure=>simp [intOf];omega
  · obtain rfl : j = t.length:=by omega
    rw [List.take_length] at HD
    have hge : ¬ ((t.length : Int) < ps.length):=by omega
    have hd6 : d.length ≤ 65536:=by have h1:=congrArg List.length HD.out;rw [List.length_map] at h1;have:=HN.out;omega
    go_wp2_with first | (go_at_call 34;refine Calls.mono (sortb_calls 0 S rfl hd6) ?_;clear S;rintro e wz ⟨rfl,ys,hyp,hyu,S⟩;simp only [set_cons_zero] at S)
    have hyl : ys.length = d.length:=hyp.length_eq
    have hys : ys.map (·.b) = sortB m:=sortB_eq HR.out ((by rw [← HD.out];exact hyp.map _ : (ys.map (·.b)).Perm (t.flatMap (·.1))).trans HM.out) hyu
    have S2:=ows_perm (e:=ys) (S.pick [1,2,0] rfl) (fun x hx=>hyp.mem_iff.1 hx)
    have hsl : (sortB m).length = d.length:=by rw [← hys,List.length_map];exact hyl
    clear hyp hyu hyl S HD HN HR HM
    go_ret
    exact ⟨a1,c1,ys,by rw [hsl];rfl,hys,by rw [hsl];exact S2.pick [2,0,1] rfl⟩
theorem tall_callsM (X R : Nat) (t : TrE) (m : List BatE) (w : World) (F : Nat → Prop) (h : (traceA X R t).at_ w F) (ht : SmallT t) (hn : (t.flatMap (·.1)).length ≤ 65536) (hm : (t.flatMap (·.1)).Perm m) (hr : Rise m) :
 Calls Tryz.prog 12 #[.pointer (some ⟨X,0,none⟩)] w (BatsPost (sortB m) w):=
 (tall_calls2 X R t m w F h ht hn hm hr).mono fun e w' ⟨a,cp,d,h1,h2,S⟩=>⟨a,cp,d,h1,h2,by have:=owi_ins 1 S rfl;simpa using this⟩
theorem tall_calls (X R : Nat) (t : TrE) (w : World) (F : Nat → Prop) (h : (traceA X R t).at_ w F) (ht : SmallT t) (hn : (t.flatMap (·.1)).length ≤ 65536) (hr : Rise (t.flatMap (·.1))) :
 Calls Tryz.prog 12 #[.pointer (some ⟨X,0,none⟩)] w (BatsPost (sortB (t.flatMap (·.1))) w):=tall_callsM X R t _ w F h ht hn (.refl _) hr
end Go.Proofs.YtcnfionnnpnplaaGreatDoor
