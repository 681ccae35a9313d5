import Derived.Test.YtmjljoaakdocaaaGreatDoorY32
import Derived.Test.YtmjljoaakdocaaaGreatDoorY24
import Derived.Test.YtmjljoaakdocaaaGreatDoorY19
import Derived.Test.YtmjljoaakdocaaaGreatDoorY09
import Derived.Test.YtmjljoaakdocaaaGreatDoorY20
import Derived.Test.YtmjljoaakdocaaaGreatDoorY04
import Derived.Test.YtmjljoaakdocaaaGreatDoorY07
import Derived.Test.YtmjljoaakdocaaaGreatDoorY05
import Derived.Deep.Cut
/- The walk of a log's Commit where nothing is told. -/
set_option maxHeartbeats 16000000
set_option maxRecDepth 100000
namespace Go.Proofs.YtmjljoaakdocaaaGreatDoor
open Go Go.RowKit Reg Mem
open List (set_cons_succ set_cons_zero setIfInBounds_toArray cons_append nil_append)
theorem wrong_none {n : Nat} {time below : Int} (h1 : time ≤ below) (h2 : below ≤ 1073741825) : wrongL n time below [] = 0:=by
 unfold wrongL
 rw [if_neg (by omega),if_neg (by simp),if_neg (by simp),if_neg (by decide)]
def CeRel (X R : Nat) (g : LogE) (F : Nat → Prop) (w : World) (vin out : Value) (wr : World) : Prop:=
 ∃ ad c,vin = .slice ad 0 c ∧ out = .slice none 0 0 ∧ St F w wr [logA X R g]
theorem commit_empty (X R : Nat) (g : LogE) (below : Int) (v : Value) (w : World) (F : Nat → Prop) (S0 : St F w w [logA X R g,Sl true Event.cells 7 v []]) (h1 : g.time ≤ below) (h2 : below ≤ 1073741825) :
 Calls Tryz.prog 140 #[.pointer (some ⟨X,0,none⟩),.int .i64 below,v] w fun e w'=>e = .returned (.tuple #[.slice none 0 0,.int .i64 0]) ∧ St F w w' [logA X R ⟨g.ss,below,g.done⟩]:=by
 have S:=S0
 clear S0
 obtain ⟨ad,cp,rfl,_⟩:=(S.sl 1 rfl).elim fun _ h=>h.form
 have HW:=Lib.hid (wrong_none (n:=g.ss.length) h1 h2)
 have HS : Hid (sortT ([] : List Event) = []):=Lib.hid rfl
 clear h1 h2
 go_enter Tryz.func140,Tryz.ntmps140
 go_wp2_with first | (go_at_call 70;refine Calls.mono (clone_Ev _ _ (S.get (i:=1) rfl).choose_spec (by simp)) ?_;rintro e wz ⟨ad1,c1,rfl,_,T⟩;replace S:=S.join T rfl;clear T;simp only [cons_append,nil_append] at S) | (go_at_call 177;refine Calls.mono (sortev_calls 0 S rfl (by simp)) ?_;clear S;rintro e wz ⟨rfl,S⟩;rw [HS.out] at S;simp only [set_cons_zero] at S) | (go_at_call 179;refine Calls.mono (lwrong_calls X R g below _ [] _ _ _ (S.get (i:=1) rfl).choose_spec (own_sl (sh:=true) ecells (S.get (i:=0) rfl).choose_spec) List.Pairwise.nil (by simp)) ?_;rw [HW.out];rintro e wz ⟨rfl,hE⟩;replace S:=S.ext (Keep.of_below hE);clear hE)
 replace S:=S.pick [1] rfl
 simp only [pick,nth] at S
 go_loopw [8,10] (fun vin out wr=>CeRel X R g F w vin out wr) (fun _ _ _=>0)
 case atStart=>exact ⟨_,_,rfl,rfl,S⟩
 case round=>
  clear S
  obtain ⟨ad2,c2,rfl,rfl,S⟩:=hrel
  obtain ⟨v1,v2,ld,hld,S2⟩:=log_open S
  clear S
  have S:=S2
  clear S2
  have HLD:=Lib.hid hld
  clear hld
  go_wp2_with first | ((with_reducible apply wps_store (u:=(.int .i64 below)) S 4);(case hx|hy|hi|h1=>rfl);(case hn=>exact nle rfl);(case hT=>decide +kernel);clear S;intro wz S;simp only [set_cons_succ,set_cons_zero,setIfInBounds_toArray] at S)
  (try simp only [Exit.inBlock,Exit.then]);refine bodyPost_ret (results2 rfl (res_tmp rfl) (res_tmp rfl)) rfl ?_
  exact ⟨rfl,log_close (g:=⟨g.ss,below,g.done⟩) HLD.out S⟩
end Go.Proofs.YtmjljoaakdocaaaGreatDoor
/- A configuration out of its parts. -/
namespace Go.Proofs.YtmjljoaakdocaaaGreatDoor
open Go Go.RowKit Reg Mem
open List (set_cons_succ set_cons_zero setIfInBounds_toArray cons_append nil_append)
theorem cfg_any {vP vL vS : Value} {hs : List Value} {c : Cfg} {w : World} {F1 F2 F3 F4 : Nat → Prop} (h1 : (Sl true vcell 1 vP hs).at_ w F1) (h2 : (Sl true Place.cells 5 vL c.lps).at_ w F2) (h3 : (Sl true Start.cells 4 vS c.starts).at_ w F3) (h4 : (Sls true Instr.cells 5 hs c.programs).at_ w F4) :
 (CfgA true [vP,vL,vS,.int .i64 c.fin,.int .i64 c.fuel,.int .i64 c.fan] hs c).at_ w (fun b=>b < w.heap.size):=
 ⟨⟨⟨vP,vL,vS,rfl,h1.1.mono h1.2,h2.1.mono h2.2,h3.1.mono h3.2⟩,h4.1.mono h4.2⟩,fun _ h=>h⟩
theorem sls_one {α : Type} {enc : α → List Value} {k : Nat} {v : Value} {xs : List α} {w : World} {F : Nat → Prop} (h : (Sl true enc k v xs).at_ w F) : (Sls true enc k [v] [xs]).at_ w F:=
 ⟨⟨rfl,fun i u ys hu hy=>by
   cases i with
   | zero=>simp at hu hy;subst hu;subst hy;exact h.1
   | succ i=>simp at hu⟩,h.2⟩
end Go.Proofs.YtmjljoaakdocaaaGreatDoor
/- The walks of the law's Few and ModelEvents. -/
namespace Go.Proofs.YtmjljoaakdocaaaGreatDoor
open Go Go.RowKit Reg Mem
open List (set_cons_succ set_cons_zero setIfInBounds_toArray cons_append nil_append)
def fewB (c : Cfg) : Bool:=c.programs.all (fun p=>decide (p.length ≤ 80)) && (decide (c.programs.length ≤ 40) && (decide (c.lps.length ≤ 40) && decide (c.starts.length ≤ 300)))
theorem few_iff {c : Cfg} : fewB c = true ↔ (∀ p ∈ c.programs,p.length ≤ 80) ∧ c.programs.length ≤ 40 ∧ c.lps.length ≤ 40 ∧ c.starts.length ≤ 300:=by
 simp [fewB]
def FewRel (bx : Nat) (cs : Array Value) (vP : Value) (hs : List Value) (ps : List (List Instr)) (w : World) (i : Value) (wr : World) : Prop:=
 ∃ j : Nat,j ≤ ps.length ∧ i = .int .i64 j ∧ Hid (∀ (q : Nat) y,q < j → ps[q]? = some y → y.length ≤ 80) ∧ St (fun _=>False) w wr [Blk false bx cs 43,Sls true Instr.cells 5 hs ps,Sl true vcell 1 vP hs]
theorem few_calls (vs hs : List Value) (c : Cfg) (w : World) (F : Nat → Prop) (h : (CfgA true vs hs c).at_ w F) (hw : Wide c) : Calls Tryz.prog 41 #[.agg vs.toArray] w fun r w'=>r = .returned (.bool (fewB c)) ∧ Below w.heap.size w w':=by
 have S : St (fun _=>False) w w [CfgA true vs hs c]:=(St.init _ w).share rfl rfl h
 obtain ⟨aP,cP,aL,cL,aS,cS,rfl,hlen,S⟩:=S.cfg 0 rfl
 replace S:=S.pick [0,1] rfl
 simp only [pick,nth] at S
 clear h
 have hp1 : c.programs.length ≤ 9223372036854775807:=Nat.le_trans hw.p (by decide)
 obtain ⟨ps,ls,ss,fin,fuel,fan⟩:=c
 clear hw
 simp only at *
 go_enter Tryz.func41,Tryz.ntmps41
 go_wp2_with first | ((with_reducible apply wps_boxa S);(case hx=>rfl);clear S;intro bx wz S)
 go_loopw [3] (fun i wr=>FewRel bx #[.slice aP ps.length cP,.slice aL ls.length cL,.slice aS ss.length cS,.int .i64 fin,.int .i64 fuel,.int .i64 fan] (.slice aP ps.length cP) hs ps w i wr) (fun i _=>ps.length - (intOf i).toNat)
 case atStart=>exact ⟨0,Nat.zero_le _,rfl,fun q y h=>by omega,S⟩
 case round=>
  clear S
  obtain ⟨j,hj,rfl,Hz,S⟩:=hrel
  by_cases hlt : j < ps.length
  · obtain ⟨p,hp⟩ : ∃ p,ps[j]? = some p:=⟨_,List.getElem?_eq_getElem hlt⟩
    obtain ⟨v,hv⟩ : ∃ v,hs[j]? = some v:=⟨_,List.getElem?_eq_getElem (by omega)⟩
    obtain ⟨R,o,rfl⟩ : ∃ R o,aP = some ⟨R,o,none⟩:=(S.sl 2 rfl).elim fun F h=>h.head (by omega)
    have hlt2 : (j : Int) < ps.length:=by omega
    obtain ⟨av,cv,rfl,_⟩:=(S.sls 1 rfl).elim fun F h=>(h.2 j v p hv hp).form
    have Hp:=Lib.hid hp
    have Hv:=Lib.hid hv
    clear hp hv
    by_cases h8 : (80 : Int) < p.length
    · go_wp2_with first | ((with_reducible apply wps_load_el S 2 (hj:=Hv.out) (q:=0) (u:=(.slice av p.length cv)));(case hx|hi=>rfl);(case hn=>omega);(case hu=>rfl);(case hT=>decide +kernel)) | ((with_reducible apply wps_load S 0);(case hx|hi|hu=>rfl);(case hT=>decide +kernel))
      go_ret
      refine ⟨ret_bool ?_,S.below⟩
      symm
      rw [Bool.eq_false_iff]
      intro h
      have:=(few_iff.1 h).1 p (List.mem_of_getElem? Hp.out)
      omega
    · go_wp2_with first | ((with_reducible apply wps_load_el S 2 (hj:=Hv.out) (q:=0) (u:=(.slice av p.length cv)));(case hx|hi=>rfl);(case hn=>omega);(case hu=>rfl);(case hT=>decide +kernel)) | ((with_reducible apply wps_load S 0);(case hx|hi|hu=>rfl);(case hT=>decide +kernel))
      go_roundw
      case rel=>exact ⟨j + 1,by omega,by go_num,snoc_all Hz.out Hp.out (by omega),S⟩
      case measure=>first | (simp [intOf];done) | (simp [intOf];omega)
  · obtain rfl : j = ps.length:=by omega
    have HA : Hid ((ps.all fun p=>decide (p.length ≤ 80)) = true):=by
     show _ = _
     rw [List.all_eq_true];intro p hp;simpa using all_of Hz.out p hp
    by_cases k1 : (ps.length : Int) ≤ 40
    · by_cases k2 : (ls.length : Int) ≤ 40
      · go_wp2_with first | ((with_reducible apply wps_load S 0);(case hx|hi|hu=>rfl);(case hT=>decide +kernel))
        go_ret
        exact ⟨ret_bool (by simp only [fewB];rw [HA.out,decide_eq_true (by omega : ps.length ≤ 40),decide_eq_true (by omega : ls.length ≤ 40)];simp;try omega),S.below⟩
      · go_wp2_with first | go_skip | ((with_reducible apply wps_load S 0);(case hx|hi|hu=>rfl);(case hT=>decide +kernel))
        go_ret
        exact ⟨ret_bool (by simp only [fewB];rw [HA.out,decide_eq_false (by omega : ¬ ls.length ≤ 40)];simp),S.below⟩
    · go_wp2_with first | go_skip | ((with_reducible apply wps_load S 0);(case hx|hi|hu=>rfl);(case hT=>decide +kernel))
      go_ret
      exact ⟨ret_bool (by simp only [fewB];rw [decide_eq_false (by omega : ¬ ps.length ≤ 40)];simp),S.below⟩
end Go.Proofs.YtmjljoaakdocaaaGreatDoor
/- 's = append(s, e)' where the bytes are bounded. Over any program. -/
namespace Go.Proofs.YtmjljoaakdocaaaGreatDoor.Mem
open Go Go.RowKit Reg
open List (set_cons_succ set_cons_zero setIfInBounds_toArray cons_append nil_append)
section
variable {P : Program} {ops : Array Oper} {rest : List Oper} {a : Act} {Q : Exit → Act → World → Prop} {d : Option Tmp} {tt : TypeId} {p : String} {af : Array Edge} {gd : Option (Nat × Bool)} {x y : Operand}
variable {G : Nat → Prop} {w0 w : World} {L : List Asn}
theorem wps_append1B {α : Type} {sh : Bool} {T E E' : TypeId} {enc : α → List Value} {k bytes b : Nat} {cs : Array Value} {v : Value} {xs : List α} (el : Elem P T E k bytes) (hk : ∀ x,(enc x).length = k) (hone : ∀ x,∀ u ∈ enc x,u.oneCell' = true) (hb1 : 1 ≤ bytes)
 (S : St G w0 w L) (i : Nat) (hi : L[i]? = some (Own E enc k v xs)) (j : Nat) (hj : L[j]? = some (Blk sh b cs E')) (e : α) (hx : a.eval x = v) (hy : a.eval y = .slice (some ⟨b,0,none⟩) 1 1) (he : enc e = cs.toList) (hl : (xs.length + 1) * bytes ≤ 140737488355328)
 (next : ∀ ad n c w',Hid (n = xs.length + 1) → St G w0 w' (L.set i (Own E enc k (.slice ad n c) (xs ++ [e]))) → wpList P ops Q rest (a.put d (.slice ad n c)) w') (hgd : gOk gd ops a = true:=by with_unfolding_all rfl) :
 wpList P ops Q ({ dst:=d,op:=.call { callee:=.builtin .append,args:=#[x,y],argTypes:=#[T,T] },type:=tt,pos:=p,after:=af,guard:=gd } :: rest) a w:=by
 have h2 : xs.length + 1 ≤ (xs.length + 1) * bytes:=Nat.le_mul_of_pos_right _ hb1
 exact wps_append (hgd:=hgd) el hk hone S i hi (blk_rd [e] 1 (S.blk j hj) (by simpa [flatE] using he) rfl) (by simp [maxLen];omega) (by simp;omega) hx hy fun v' w' S'=>by
  have hl' : i < L.length:=(List.getElem?_eq_some_iff.1 hi).1
  obtain ⟨F,h⟩:=S'.get (i:=i) (List.getElem?_set_self hl')
  obtain ⟨ad,c,rfl⟩:=h.1.form
  exact next _ _ _ _ (by simp [Hid]) S'
end
end Go.Proofs.YtmjljoaakdocaaaGreatDoor.Mem
/- The walks of boomeranglaw05.Plain and the law's same. -/
namespace Go.Proofs.YtmjljoaakdocaaaGreatDoor
open Go Go.RowKit Reg Mem
open List (set_cons_succ set_cons_zero setIfInBounds_toArray cons_append nil_append)
theorem elem_RIn : Elem Tryz.prog 165 222 5 40:=⟨_,.agg #[.int .i64 0,.int .i64 0,.int .i64 0,.int .i64 0,.int .i64 0],Tryz.underlying165,rfl,by kernel_rfl,by kernel_rfl,by kernel_rfl,by kernel_rfl,by omega⟩
def PlRelM (v out : Value) (p : List Instr) (w : World) (i : Value) (wr : World) : Prop:=
 ∃ j : Nat,j ≤ p.length ∧ i = .int .i64 j ∧ St (fun _=>False) w wr [Own 222 Instr.cells 5 out (p.take j),Sl true Instr.cells 5 v p]
def PlainPost (p : List Instr) (w : World) (e : Ending) (w' : World) : Prop:=
 ∃ ad c,e = .returned (.slice ad p.length c) ∧ St (fun _=>False) w w' [Own 222 Instr.cells 5 (.slice ad p.length c) p]
theorem lplain_calls (v : Value) (p : List Instr) (w : World) (F : Nat → Prop) (h : (Sl true Instr.cells 5 v p).at_ w F) (hn : p.length * 40 ≤ 140737488351232) : Calls Tryz.prog 68 #[v] w (PlainPost p w):=by
 have S : St (fun _=>False) w w [Sl true Instr.cells 5 v p]:=(St.init _ w).share rfl rfl h
 obtain ⟨ad,cp,rfl,_⟩:=(S.sl 0 rfl).elim fun _ h=>h.form
 clear h
 replace S:=S.nil 222 Instr.cells 5
 go_enter Tryz.func68,Tryz.ntmps68
 go_wp2_with first | ((with_reducible apply wps_load S 0);(case hx|hi|hu=>rfl);(case hT=>decide +kernel))
 go_loopw [3,4] (fun out i wr=>PlRelM (.slice ad p.length cp) out p w i wr) (fun _ i _=>p.length - (intOf i).toNat)
 case atStart=>exact ⟨0,Nat.zero_le _,rfl,S⟩
 case round=>
  clear S
  obtain ⟨j,hj,rfl,S⟩:=hrel
  obtain ⟨F0,hF0⟩:=S.get (i:=0) rfl
  obtain ⟨ad0,c0,rfl⟩:=hF0.1.form
  clear hF0
  by_cases hlt : j < p.length
  · obtain ⟨x,hx⟩ : ∃ x,p[j]? = some x:=⟨_,List.getElem?_eq_getElem hlt⟩
    obtain ⟨R,o,rfl⟩ : ∃ R o,ad = some ⟨R,o,none⟩:=(S.sl 1 rfl).elim fun F h=>h.head (by omega)
    have hlt2 : (j : Int) < p.length:=by omega
    have HT : Hid (p.take (j + 1) = p.take j ++ [x]):=by show _ = _;rw [List.take_add_one,hx];rfl
    have htl : ((p.take j).length + 1) * 40 ≤ 140737488355328:=by rw [List.length_take,Nat.min_eq_left hj];omega
    have hlj : (p.take j).length = j:=by simp;omega
    rw [hlj] at S
    rw [hlj]
    have Hx:=Lib.hid hx
    have Hlj:=Lib.hid hlj
    clear hx hlj
    go_wp2_with first | ((with_reducible apply wps_load S 0);(case hx|hi|hu=>rfl);(case hT=>decide +kernel))
    replace S:=S.pick [1,0] rfl
    simp only [pick,nth] at S
    (refine wp_region_wt (soft:=[0,1,2,3,4,5,6,7,8,9,10,11,12,13,14,15,16,17,18,19,20,21,22,23,24,25,26]) (L:=[_]) (T:=[_]) S ?hm ?hB ?_);(case hm=>kernel_rfl);(case hB=>decide +kernel);clear S
    iterate 27
     (with_reducible apply softs_cons)
     (case hw=>
       (with_reducible apply soft_of);(case hi=>rfl)
       intro T wz S
       simp only [cons_append,nil_append] at S
       go_wp2_with first | ((with_reducible apply wps_load_el S 0 (hj:=Hx.out) (q:=0) (u:=.int .i64 x.op));(case hx|hi=>rfl);(case hn=>omega);(case hu=>rfl);(case hT=>decide +kernel)) | ((with_reducible apply wps_load_el S 0 (hj:=Hx.out) (q:=1) (u:=.int .i64 x.a));(case hx|hi=>rfl);(case hn=>omega);(case hu=>rfl);(case hT=>decide +kernel)) | ((with_reducible apply wps_load_el S 0 (hj:=Hx.out) (q:=2) (u:=.int .i64 x.b));(case hx|hi=>rfl);(case hn=>omega);(case hu=>rfl);(case hT=>decide +kernel)) | ((with_reducible apply wps_load_el S 0 (hj:=Hx.out) (q:=3) (u:=.int .i64 x.c));(case hx|hi=>rfl);(case hn=>omega);(case hu=>rfl);(case hT=>decide +kernel)) | ((with_reducible apply wps_load_el S 0 (hj:=Hx.out) (q:=4) (u:=.int .i64 x.d));(case hx|hi=>rfl);(case hn=>omega);(case hu=>rfl);(case hT=>decide +kernel)) | ((with_reducible refine tot_done ?ht ?_);(case ht=>kernel_rfl))
       exact ⟨rfl,S⟩)
     (case hs=>exact ⟨_,rfl,by kernel_rfl⟩)
    refine softs_nil ?_
    (with_reducible apply W_hard1 (i:=27));(case hn=>rfl);(case hr=>decide +kernel)
    intro wz S
    (with_reducible apply hard_of);(case hi=>rfl)
    simp only [cons_append,nil_append] at S
    go_wp2_with first | ((with_reducible refine tot_done ?ht ?_);(case ht=>kernel_rfl)) | ((with_reducible apply wps_build1a (T:=165) (E:=222) S);(case hx=>rfl);(case hr=>intro w;kernel_rfl);clear S;intro bz wz S)
    refine ⟨_,S.pick [1,2,0] rfl,?_⟩
    (with_reducible apply W_hard1 (i:=28));(case hn=>rfl);(case hr=>decide +kernel)
    clear S
    intro wz S
    (with_reducible apply hard_of);(case hi=>rfl)
    simp only [cons_append,nil_append] at S
    try simp only [pick,nth] at S
    (with_reducible apply wps_append1B elem_RIn incells inone (by decide) S 1 (j:=2) (e:=x))
    (case hi=>rfl)
    (case hj=>rfl)
    (case he=>rfl)
    (case hl=>first | omega | (simp;omega))
    (case hx=>rfl)
    (case hy=>rfl)
    clear S
    intro az nz cz wz hnz S
    simp only [set_cons_succ,set_cons_zero] at S
    go_wp2_with first | ((with_reducible refine tot_done ?ht ?_);(case ht=>kernel_rfl))
    refine ⟨_,S,?_⟩
    (with_reducible apply W_hard1 (i:=29));(case hn=>rfl);(case hr=>decide +kernel)
    clear S
    intro wz S
    (with_reducible apply hard_of);(case hi=>rfl)
    go_wp2_with first | ((with_reducible refine tot_done ?ht ?_);(case ht=>kernel_rfl))
    refine ⟨_,S,?_⟩
    (with_reducible apply W_done);(case hn=>rfl);(case hr=>decide +kernel)
    clear S
    intro wz S
    simp only [cons_append,nil_append] at S
    try simp only [pick,nth] at S
    go_wp2_with first | ((with_reducible apply wps_load S 0);(case hx|hi|hu=>rfl);(case hT=>decide +kernel))
    go_roundw
    case rel=>exact ⟨j + 1,by omega,by go_num,by rw [HT.out];exact S.pick [1,0] rfl⟩
    case measure=>first | (simp [intOf];done) | (simp [intOf];omega)
  · obtain rfl : j = p.length:=by omega
    rw [List.take_length] at S
    rw [List.take_length]
    go_wp2_with first | ((with_reducible apply wps_load S 0);(case hx|hi|hu=>rfl);(case hT=>decide +kernel))
    go_ret
    exact ⟨_,_,rfl,S.pick [0] rfl⟩
end Go.Proofs.YtmjljoaakdocaaaGreatDoor
/- Slices that are owned and written, of which only their room is known; and several owned slices at once. Over any program. -/
namespace Go.Proofs.YtmjljoaakdocaaaGreatDoor.Mem
open Go Go.RowKit Reg
open List (set_cons_succ set_cons_zero setIfInBounds_toArray cons_append nil_append)
def RoomAt (k : Nat) (w : World) (F : Nat → Prop) (vs : List Value) : Prop:=
 ∀ (i : Nat) v,vs[i]? = some v → ∃ ad n c,v = .slice ad n c ∧ (0 < n → ∃ R cs t,ad = some ⟨R,0,none⟩ ∧ F R ∧ w.heap[R]? = some (.cells cs t (0,0)) ∧ n * k ≤ cs.size)
def Room (k : Nat) (vs : List Value) : Asn where
 sh:=false
 at_ w F:=RoomAt k w F vs ∧ ∀ b,F b → b < w.heap.size
 loc h hb:=⟨fun i v hi=>by
  obtain ⟨ad,n,c,e,h2⟩:=h.1 i v hi
  refine ⟨ad,n,c,e,fun h0=>?_⟩
  obtain ⟨R,cs,t,e1,h3,h4,h5⟩:=h2 h0
  exact ⟨R,cs,t,e1,h3,(hb R h3).trans h4,h5⟩,lt_loc h.2 hb⟩
 lt h:=h.2
def Ows {α : Type} (E : TypeId) (enc : α → List Value) (k : Nat) (vs : List Value) (xss : List (List α)) : Asn where
 sh:=false
 at_ w F:=(vs.length = xss.length ∧ ∀ (i : Nat) v xs,vs[i]? = some v → xss[i]? = some xs → ∃ Fi,(Own E enc k v xs).at_ w Fi ∧ ∀ b,Fi b → F b) ∧ ∀ b,F b → b < w.heap.size
 loc h hb:=⟨⟨h.1.1,fun i v xs hv hx=>by
  obtain ⟨Fi,h1,h2⟩:=h.1.2 i v xs hv hx
  exact ⟨Fi,(Own _ _ _ v xs).loc h1 (fun b hb'=>hb b (h2 b hb')),h2⟩⟩,lt_loc h.2 hb⟩
 lt h:=h.2
section
variable {α : Type} {E : TypeId} {enc : α → List Value} {k : Nat} {G : Nat → Prop} {w0 w : World} {L : List Asn}
theorem St.owsNil (S : St G w0 w L) (E : TypeId) (enc : α → List Value) (k : Nat) : St G w0 w (Ows E enc k [] ([] : List (List α)) :: L):=
 S.grow (F:=fun _=>False) (Keep.refl _ _) ⟨⟨rfl,fun i v xs h=>by simp at h⟩,fun _ h=>h.elim⟩ (fun _ h=>h.elim)
theorem St.owsSnoc {vs : List Value} {xss : List (List α)} {v : Value} {xs : List α} (S : St G w0 w (Own E enc k v xs :: Ows E enc k vs xss :: L)) : St G w0 w (Ows E enc k (vs ++ [v]) (xss ++ [xs]) :: L):=
 S.merge _ rfl rfl rfl fun F F' h h'=>by
  refine ⟨⟨by simp [h'.1.1],fun j u ys hu hy=>?_⟩,fun b hb=>hb.elim ((Own E enc k v xs).lt h b) (h'.2 b)⟩
  by_cases hj : j < vs.length
  · rw [List.getElem?_append_left hj] at hu
    rw [List.getElem?_append_left (by rw [← h'.1.1];exact hj)] at hy
    obtain ⟨Fi,h1,h2⟩:=h'.1.2 j u ys hu hy
    exact ⟨Fi,h1,fun b hb=>.inr (h2 b hb)⟩
  · have hjl:=(List.getElem?_eq_some_iff.1 hu).1
    simp at hjl
    obtain rfl : j = vs.length:=by omega
    rw [List.getElem?_append_right (Nat.le_refl _)] at hu
    rw [List.getElem?_append_right (by rw [h'.1.1];exact Nat.le_refl _)] at hy
    simp [h'.1.1] at hu hy
    subst hu;subst hy
    exact ⟨F,h,fun b hb=>.inl hb⟩
theorem ows_sls (hk : ∀ x,(enc x).length = k) {vs : List Value} {xss : List (List α)} {F : Nat → Prop} (h : (Ows E enc k vs xss).at_ w F) : (Sls true enc k vs xss).at_ w F:=
 ⟨⟨h.1.1,fun i v xs hv hx=>let ⟨_,h1,h2⟩:=h.1.2 i v xs hv hx;(own_sl (sh:=true) hk h1).1.mono h2⟩,h.2⟩
variable {P : Program} {ops : Array Oper} {rest : List Oper} {a : Act} {Q : Exit → Act → World → Prop} {d : Option Tmp} {tt : TypeId} {p : String} {af : Array Edge} {gd : Option (Nat × Bool)} {x y : Operand}
end
end Go.Proofs.YtmjljoaakdocaaaGreatDoor.Mem
/- Heads of slices as data; what 'few' gives. -/
namespace Go.Proofs.YtmjljoaakdocaaaGreatDoor
open Go Go.RowKit Reg Mem
open List (set_cons_succ set_cons_zero setIfInBounds_toArray cons_append nil_append)
theorem few_midK {c : Cfg} (h : fewB c = true) : Mid c:=by
 have:=few_iff.1 h;exact ⟨by omega,by omega,by omega⟩
theorem few_midK2 {c : Cfg} (h : fewB c = true) : ∀ p ∈ c.programs,p.length ≤ 65536:=fun p hp=>by
 have:=(few_iff.1 h).1 p hp;omega
structure Hd where
 ad : Option Addr
 n : Nat
 c : Nat
def Hd.val (h : Hd) : Value:=.slice h.ad h.n h.c
def hcell (h : Hd) : List Value:=[.slice h.ad h.n h.c]
theorem hdcells : ∀ h : Hd,(hcell h).length = 1:=fun _=>rfl
theorem hdone : ∀ h : Hd,∀ u ∈ hcell h,u.oneCell' = true:=fun _=>by simp [hcell,Value.oneCell']
theorem slat_map {α β : Type} {enc : α → List Value} {enc' : β → List Value} {k : Nat} {w : World} {F : Nat → Prop} {v : Value} {xs : List α} (f : α → β) (hf : ∀ x,enc' (f x) = enc x) (h : SlAt enc k w F v xs) : SlAt enc' k w F v (xs.map f):=by
 obtain ⟨a,c,e,h1,h2,h3⟩:=h
 refine ⟨a,c,by simpa using e,by simpa using h1,h2,fun i y hi=>?_⟩
 rw [List.getElem?_map] at hi
 cases hx : xs[i]? with
 | none=>rw [hx] at hi;cases hi
 | some x=>
   rw [hx] at hi;simp at hi;subst hi
   obtain ⟨R,o,e1,hR,hc⟩:=h3 i x hx
   exact ⟨R,o,e1,hR,fun j u hj=>hc j u (by rw [← hf];exact hj)⟩
end Go.Proofs.YtmjljoaakdocaaaGreatDoor
/- The walk of the law's Plain: a configuration as the reference has it. -/
namespace Go.Proofs.YtmjljoaakdocaaaGreatDoor
open Go Go.RowKit Reg Mem
open List (set_cons_succ set_cons_zero setIfInBounds_toArray cons_append nil_append)
theorem elem_RHd : Elem Tryz.prog 45 165 1 24:=⟨_,.slice none 0 0,Tryz.underlying45,rfl,by kernel_rfl,by kernel_rfl,by kernel_rfl,by kernel_rfl,by omega⟩
theorem elem_RPl : Elem Tryz.prog 46 167 5 40:=⟨_,.agg #[.int .i64 0,.int .i64 0,.int .i64 0,.int .i64 0,.int .i64 0],Tryz.underlying46,rfl,by kernel_rfl,by kernel_rfl,by kernel_rfl,by kernel_rfl,by omega⟩
theorem elem_RSta : Elem Tryz.prog 47 168 4 32:=⟨_,.agg #[.int .i64 0,.int .i64 0,.int .i64 0,.int .i64 0],Tryz.underlying47,rfl,by kernel_rfl,by kernel_rfl,by kernel_rfl,by kernel_rfl,by omega⟩
def PcRel1 (bx bo br : Nat) (vP vL vS : Value) (hs : List Value) (c : Cfg) (w : World) (i : Value) (wr : World) : Prop:=
 ∃ (j : Nat) (gs : List Hd) (ad : Option Addr) (cp : Nat),j ≤ c.programs.length ∧ i = .int .i64 j ∧ gs.length = j ∧
  St (fun _=>False) w wr [Blk false bx #[vP,vL,vS,.int .i64 c.fin,.int .i64 c.fuel,.int .i64 c.fan] 43,Sls true Instr.cells 5 hs c.programs,Sl true vcell 1 vP hs,
   Blk false bo #[.slice ad j cp,.slice none 0 0,.slice none 0 0,.int .i64 c.fin,.int .i64 c.fuel,.int .i64 c.fan] 49,Own 165 hcell 1 (.slice ad j cp) gs,Ows 222 Instr.cells 5 (gs.map Hd.val) (c.programs.take j),Blk false br #[.slice none 0 0,.slice none 0 0,.slice none 0 0,.int .i64 0,.int .i64 0,.int .i64 0] 49,Sl true Place.cells 5 vL c.lps,Sl true Start.cells 4 vS c.starts]
def PcRel2 (bx bo br : Nat) (vP vL vS vH : Value) (gs : List Hd) (c : Cfg) (w : World) (i : Value) (wr : World) : Prop:=
 ∃ (j : Nat) (ad : Option Addr) (cp : Nat),j ≤ c.lps.length ∧ i = .int .i64 j ∧
  St (fun _=>False) w wr [Blk false bo #[vH,.slice ad j cp,.slice none 0 0,.int .i64 c.fin,.int .i64 c.fuel,.int .i64 c.fan] 49,Own 167 Place.cells 5 (.slice ad j cp) (c.lps.take j),Blk false bx #[vP,vL,vS,.int .i64 c.fin,.int .i64 c.fuel,.int .i64 c.fan] 43,Sl true Place.cells 5 vL c.lps,Sl true Start.cells 4 vS c.starts,
   Own 165 hcell 1 vH gs,Ows 222 Instr.cells 5 (gs.map Hd.val) c.programs,Blk false br #[.slice none 0 0,.slice none 0 0,.slice none 0 0,.int .i64 0,.int .i64 0,.int .i64 0] 49]
def PcRel3 (bx bo br : Nat) (vP vL vS vH vR : Value) (gs : List Hd) (c : Cfg) (w : World) (i : Value) (wr : World) : Prop:=
 ∃ (j : Nat) (ad : Option Addr) (cp : Nat),j ≤ c.starts.length ∧ i = .int .i64 j ∧
  St (fun _=>False) w wr [Blk false bo #[vH,vR,.slice ad j cp,.int .i64 c.fin,.int .i64 c.fuel,.int .i64 c.fan] 49,Own 168 Start.cells 4 (.slice ad j cp) (c.starts.take j),Blk false bx #[vP,vL,vS,.int .i64 c.fin,.int .i64 c.fuel,.int .i64 c.fan] 43,Sl true Start.cells 4 vS c.starts,
   Own 167 Place.cells 5 vR c.lps,Own 165 hcell 1 vH gs,Ows 222 Instr.cells 5 (gs.map Hd.val) c.programs,Blk false br #[.slice none 0 0,.slice none 0 0,.slice none 0 0,.int .i64 0,.int .i64 0,.int .i64 0] 49]
def CPlainPost (c : Cfg) (w : World) (e : Ending) (w' : World) : Prop:=
 ∃ (gs : List Hd) (vH vR vT : Value),e = .returned (.agg #[vH,vR,vT,.int .i64 c.fin,.int .i64 c.fuel,.int .i64 c.fan]) ∧ gs.length = c.programs.length ∧
  St (fun _=>False) w w' [Own 165 hcell 1 vH gs,Ows 222 Instr.cells 5 (gs.map Hd.val) c.programs,Own 167 Place.cells 5 vR c.lps,Own 168 Start.cells 4 vT c.starts]
structure MidW (c : Cfg) : Prop where
 p : c.programs.length * 24 ≤ 140737488351232
 l : c.lps.length * 40 ≤ 140737488351232
 s : c.starts.length * 32 ≤ 140737488351232
theorem cplainW_calls (vs hs : List Value) (c : Cfg) (w : World) (F : Nat → Prop) (h : (CfgA true vs hs c).at_ w F) (hm : MidW c) (hm2 : ∀ p ∈ c.programs,p.length * 40 ≤ 140737488351232) : Calls Tryz.prog 40 #[.agg vs.toArray] w (CPlainPost c w):=by
 have S : St (fun _=>False) w w [CfgA true vs hs c]:=(St.init _ w).share rfl rfl h
 obtain ⟨aP,cP,aL,cL,aS,cS,rfl,hlen,S⟩:=S.cfg 0 rfl
 replace S:=((S.pick [0,1,2,3] rfl).owsNil 222 Instr.cells 5).nil 165 hcell 1
 simp only [pick,nth] at S
 clear h
 have hp1:=hm.p
 have hp2:=hm.l
 have hp3:=hm.s
 clear hm
 go_enter Tryz.func40,Tryz.ntmps40
 go_upto_region 1 with first | ((with_reducible apply wps_boxa (E:=43) S);(case hx=>rfl);clear S;intro bx wz S) | ((with_reducible apply wps_alloca (E:=49) S);(case hz=>exact Tryz.zeroValue49);clear S;intro br wz S)
 go_wp2_with first | ((with_reducible apply wps_alloca (E:=49) S);(case hz=>exact Tryz.zeroValue49);clear S;intro bo wz S) | ((with_reducible apply wps_storea (T:=49) S 0 (vs:=[.slice none 0 0,.slice none 0 0,.slice none 0 0,.int .i64 c.fin,.int .i64 c.fuel,.int .i64 c.fan]) (m:=6));(case hx|hy|hi|hm|h1=>rfl);(case hn=>exact nle rfl);(case hT=>decide +kernel);clear S;intro wz S;simp only [set_cons_zero,set_cons_succ,setAll,setIfInBounds_toArray] at S) | ((with_reducible apply wps_load S 1);(case hx|hi|hu=>rfl);(case hT=>decide +kernel))
 replace S:=S.pick [2,5,6,0,3,4,1,7,8] rfl
 simp only [pick,nth] at S
 go_loopw [4] (fun i wr=>PcRel1 bx bo br (.slice aP c.programs.length cP) (.slice aL c.lps.length cL) (.slice aS c.starts.length cS) hs c w i wr) (fun i _=>c.programs.length - (intOf i).toNat)
 case atStart=>exact ⟨0,[],none,0,Nat.zero_le _,rfl,rfl,S⟩
 case round=>
  clear S
  obtain ⟨j,gs,adg,cg,hj,rfl,hgs,S⟩:=hrel
  by_cases hlt : j < c.programs.length
  · obtain ⟨p,hp⟩ : ∃ p,c.programs[j]? = some p:=⟨_,List.getElem?_eq_getElem hlt⟩
    obtain ⟨v,hv⟩ : ∃ v,hs[j]? = some v:=⟨_,List.getElem?_eq_getElem (by omega)⟩
    obtain ⟨R,o,rfl⟩ : ∃ R o,aP = some ⟨R,o,none⟩:=(S.sl 2 rfl).elim fun F h=>h.head (by omega)
    have hlt2 : (j : Int) < c.programs.length:=by omega
    have hpn:=hm2 p (List.mem_of_getElem? hp)
    obtain ⟨av,cv,rfl,_⟩:=(S.sls 1 rfl).elim fun F h=>(h.2 j v p hv hp).form
    have hgl : (gs.length + 1) * 24 ≤ 140737488355328:=by omega
    have Hp:=Lib.hid hp
    have Hv:=Lib.hid hv
    have Hgs:=Lib.hid hgs
    clear hp hv hgs
    replace S:=((S.slsEl 1 rfl Hv.out Hp.out).pick [1,2,3,0,4,5,6,7,8,9] rfl)
    simp only [pick,nth] at S
    go_wp2_with first | ((with_reducible apply wps_load S 0);(case hx|hi|hu=>rfl);(case hT=>decide +kernel))
    (refine wp_region_wt (soft:=[0,2,3,4,5,6]) (L:=[_,_,_,_]) (T:=[_,_,_,_,_,_]) S ?hm ?hB ?_);(case hm=>kernel_rfl);(case hB=>decide +kernel);clear S
    iterate 6
     (with_reducible apply softs_cons)
     (case hw=>
       (with_reducible apply soft_of);(case hi=>rfl)
       intro T wz S
       simp only [cons_append,nil_append] at S
       go_wp2_with first | ((with_reducible apply wps_load_el S 2 (hj:=Hv.out) (q:=0) (u:=(.slice av p.length cv)));(case hx|hi=>rfl);(case hn=>omega);(case hu=>rfl);(case hT=>decide +kernel)) | ((with_reducible refine tot_done ?ht ?_);(case ht=>kernel_rfl)) | ((with_reducible apply wps_load S 0);(case hx|hi|hu=>rfl);(case hT=>decide +kernel))
       exact ⟨rfl,S⟩)
     (case hs=>exact ⟨_,rfl,by kernel_rfl⟩)
    refine softs_nil ?_
    repeat'
     (first
       | ((with_reducible apply W_hard1 (i:=1));(case hn=>rfl);(case hr=>decide +kernel)) | ((with_reducible apply W_hard1 (i:=7));(case hn=>rfl);(case hr=>decide +kernel)) | ((with_reducible apply W_hard1 (i:=8));(case hn=>rfl);(case hr=>decide +kernel)) | ((with_reducible apply W_hard1 (i:=9));(case hn=>rfl);(case hr=>decide +kernel)) | ((with_reducible apply W_hard1 (i:=10));(case hn=>rfl);(case hr=>decide +kernel)) | ((with_reducible apply W_hard1 (i:=11));(case hn=>rfl);(case hr=>decide +kernel)) | ((with_reducible apply W_hard2 (i:=1) (i':=7));(case hn=>rfl);(case hr=>decide +kernel)) | ((with_reducible apply W_hard2 (i:=1) (i':=8));(case hn=>rfl);(case hr=>decide +kernel)) | ((with_reducible apply W_hard2 (i:=10) (i':=11));(case hn=>rfl);(case hr=>decide +kernel)))
     all_goals
      intro wz S
      (with_reducible apply hard_of);(case hi=>rfl)
      simp only [cons_append,nil_append] at S
      try simp only [pick,nth] at S
      go_wp2_with first | (go_at_call 68;refine Calls.mono (lplain_calls _ p _ _ (S.get (i:=3) rfl).choose_spec hpn) ?_;rintro e wz ⟨azi,czi,rfl,T⟩;replace S:=S.join T rfl;clear T;simp only [cons_append,nil_append] at S) | ((with_reducible apply wps_buildSlice (T:=45) (E:=165) (cs:=#[.slice azi p.length czi]) S);(case hr=>intro w;kernel_rfl);clear S;intro bz wz S) | ((with_reducible apply wps_append1B elem_RHd hdcells hdone (by decide) S 5 (j:=11) (e:=(⟨azi,p.length,czi⟩:Hd)));(case hx|hy|hi|hj|he=>rfl);(case hl=>first | omega | (simp;omega));clear S;intro az nz cz wz hnz S;simp only [set_cons_succ,set_cons_zero] at S) | ((with_reducible apply wps_store (u:=(.slice az nz cz)) S 4);(case hx|hy|hi|h1=>rfl);(case hn=>exact nle rfl);(case hT=>decide +kernel);clear S;intro wz S;simp only [set_cons_succ,set_cons_zero,setIfInBounds_toArray] at S) | ((with_reducible refine tot_done ?ht ?_);(case ht=>kernel_rfl)) | ((with_reducible apply wps_load S 4);(case hx|hi|hu=>rfl);(case hT=>decide +kernel))
      first
       | refine ⟨_,S.pick [1,2,3,4,5,6,7,8,9,10,11,12,0] rfl,?_⟩
       | refine ⟨_,S.pick [1,2,3,4,5,6,7,8,9,10,11,0] rfl,?_⟩
       | refine ⟨_,S.pick [1,2,3,4,5,6,7,8,9,10,0] rfl,?_⟩
       | refine ⟨_,S.pick [1,2,3,4,5,6,7,8,9,0] rfl,?_⟩
       | refine ⟨_,S.pick [1,2,3,4,5,6,7,8,0] rfl,?_⟩
       | refine ⟨_,S.pick [1,2,3,4,5,6,7,0] rfl,?_⟩
       | refine ⟨_,S.pick [1,2,3,4,5,6,0] rfl,?_⟩
       | refine ⟨_,S.pick [1,2,3,4,5,0] rfl,?_⟩
       | refine ⟨_,S.pick [1,2,3,4,0] rfl,?_⟩
       | refine ⟨_,S,?_⟩
    all_goals
     (with_reducible apply W_done);(case hn=>rfl);(case hr=>decide +kernel)
     clear S
     intro wz S
     simp only [cons_append,nil_append] at S
     try simp only [pick,nth] at S
     obtain rfl : nz = j + 1:=by rw [hnz.out,Hgs.out]
     replace S:=((S.pick [10,6,0,1,2,4,5,7,8,9] rfl).owsSnoc.pick [1,2,3,4,5,0,6,7,8] rfl)
     simp only [pick,nth] at S
     go_wp2_with first | ((with_reducible apply wps_loada (T:=141) (k:=4) S 0);(case hx|hi=>rfl);(case hk=>exact nle rfl);(case hT=>decide +kernel))
     go_roundw
     case rel=>
      refine ⟨j + 1,gs ++ [⟨azi,p.length,czi⟩],az,cz,by omega,by go_num,by simp [Hgs.out],?_⟩
      have ht : c.programs.take (j + 1) = c.programs.take j ++ [p]:=by rw [List.take_add_one,Hp.out];rfl
      have hmap : (gs ++ [(⟨azi,p.length,czi⟩ : Hd)]).map Hd.val = gs.map Hd.val ++ [.slice azi p.length czi]:=by simp [Hd.val]
      rw [ht,hmap]
      exact S
     case measure=>first | (simp [intOf];done) | (simp [intOf];omega)
  · obtain rfl : j = c.programs.length:=by omega
    rw [List.take_length] at S
    replace S:=(S.pick [3,0,7,8,4,5,6] rfl).nil 167 Place.cells 5
    replace S:=S.pick [1,0,2,3,4,5,6,7] rfl
    simp only [pick,nth] at S
    go_wp2_with first | ((with_reducible apply wps_load S 2);(case hx|hi|hu=>rfl);(case hT=>decide +kernel))
    go_loopw [5] (fun i wr=>PcRel2 bx bo br (.slice aP c.programs.length cP) (.slice aL c.lps.length cL) (.slice aS c.starts.length cS) (.slice adg c.programs.length cg) gs c w i wr) (fun i _=>c.lps.length - (intOf i).toNat)
    case atStart=>exact ⟨0,none,0,Nat.zero_le _,rfl,S⟩
    case round=>
     clear S
     obtain ⟨j,adr,cr,hj,rfl,S⟩:=hrel
     by_cases hlt : j < c.lps.length
     · obtain ⟨l,hl⟩ : ∃ l,c.lps[j]? = some l:=⟨_,List.getElem?_eq_getElem hlt⟩
       obtain ⟨R,o,rfl⟩ : ∃ R o,aL = some ⟨R,o,none⟩:=(S.sl 3 rfl).elim fun F h=>h.head (by omega)
       have hlt2 : (j : Int) < c.lps.length:=by omega
       have ht : Hid (c.lps.take (j + 1) = c.lps.take j ++ [l]):=by show _ = _;rw [List.take_add_one,hl];rfl
       have htl : ((c.lps.take j).length + 1) * 40 ≤ 140737488355328:=by rw [List.length_take,Nat.min_eq_left hj];omega
       have Htl : Hid ((c.lps.take j).length = j):=by show _ = _;simp;omega
       have Hl:=Lib.hid hl
       clear hl
       go_wp2_with first | ((with_reducible apply wps_load_el S 3 (hj:=Hl.out) (q:=0) (u:=.int .i64 l.program));(case hx|hi=>rfl);(case hn=>omega);(case hu=>rfl);(case hT=>decide +kernel)) | ((with_reducible apply wps_loada_el S 3 (hj:=Hl.out) (q:=1) (vs:=[.int .i64 l.first.n0,.int .i64 l.first.n1,.int .i64 l.first.n2,.int .i64 l.first.n3]) (m:=4));(case hx|hi=>rfl);(case hn=>omega);(case hm|hv=>rfl);(case hT=>decide +kernel)) | ((with_reducible apply wps_build1a (T:=46) (E:=167) S);(case hx=>rfl);(case hr=>intro w;kernel_rfl);clear S;intro bz wz S) | ((with_reducible apply wps_append1B elem_RPl plcells plone (by decide) S 2 (j:=0) (e:=l));(case hx|hy|hi|hj|he=>rfl);(case hl=>first | omega | (simp;omega));clear S;intro az nz cz wz hnz S;simp only [set_cons_succ,set_cons_zero] at S) | ((with_reducible apply wps_store (u:=(.slice az nz cz)) S 1);(case hx|hy|hi|h1=>rfl);(case hn=>exact nle rfl);(case hT=>decide +kernel);clear S;intro wz S;simp only [set_cons_succ,set_cons_zero,setIfInBounds_toArray] at S) | ((with_reducible refine tot_done ?ht ?_);(case ht=>kernel_rfl)) | ((with_reducible apply wps_text S);(case hm=>kernel_rfl);(case hB=>decide +kernel);clear S;intro wz S) | ((with_reducible apply wps_load S 0);(case hx|hi|hu=>rfl);(case hT=>decide +kernel)) | ((with_reducible apply wps_load S 2);(case hx|hi|hu=>rfl);(case hT=>decide +kernel))
       obtain rfl : nz = j + 1:=by rw [hnz.out,Htl.out]
       go_roundw
       case rel=>exact ⟨j + 1,az,cz,by omega,by go_num,by rw [ht.out];exact S.pick [1,2,3,4,5,6,7,8] rfl⟩
       case measure=>first | (simp [intOf];done) | (simp [intOf];omega)
     · obtain rfl : j = c.lps.length:=by omega
       rw [List.take_length] at S
       replace S:=(S.pick [0,2,4,1,5,6,7] rfl).nil 168 Start.cells 4
       replace S:=S.pick [1,0,2,3,4,5,6,7] rfl
       simp only [pick,nth] at S
       go_wp2_with first | ((with_reducible apply wps_load S 2);(case hx|hi|hu=>rfl);(case hT=>decide +kernel))
       go_loopw [6] (fun i wr=>PcRel3 bx bo br (.slice aP c.programs.length cP) (.slice aL c.lps.length cL) (.slice aS c.starts.length cS) (.slice adg c.programs.length cg) (.slice adr c.lps.length cr) gs c w i wr) (fun i _=>c.starts.length - (intOf i).toNat)
       case atStart=>exact ⟨0,none,0,Nat.zero_le _,rfl,S⟩
       case round=>
        clear S
        obtain ⟨j,adt,ct,hj,rfl,S⟩:=hrel
        by_cases hlt : j < c.starts.length
        · obtain ⟨l,hl⟩ : ∃ l,c.starts[j]? = some l:=⟨_,List.getElem?_eq_getElem hlt⟩
          obtain ⟨R,o,rfl⟩ : ∃ R o,aS = some ⟨R,o,none⟩:=(S.sl 3 rfl).elim fun F h=>h.head (by omega)
          have hlt2 : (j : Int) < c.starts.length:=by omega
          have ht : Hid (c.starts.take (j + 1) = c.starts.take j ++ [l]):=by show _ = _;rw [List.take_add_one,hl];rfl
          have htl : ((c.starts.take j).length + 1) * 32 ≤ 140737488355328:=by rw [List.length_take,Nat.min_eq_left hj];omega
          have Htl : Hid ((c.starts.take j).length = j):=by show _ = _;simp;omega
          have Hl:=Lib.hid hl
          clear hl
          go_wp2_with first | ((with_reducible apply wps_alloca (E:=112) S);(case hz=>exact Tryz.zeroValue112);clear S;intro bz wz S) | ((with_reducible apply wps_loada_el S 3 (hj:=Hl.out) (q:=0) (vs:=[.int .i64 l.dst,.int .i64 l.at_,.int .i64 l.kind,.int .i64 l.data]) (m:=4));(case hx|hi=>rfl);(case hn=>omega);(case hm|hv=>rfl);(case hT=>decide +kernel)) | ((with_reducible apply wps_storea (T:=112) S 0 (vs:=[.int .i64 l.dst,.int .i64 l.at_,.int .i64 l.kind,.int .i64 l.data]) (m:=4));(case hx|hy|hi|hm|h1=>rfl);(case hn=>exact nle rfl);(case hT=>decide +kernel);clear S;intro wz S;simp only [set_cons_zero,set_cons_succ,setAll,setIfInBounds_toArray] at S) | ((with_reducible apply wps_build1a (T:=47) (E:=168) S);(case hx=>rfl);(case hr=>intro w;kernel_rfl);clear S;intro bz wz S) | ((with_reducible apply wps_append1B elem_RSta stcells stone (by decide) S 3 (j:=0) (e:=l));(case hx|hy|hi|hj|he=>rfl);(case hl=>first | omega | (simp;omega));clear S;intro az nz cz wz hnz S;simp only [set_cons_succ,set_cons_zero] at S) | ((with_reducible apply wps_store (u:=(.slice az nz cz)) S 2);(case hx|hy|hi|h1=>rfl);(case hn=>exact nle rfl);(case hT=>decide +kernel);clear S;intro wz S;simp only [set_cons_succ,set_cons_zero,setIfInBounds_toArray] at S) | ((with_reducible apply wps_load S 0);(case hx|hi|hu=>rfl);(case hT=>decide +kernel)) | ((with_reducible apply wps_load S 1);(case hx|hi|hu=>rfl);(case hT=>decide +kernel)) | ((with_reducible apply wps_load S 2);(case hx|hi|hu=>rfl);(case hT=>decide +kernel))
          obtain rfl : nz = j + 1:=by rw [hnz.out,Htl.out]
          go_roundw
          case rel=>exact ⟨j + 1,az,cz,by omega,by go_num,by rw [ht.out];exact S.pick [2,3,4,5,6,7,8,9] rfl⟩
          case measure=>first | (simp [intOf];done) | (simp [intOf];omega)
        · obtain rfl : j = c.starts.length:=by omega
          rw [List.take_length] at S
          go_wp2_with first | ((with_reducible apply wps_storea (T:=49) S 7 (vs:=[.slice adg c.programs.length cg,.slice adr c.lps.length cr,.slice adt c.starts.length ct,.int .i64 c.fin,.int .i64 c.fuel,.int .i64 c.fan]) (m:=6));(case hx|hy|hi|hm|h1=>rfl);(case hn=>exact nle rfl);(case hT=>decide +kernel);clear S;intro wz S;simp only [set_cons_zero,set_cons_succ,setAll,setIfInBounds_toArray] at S) | ((with_reducible apply wps_loada (T:=49) (k:=6) S 0);(case hx|hi=>rfl);(case hk=>exact nle rfl);(case hT=>decide +kernel)) | ((with_reducible apply wps_load S 2);(case hx|hi|hu=>rfl);(case hT=>decide +kernel))
          (try simp only [Exit.inBlock,Exit.then]);(with_reducible apply S.ret_cell 7);(case hi|h|hp=>rfl);(case hA=>kernel_rfl);(case hd=>rfl)
          exact ⟨gs,_,_,_,rfl,hgs,S.pick [5,6,4,1] rfl⟩
end Go.Proofs.YtmjljoaakdocaaaGreatDoor
/- The walks of the reference's Word, Kinds, Number. -/
namespace Go.Proofs.YtmjljoaakdocaaaGreatDoor
open Go Go.RowKit Reg Mem
open List (set_cons_succ set_cons_zero setIfInBounds_toArray cons_append nil_append)
def strE (s : ByteArray) : List Value:=[.string s]
theorem strE_len : ∀ s,(strE s).length = 1:=fun _=>rfl
def wordsL : List ByteArray:=[bytes [115,101,116],bytes [109,111,118,101],bytes [97,100,100],bytes [115,117,98],bytes [109,117,108],bytes [109,111,100],bytes [108,101,115,115],bytes [106,117,109,112],bytes [122,101,114,111],bytes [110,111,119],bytes [107,105,110,100],bytes [100,97,116,97],bytes [115,101,108,102],bytes [115,101,110,100],bytes [115,116,111,112]]
def kindsL : List ByteArray:=[bytes [99,110],bytes [99,99],bytes [99,99,99],bytes [99,99,99],bytes [99,99,99],bytes [99,99,99],bytes [99,99,99],bytes [112],bytes [99,112],bytes [99],bytes [99],bytes [99],bytes [99],bytes [99,99,99,107],bytes []]
theorem rword_calls (n : Nat) (s : ByteArray) (hs : wordsL[n]? = some s) (w : World) : Calls Tryz.prog 150 #[.int .i64 ((n : Int) + 1)] w fun r w'=>r = .returned (.string s) ∧ Below w.heap.size w w':=by
 have S:=St.init (fun _=>False) w
 have hn : n < 15:=(List.getElem?_eq_some_iff.1 hs).1
 have hn1 : (n : Int) < 15:=by omega
 have Hs:=Lib.hid hs
 clear hs
 go_enter Tryz.func150,Tryz.ntmps150
 go_upto_region 4 with first | ((with_reducible apply wps_buildSlice (T:=174) (E:=9) (cs:=#[.string (bytes [115,101,116]),.string (bytes [109,111,118,101]),.string (bytes [97,100,100]),.string (bytes [115,117,98]),.string (bytes [109,117,108]),.string (bytes [109,111,100]),.string (bytes [108,101,115,115]),.string (bytes [106,117,109,112]),.string (bytes [122,101,114,111]),.string (bytes [110,111,119]),.string (bytes [107,105,110,100]),.string (bytes [100,97,116,97]),.string (bytes [115,101,108,102]),.string (bytes [115,101,110,100]),.string (bytes [115,116,111,112])]) S);(case hr=>intro w;kernel_rfl);clear S;intro bz wz S)
 replace S:=S.weak (i:=0) (A':=Sl true strE 1 (.slice (some ⟨bz,0,none⟩) 15 15) wordsL) rfl (fun e=>by cases e) (fun F h=>⟨F,fun _ hb=>hb,blk_sl wordsL strE_len h rfl rfl⟩)
 simp only [set_cons_zero] at S
 go_wp2_with first | ((with_reducible apply wps_load_el S 0 (hj:=Hs.out) (q:=0) (u:=(.string s)));(case hx|hi=>rfl);(case hn=>omega);(case hu=>rfl);(case hT=>decide +kernel))
 go_ret
 exact ⟨by simp,S.below⟩
theorem rword_not (op : Int) (h : ¬ (1 ≤ op ∧ op ≤ 15)) (w : World) : Calls Tryz.prog 150 #[.int .i64 op] w fun r w'=>r = .returned (.string ⟨#[]⟩) ∧ Below w.heap.size w w':=by
 have S:=St.init (fun _=>False) w
 by_cases h1 : op < 1
 · go_enter Tryz.func150,Tryz.ntmps150
   go_wp2_with first | ((with_reducible apply wps_load S 0);(case hx|hi|hu=>rfl);(case hT=>decide +kernel))
   go_ret
   exact ⟨by simp,S.below⟩
 · have h2 : 15 < op:=by omega
   go_enter Tryz.func150,Tryz.ntmps150
   go_wp2_with first | ((with_reducible apply wps_load S 0);(case hx|hi|hu=>rfl);(case hT=>decide +kernel))
   go_ret
   exact ⟨by simp,S.below⟩
theorem rkinds_calls (n : Nat) (s : ByteArray) (hs : kindsL[n]? = some s) (w : World) : Calls Tryz.prog 151 #[.int .i64 ((n : Int) + 1)] w fun r w'=>r = .returned (.string s) ∧ Below w.heap.size w w':=by
 have S:=St.init (fun _=>False) w
 have hn : n < 15:=(List.getElem?_eq_some_iff.1 hs).1
 have hn1 : (n : Int) < 15:=by omega
 have Hs:=Lib.hid hs
 clear hs
 go_enter Tryz.func151,Tryz.ntmps151
 go_upto_region 4 with first | ((with_reducible apply wps_buildSlice (T:=174) (E:=9) (cs:=#[.string (bytes [99,110]),.string (bytes [99,99]),.string (bytes [99,99,99]),.string (bytes [99,99,99]),.string (bytes [99,99,99]),.string (bytes [99,99,99]),.string (bytes [99,99,99]),.string (bytes [112]),.string (bytes [99,112]),.string (bytes [99]),.string (bytes [99]),.string (bytes [99]),.string (bytes [99]),.string (bytes [99,99,99,107]),.string (bytes [])]) S);(case hr=>intro w;kernel_rfl);clear S;intro bz wz S)
 replace S:=S.weak (i:=0) (A':=Sl true strE 1 (.slice (some ⟨bz,0,none⟩) 15 15) kindsL) rfl (fun e=>by cases e) (fun F h=>⟨F,fun _ hb=>hb,blk_sl kindsL strE_len h rfl rfl⟩)
 simp only [set_cons_zero] at S
 go_wp2_with first | ((with_reducible apply wps_load_el S 0 (hj:=Hs.out) (q:=0) (u:=(.string s)));(case hx|hi=>rfl);(case hn=>omega);(case hu=>rfl);(case hT=>decide +kernel))
 go_ret
 exact ⟨by simp,S.below⟩
def numb (x : Instr) : Nat → Int
 | 0=>x.a
 | 1=>x.b
 | 2=>x.c
 | _=>x.d
def ask (s : State) : Nat → Int
 | 0=>s.n0
 | 1=>s.n1
 | 2=>s.n2
 | _=>s.n3
theorem rnumber_calls (x : Instr) (j : Nat) (hj : j < 4) (w : World) : Calls Tryz.prog 152 #[.agg #[.int .i64 x.op,.int .i64 x.a,.int .i64 x.b,.int .i64 x.c,.int .i64 x.d],.int .i64 j] w fun r w'=>r = .returned (.int .i64 (numb x j)) ∧ Below w.heap.size w w':=by
 have S:=St.init (fun _=>False) w
 obtain rfl | rfl | rfl | rfl : j = 0 ∨ j = 1 ∨ j = 2 ∨ j = 3:=by omega
 all_goals
  go_enter Tryz.func152,Tryz.ntmps152
  go_wp2_with first | ((with_reducible apply wps_boxa S);(case hx=>rfl);clear S;intro bz wz S) | ((with_reducible apply wps_load S 0);(case hx|hi|hu=>rfl);(case hT=>decide +kernel))
  go_ret
  exact ⟨by simp [numb],S.below⟩
end Go.Proofs.YtmjljoaakdocaaaGreatDoor
