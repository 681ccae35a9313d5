import Derived.Test.YtmjljoaakdocaaaGreatDoorY13
/- The walk of worker.New. -/
set_option maxHeartbeats 16000000
set_option maxRecDepth 100000
namespace Go.Proofs.YtmjljoaakdocaaaGreatDoor
open Go Go.RowKit Reg Mem
open List (set_cons_succ set_cons_zero setIfInBounds_toArray cons_append nil_append)
def toldOf (es : List Event) (k : Int) : List Event:=es.filter fun x=>x.dst == k
structure ToldAt where
 k : Int
 v : Value
 l : List Event
def ToldAt.kv (t : ToldAt) : Int × Value:=(t.k,t.v)
def ToldAt.own (t : ToldAt) : Asn:=Mem.Own 58 Event.cells 7 t.v t.l
structure ToldOk (td : List ToldAt) (es : List Event) : Prop where
 nodup : (td.map (·.k)).Nodup
 at_ : ∀ t ∈ td,t.l = toldOf es t.k
 none : ∀ k,k ∉ td.map (·.k) → toldOf es k = []
theorem toldKeys (td : List ToldAt) : (td.map ToldAt.kv).map (·.1) = td.map (·.k):=by rw [List.map_map];rfl
theorem toldOf_snoc (es : List Event) (x : Event) (k : Int) : toldOf (es ++ [x]) k = toldOf es k ++ (if x.dst = k then [x] else []):=by
 unfold toldOf
 rw [List.filter_append]
 by_cases h : x.dst = k
 · rw [if_pos h,List.filter_cons_of_pos (by simpa using h)];rfl
 · rw [if_neg h,List.filter_cons_of_neg (by simpa using h)];rfl
theorem told_set {td : List ToldAt} {es : List Event} (h : ToldOk td es) {n : Nat} {t : ToldAt} (hn : td[n]? = some t) {x : Event} (hx : x.dst = t.k) (v : Value) : ToldOk (td.set n ⟨t.k,v,t.l ++ [x]⟩) (es ++ [x]):=by
 have hk : (td.set n ⟨t.k,v,t.l ++ [x]⟩).map (·.k) = td.map (·.k):=by
  rw [List.map_set]
  apply List.ext_getElem?
  intro i
  rw [List.getElem?_set]
  split
  · rename_i h;subst h;rw [List.getElem?_map,hn];simp [(List.getElem?_eq_some_iff.1 hn).1]
  · rfl
 refine ⟨by rw [hk];exact h.nodup,fun s hs=>?_,fun k hk2=>?_⟩
 · obtain ⟨i,hi,e⟩:=List.mem_iff_getElem.1 hs
   rw [List.length_set] at hi
   rw [List.getElem_set] at e
   rw [toldOf_snoc]
   split at e
   · subst e
     rw [if_pos hx,← h.at_ t (List.mem_of_getElem? hn)]
   · rename_i hne
     subst e
     rw [if_neg,List.append_nil]
     · exact h.at_ _ (List.getElem_mem hi)
     · intro e2
       obtain ⟨hn1,hn2⟩:=List.getElem?_eq_some_iff.1 hn
       have h1 : (td.map (·.k))[n]'(by simpa using hn1) = (td.map (·.k))[i]'(by simpa using hi):=by
        simp only [List.getElem_map,hn2];rw [← hx,e2]
       exact hne ((List.getElem_inj h.nodup).1 h1)
 · rw [hk] at hk2
   rw [toldOf_snoc,h.none k hk2,if_neg]
   · rfl
   · intro e
     exact hk2 (List.mem_map.2 ⟨t,List.mem_of_getElem? hn,by rw [← e,hx]⟩)
theorem told_new {td : List ToldAt} {es : List Event} (h : ToldOk td es) {x : Event} (hx : x.dst ∉ td.map (·.k)) (v : Value) : ToldOk (td ++ [⟨x.dst,v,[x]⟩]) (es ++ [x]):=by
 refine ⟨?_,fun s hs=>?_,fun k hk=>?_⟩
 · rw [List.map_append,List.nodup_append]
   exact ⟨h.nodup,by simp,fun a ha b hb=>by simp at hb;subst hb;exact fun e=>hx (e ▸ ha)⟩
 · rw [toldOf_snoc]
   rcases List.mem_append.1 hs with hs | hs
   · rw [h.at_ s hs,if_neg,List.append_nil]
     intro e
     exact hx (List.mem_map.2 ⟨s,hs,e.symm⟩)
   · simp at hs;subst hs
     show [x] = toldOf es x.dst ++ _
     rw [h.none _ hx,if_pos rfl];rfl
 · rw [List.map_append,List.mem_append,not_or] at hk
   rw [toldOf_snoc,h.none k hk.1,if_neg]
   · rfl
   · intro e;exact hk.2 (by simp [e])
def WTRel (Mt R : Nat) (vs hs : List Value) (c : Cfg) (v : Value) (es : List Event) (w : World) (i : Value) (wr : World) : Prop:=
 ∃ (j : Nat) (td : List ToldAt),j ≤ es.length ∧ i = .int .i64 j ∧ Hid (ToldOk td (es.take j)) ∧
  St (fun _=>False) w wr [MapK false Tryz.prog 3 intE Mt (td.map ToldAt.kv),stars (td.map ToldAt.own),Sl true Event.cells 7 v es,ModA true 110 R vs hs c]
def firstOf (c : Cfg) (j : Nat) : State:=((c.lps[j]?).map (·.first)).getD ⟨0,0,0,0⟩
def newPs (c : Cfg) (es : List Event) (id workers every : Int) (lazy : Bool) : Nat → List (Int × LpE)
 | 0=>[]
 | n + 1=>newPs c es id workers every lazy n ++ (if homeOf n workers = id then [((n : Int),newLp n every lazy (firstOf c n) (toldOf es n))] else [])
theorem newPs_succ (c : Cfg) (es : List Event) (id workers every : Int) (lazy : Bool) (n : Nat) : newPs c es id workers every lazy (n + 1) = newPs c es id workers every lazy n ++ (if homeOf n workers = id then [((n : Int),newLp n every lazy (firstOf c n) (toldOf es n))] else []):=rfl
theorem newPs_lt (c : Cfg) (es : List Event) (id workers every : Int) (lazy : Bool) : ∀ (n : Nat) (p : Int × LpE),p ∈ newPs c es id workers every lazy n → 0 ≤ p.1 ∧ p.1 < n ∧ homeOf p.1 workers = id
 | 0,p,h=>by simp [newPs] at h
 | n + 1,p,h=>by
   rw [newPs_succ,List.mem_append] at h
   rcases h with h | h
   · have:=newPs_lt c es id workers every lazy n p h;exact ⟨this.1,by omega,this.2.2⟩
   · split at h
     · simp at h;subst h;rename_i hh;exact ⟨by simp,by simp;omega,hh⟩
     · simp at h
def newWk (c : Cfg) (id workers every : Int) (lazy : Bool) : WkE:=⟨0,[],1073741825,newPs c (sortE (startsFrom 0 c.starts)) id workers every lazy c.lps.length⟩
def WNRel (M g bW Mt R : Nat) (vs hs : List Value) (c : Cfg) (es : List Event) (td : List ToldAt) (id workers every : Int) (lazy : Bool) (w : World) (i : Value) (wr : World) : Prop:=
 ∃ (j : Nat) (qs : List LpAt),j ≤ c.lps.length ∧ i = .int .i64 j ∧ Hid (qs.map LpAt.e = newPs c es id workers every lazy j) ∧
  St (fun _=>False) w wr [MapK false Tryz.prog 3 intE M (qs.map LpAt.kv),stars (qs.map fun q=>lpA q.x R q.p),gvtA g 0 [] 1073741825,Blk false bW #[.pointer (some ⟨g,0,none⟩),.map (some M)] 135,
   MapK false Tryz.prog 3 intE Mt (td.map ToldAt.kv),stars (td.map ToldAt.own),ModA true 110 R vs hs c,Mem.Own 58 Event.cells 7 (.slice none 0 0) []]
def WNewPost (R : Nat) (k : WkE) (w : World) (e : Ending) (w' : World) : Prop:=
 ∃ X,e = .returned (.tuple #[.pointer (some ⟨X,0,none⟩),.int .i64 0]) ∧ St (fun _=>False) w w' [workerA X R k]
theorem wnew_calls (R : Nat) (vs hs : List Value) (c : Cfg) (id workers every : Int) (lazy : Bool) (w : World) (F : Nat → Prop) (h : (ModA true 110 R vs hs c).at_ w F) (hn : c.lps.length ≤ 32) (hns : c.starts.length ≤ 65536)
 (h1 : 1 ≤ workers) (h2 : workers ≤ 8) (h3 : 0 ≤ id) (h4 : id < workers) (h5 : 1 ≤ every) (hev : ∀ x ∈ startsFrom 0 c.starts,0 ≤ x.key.at_ ∧ x.key.at_ ≤ 1073741824) :
 Calls Tryz.prog 25 #[.pointer (some ⟨R,0,none⟩),.int .i64 id,.int .i64 workers,.int .i64 every,.bool lazy] w (WNewPost R (newWk c id workers every lazy) w):=by
 have S : St (fun _=>False) w w [ModA true 110 R vs hs c]:=(St.init _ w).share rfl rfl h
 clear h
 have f1 : decide (workers < 1) = false:=decide_eq_false (by omega)
 have f2 : decide (workers > 8) = false:=decide_eq_false (by omega)
 have f3 : decide (id < 0) = false:=decide_eq_false (by omega)
 have f4 : decide (id ≥ workers) = false:=decide_eq_false (by omega)
 have f5 : decide (every < 1) = false:=decide_eq_false (by omega)
 have HEV:=Lib.hid hev
 have HE5:=Lib.hid h5
 clear hev h1 h2 h3 h4 h5
 unfold newWk
 obtain ⟨es,hes⟩ : ∃ es,sortE (startsFrom 0 c.starts) = es:=⟨_,rfl⟩
 have hel : es.length = (startsFrom 0 c.starts).length:=by rw [← hes,sortE_len]
 have hel2 : es.length ≤ 65536:=by rw [hel,startsFrom_len];exact hns
 have HSE:=Lib.hid hes
 have HEL:=Lib.hid hel
 have HEO : Hid (∀ x ∈ es,0 ≤ x.key.at_ ∧ x.key.at_ ≤ 1073741824):=Lib.hid fun x hx=>HEV.out x (by rw [← hes] at hx;exact (sortE_perm _).subset hx)
 rw [hes]
 clear hes hel
 go_enter Tryz.func25,Tryz.ntmps25
 go_wp2_with first | ((with_reducible apply wps_makeMapK (P:=Tryz.prog) (K:=3) S intE);clear S;intro Mt wz S) | (go_at_call 16;(with_reducible refine Calls.mono (events_calls _ _ _ _ _ _ (S.get (i:=1) rfl).choose_spec hns) ?_);rintro rr wz ⟨ae,ce,rfl,T⟩;rw [HSE.out,← HEL.out] at T;rw [← HEL.out];replace S:=S.join T rfl;clear T;simp only [cons_append,nil_append] at S)
 replace S:=S.freeze true 0 ecells rfl
 simp only [set_cons_zero] at S
 replace S:=S.starNil.pick [2,0,1,3] rfl
 simp only [pick,nth] at S
 go_loopw [44] (fun i wr=>WTRel Mt R vs hs c (.slice ae es.length ce) es w i wr) (fun i _=>es.length - (intOf i).toNat)
 case atStart=>exact ⟨0,[],Nat.zero_le _,rfl,Lib.hid ⟨List.nodup_nil,fun t h=>by simp at h,fun _ _=>rfl⟩,S⟩
 case round=>
  clear S
  obtain ⟨j,td,hj,rfl,HT,S⟩:=hrel
  by_cases hlt : j < es.length
  · obtain ⟨x,hx⟩ : ∃ x,es[j]? = some x:=⟨_,List.getElem?_eq_getElem hlt⟩
    obtain ⟨R5,o5,rfl⟩ : ∃ R o,ae = some ⟨R,o,none⟩:=(S.sl 2 rfl).elim fun F h=>h.head (by omega)
    have hlt2 : (j : Int) < es.length:=by omega
    have HTK:=Lib.hid (take_snocL hx)
    have HX:=Lib.hid hx
    clear hx
    by_cases hk : x.dst ∈ td.map (·.k)
    · obtain ⟨n,t,hn,hkt⟩ : ∃ (n : Nat) (t : ToldAt),td[n]? = some t ∧ t.k = x.dst:=by
       obtain ⟨t,h1,h2⟩:=List.mem_map.1 hk
       obtain ⟨n,hn,e⟩:=List.mem_iff_getElem.1 h1
       exact ⟨n,t,by rw [List.getElem?_eq_getElem hn,e],h2⟩
      have hmk : (td.map ToldAt.kv)[n]? = some (x.dst,t.v):=by rw [List.getElem?_map,hn];show some (t.k,t.v) = _;rw [hkt]
      have hmo : (td.map ToldAt.own)[n]? = some t.own:=by rw [List.getElem?_map,hn];rfl
      have HLK : Hid ((lookK (td.map ToldAt.kv) x.dst).getD (.slice none 0 0) = t.v):=Lib.hid (by rw [lookK_at (by rw [toldKeys];exact HT.out.nodup) hmk];rfl)
      have S2:=(S.pick [1,0,2,3] rfl)
      simp only [pick,nth] at S2
      have S3:=S2.starPull n hmo rfl
      clear S2 S
      have S:=S3
      clear S3
      have HSET:=Lib.hid fun v=>told_set HT.out hn hkt.symm v
      rw [← HTK.out] at HSET
      have HMK:=Lib.hid hmk
      have HN:=Lib.hid hn
      have HKT:=Lib.hid hkt
      have hll : t.l.length ≤ 65536:=by
       rw [HT.out.at_ t (List.mem_of_getElem? hn)]
       refine Nat.le_trans (List.length_filter_le _ _) ?_
       rw [List.length_take];omega
      obtain ⟨tk,tv,tl⟩:=t
      have HLL:=Lib.hid hll
      clear hk hn hkt hmk hmo hll
      simp only [ToldAt.own] at S
      go_wp2_with first | ((with_reducible apply wps_loada_el S 3 (hj:=HX.out) (q:=0) (vs:=[.int .i64 x.key.at_,.int .i64 x.key.src,.int .i64 x.key.sent,.int .i64 x.key.no,.int .i64 x.dst,.int .i64 x.kind,.int .i64 x.data]) (m:=7));(case hx|hi=>rfl);(case hn=>omega);(case hm|hv=>rfl);(case hT=>decide +kernel)) | ((with_reducible apply wps_alloca (E:=58) S);(case hz=>exact Tryz.zeroValue58);clear S;intro b14 wz S) | ((with_reducible apply wps_storea (T:=58) S 0 (vs:=[.int .i64 x.key.at_,.int .i64 x.key.src,.int .i64 x.key.sent,.int .i64 x.key.no,.int .i64 x.dst,.int .i64 x.kind,.int .i64 x.data]) (m:=7));(case hx|hy|hi|hm|h1=>rfl);(case hn=>exact nle rfl);(case hT=>decide +kernel);clear S;intro wz S;simp only [set_cons_zero,set_cons_succ,setAll,setIfInBounds_toArray] at S)
      replace S:=S.pick [0,2,4,5,1,3] rfl
      simp only [pick,nth] at S
      (refine wp_region_wt (soft:=[0,1,2,3,4,5,7]) (L:=[_,_,_,_]) (T:=[_,_]) S ?hm ?hB ?_);(case hm=>kernel_rfl);(case hB=>decide +kernel);clear S
      iterate 7
       (with_reducible apply softs_cons)
       (case hw=>
         (with_reducible apply soft_of);(case hi=>rfl)
         intro T wz S
         simp only [cons_append,nil_append] at S
         go_wp2_with first | ((with_reducible apply wps_loada (T:=58) (k:=7) S 0);(case hx|hi=>rfl);(case hk=>exact nle rfl);(case hT=>decide +kernel)) | ((with_reducible refine tot_done ?ht ?_);(case ht=>kernel_rfl)) | ((with_reducible apply wps_load S 0);(case hx|hi|hu=>rfl);(case hT=>decide +kernel))
         exact ⟨rfl,S⟩)
       (case hs=>exact ⟨_,rfl,by kernel_rfl⟩)
      refine softs_nil ?_
      (with_reducible apply W_hard2 (i:=6) (i':=8));(case hn=>rfl);(case hr=>decide +kernel)
      focus
       intro wz S
       (with_reducible apply hard_of);(case hi=>rfl)
       simp only [cons_append,nil_append] at S
       go_wp2_with first | ((with_reducible apply wps_lookupK keyedI Tryz.underlying130 Tryz.zeroValue53 S 5 rfl x.dst (v:=tv));(case hx=>rfl);(case hy=>exact (wholeI _).symm);(case hv=>exact HLK.out)) | ((with_reducible refine tot_done ?ht ?_);(case ht=>kernel_rfl))
       refine ⟨_,S,?_⟩
       clear S
       (with_reducible apply W_hard1 (i:=8));(case hn=>rfl);(case hr=>decide +kernel)
       intro wz S
       (with_reducible apply hard_of);(case hi=>rfl)
       simp only [cons_append,nil_append] at S
       go_wp2_with first | ((with_reducible apply wps_buildSlice (T:=53) (E:=58) (cs:=#[.int .i64 x.key.at_,.int .i64 x.key.src,.int .i64 x.key.sent,.int .i64 x.key.no,.int .i64 x.dst,.int .i64 x.kind,.int .i64 x.data]) S);(case hr=>intro w;kernel_rfl);clear S;intro bz wz S) | ((with_reducible refine tot_done ?ht ?_);(case ht=>kernel_rfl))
       refine ⟨_,S.pick [1,2,3,4,5,6,0] rfl,?_⟩
       clear S
       (with_reducible apply W_hard1 (i:=9));(case hn=>rfl);(case hr=>decide +kernel)
       intro wz S
       (with_reducible apply hard_of);(case hi=>rfl)
       simp only [cons_append,nil_append] at S
       go_wp2_with first | ((with_reducible apply wps_append1 elem_Ev ecells eone (by decide) S 4 (j:=6) (e:=x));(case hx|hy|hi|hj|he=>rfl);(case hl=>have:=HLL.out;omega);clear S;intro az nz cz wz hnz S;simp only [set_cons_succ,set_cons_zero] at S) | ((with_reducible refine tot_done ?ht ?_);(case ht=>kernel_rfl))
       refine ⟨_,S,?_⟩
       clear S
       (with_reducible apply W_hard1 (i:=10));(case hn=>rfl);(case hr=>decide +kernel)
       intro wz S
       (with_reducible apply hard_of);(case hi=>rfl)
       simp only [cons_append,nil_append] at S
       go_wp2_with first | ((with_reducible apply wps_updK_set keyedI Tryz.underlying130 S 5 rfl x.dst (.slice az nz cz) tv n HMK.out);(case hx=>rfl);(case hy=>exact (wholeI _).symm);(case hz=>rfl);clear S;intro wz S;simp only [set_cons_succ,set_cons_zero] at S) | ((with_reducible refine tot_done ?ht ?_);(case ht=>kernel_rfl))
       refine ⟨_,S,?_⟩
       clear S
       (with_reducible apply W_done);(case hn=>rfl);(case hr=>decide +kernel)
       intro wz S
       repeat (first | simp only at S | simp only [pick] at S | simp only [nth] at S | simp only [set_cons_succ] at S | simp only [set_cons_zero] at S | simp only [setIfInBounds_toArray] at S | simp only [setAll] at S | simp only [cons_append] at S | simp only [nil_append] at S | simp only [List.append_nil] at S)
      rotate_left 1
      focus
       intro wz S
       (with_reducible apply hard_of);(case hi=>rfl)
       simp only [cons_append,nil_append] at S
       go_wp2_with first | ((with_reducible apply wps_buildSlice (T:=53) (E:=58) (cs:=#[.int .i64 x.key.at_,.int .i64 x.key.src,.int .i64 x.key.sent,.int .i64 x.key.no,.int .i64 x.dst,.int .i64 x.kind,.int .i64 x.data]) S);(case hr=>intro w;kernel_rfl);clear S;intro bz wz S) | ((with_reducible refine tot_done ?ht ?_);(case ht=>kernel_rfl))
       refine ⟨_,S.pick [1,2,3,4,5,6,0] rfl,?_⟩
       clear S
       (with_reducible apply W_hard1 (i:=6));(case hn=>rfl);(case hr=>decide +kernel)
       intro wz S
       (with_reducible apply hard_of);(case hi=>rfl)
       simp only [cons_append,nil_append] at S
       go_wp2_with first | ((with_reducible apply wps_lookupK keyedI Tryz.underlying130 Tryz.zeroValue53 S 5 rfl x.dst (v:=tv));(case hx=>rfl);(case hy=>exact (wholeI _).symm);(case hv=>exact HLK.out)) | ((with_reducible refine tot_done ?ht ?_);(case ht=>kernel_rfl))
       refine ⟨_,S,?_⟩
       clear S
       (with_reducible apply W_hard1 (i:=9));(case hn=>rfl);(case hr=>decide +kernel)
       intro wz S
       (with_reducible apply hard_of);(case hi=>rfl)
       simp only [cons_append,nil_append] at S
       go_wp2_with first | ((with_reducible apply wps_append1 elem_Ev ecells eone (by decide) S 4 (j:=6) (e:=x));(case hx|hy|hi|hj|he=>rfl);(case hl=>have:=HLL.out;omega);clear S;intro az nz cz wz hnz S;simp only [set_cons_succ,set_cons_zero] at S) | ((with_reducible refine tot_done ?ht ?_);(case ht=>kernel_rfl))
       refine ⟨_,S,?_⟩
       clear S
       (with_reducible apply W_hard1 (i:=10));(case hn=>rfl);(case hr=>decide +kernel)
       intro wz S
       (with_reducible apply hard_of);(case hi=>rfl)
       simp only [cons_append,nil_append] at S
       go_wp2_with first | ((with_reducible apply wps_updK_set keyedI Tryz.underlying130 S 5 rfl x.dst (.slice az nz cz) tv n HMK.out);(case hx=>rfl);(case hy=>exact (wholeI _).symm);(case hz=>rfl);clear S;intro wz S;simp only [set_cons_succ,set_cons_zero] at S) | ((with_reducible refine tot_done ?ht ?_);(case ht=>kernel_rfl))
       refine ⟨_,S,?_⟩
       clear S
       (with_reducible apply W_done);(case hn=>rfl);(case hr=>decide +kernel)
       intro wz S
       repeat (first | simp only at S | simp only [pick] at S | simp only [nth] at S | simp only [set_cons_succ] at S | simp only [set_cons_zero] at S | simp only [setIfInBounds_toArray] at S | simp only [setAll] at S | simp only [cons_append] at S | simp only [nil_append] at S | simp only [List.append_nil] at S)
      all_goals
       have S2:=(S.pick [4,1,5,2,3] rfl)
       simp only [pick,nth] at S2
       have S3:=(S2.starPush n (A:=pur True) (by rw [List.getElem?_set_self (by rw [List.length_map];exact (List.getElem?_eq_some_iff.1 HN.out).1)]) rfl).pick [1,0,2,3] rfl
       simp only [pick,nth] at S3
       clear S S2
       rw [List.set_set] at S3
       have e1 : (td.map ToldAt.own).set n (Mem.Own 58 Event.cells 7 (.slice az nz cz) (tl ++ [x])) = (td.set n ⟨tk,.slice az nz cz,tl ++ [x]⟩).map ToldAt.own:=by rw [List.map_set];rfl
       have e2 : (td.map ToldAt.kv).set n (x.dst,.slice az nz cz) = (td.set n ⟨tk,.slice az nz cz,tl ++ [x]⟩).map ToldAt.kv:=by rw [List.map_set];show _ = (td.map ToldAt.kv).set n (tk,_);rw [show tk = x.dst from HKT.out]
       rw [e1,e2] at S3
       clear e1 e2
       go_wp2_with first | ((with_reducible apply wps_loada (T:=58) (k:=7) S 0);(case hx|hi=>rfl);(case hk=>exact nle rfl);(case hT=>decide +kernel))
       go_roundw
       case rel=>exact ⟨j + 1,_,by omega,by go_num,Lib.hid (HSET.out _),S3⟩
       case measure=>first | (simp [intOf];done) | (simp [intOf];omega)
    · have HLK : Hid ((lookK (td.map ToldAt.kv) x.dst).getD (.slice none 0 0) = .slice none 0 0):=Lib.hid (by rw [lookK_none (by rw [toldKeys];exact hk)];rfl)
      have HSET:=Lib.hid fun v=>told_new HT.out hk v
      rw [← HTK.out] at HSET
      have HK2 : Hid (x.dst ∉ (td.map ToldAt.kv).map (·.1)):=Lib.hid (by rw [toldKeys];exact hk)
      clear hk
      replace S:=S.nil 58 Event.cells 7
      go_wp2_with first | ((with_reducible apply wps_loada_el S 3 (hj:=HX.out) (q:=0) (vs:=[.int .i64 x.key.at_,.int .i64 x.key.src,.int .i64 x.key.sent,.int .i64 x.key.no,.int .i64 x.dst,.int .i64 x.kind,.int .i64 x.data]) (m:=7));(case hx|hi=>rfl);(case hn=>omega);(case hm|hv=>rfl);(case hT=>decide +kernel)) | ((with_reducible apply wps_alloca (E:=58) S);(case hz=>exact Tryz.zeroValue58);clear S;intro b14 wz S) | ((with_reducible apply wps_storea (T:=58) S 0 (vs:=[.int .i64 x.key.at_,.int .i64 x.key.src,.int .i64 x.key.sent,.int .i64 x.key.no,.int .i64 x.dst,.int .i64 x.kind,.int .i64 x.data]) (m:=7));(case hx|hy|hi|hm|h1=>rfl);(case hn=>exact nle rfl);(case hT=>decide +kernel);clear S;intro wz S;simp only [set_cons_zero,set_cons_succ,setAll,setIfInBounds_toArray] at S)
      replace S:=S.pick [0,3,4,5,1,2] rfl
      simp only [pick,nth] at S
      (refine wp_region_wt (soft:=[0,1,2,3,4,5,7]) (L:=[_,_,_,_]) (T:=[_,_]) S ?hm ?hB ?_);(case hm=>kernel_rfl);(case hB=>decide +kernel);clear S
      iterate 7
       (with_reducible apply softs_cons)
       (case hw=>
         (with_reducible apply soft_of);(case hi=>rfl)
         intro T wz S
         simp only [cons_append,nil_append] at S
         go_wp2_with first | ((with_reducible apply wps_loada (T:=58) (k:=7) S 0);(case hx|hi=>rfl);(case hk=>exact nle rfl);(case hT=>decide +kernel)) | ((with_reducible refine tot_done ?ht ?_);(case ht=>kernel_rfl)) | ((with_reducible apply wps_load S 0);(case hx|hi|hu=>rfl);(case hT=>decide +kernel))
         exact ⟨rfl,S⟩)
       (case hs=>exact ⟨_,rfl,by kernel_rfl⟩)
      refine softs_nil ?_
      (with_reducible apply W_hard2 (i:=6) (i':=8));(case hn=>rfl);(case hr=>decide +kernel)
      focus
       intro wz S
       (with_reducible apply hard_of);(case hi=>rfl)
       simp only [cons_append,nil_append] at S
       go_wp2_with first | ((with_reducible apply wps_lookupK keyedI Tryz.underlying130 Tryz.zeroValue53 S 5 rfl x.dst (v:=.slice none 0 0));(case hx=>rfl);(case hy=>exact (wholeI _).symm);(case hv=>exact HLK.out)) | ((with_reducible refine tot_done ?ht ?_);(case ht=>kernel_rfl))
       refine ⟨_,S,?_⟩
       clear S
       (with_reducible apply W_hard1 (i:=8));(case hn=>rfl);(case hr=>decide +kernel)
       intro wz S
       (with_reducible apply hard_of);(case hi=>rfl)
       simp only [cons_append,nil_append] at S
       go_wp2_with first | ((with_reducible apply wps_buildSlice (T:=53) (E:=58) (cs:=#[.int .i64 x.key.at_,.int .i64 x.key.src,.int .i64 x.key.sent,.int .i64 x.key.no,.int .i64 x.dst,.int .i64 x.kind,.int .i64 x.data]) S);(case hr=>intro w;kernel_rfl);clear S;intro bz wz S) | ((with_reducible refine tot_done ?ht ?_);(case ht=>kernel_rfl))
       refine ⟨_,S.pick [1,2,3,4,5,6,0] rfl,?_⟩
       clear S
       (with_reducible apply W_hard1 (i:=9));(case hn=>rfl);(case hr=>decide +kernel)
       intro wz S
       (with_reducible apply hard_of);(case hi=>rfl)
       simp only [cons_append,nil_append] at S
       go_wp2_with first | ((with_reducible apply wps_append1 elem_Ev ecells eone (by decide) S 4 (j:=6) (e:=x));(case hx|hy|hi|hj|he=>rfl);(case hl=>simp only [List.length_nil];omega);clear S;intro az nz cz wz hnz S;simp only [set_cons_succ,set_cons_zero,nil_append] at S) | ((with_reducible refine tot_done ?ht ?_);(case ht=>kernel_rfl))
       refine ⟨_,S,?_⟩
       clear S
       (with_reducible apply W_hard1 (i:=10));(case hn=>rfl);(case hr=>decide +kernel)
       intro wz S
       (with_reducible apply hard_of);(case hi=>rfl)
       simp only [cons_append,nil_append] at S
       go_wp2_with first | ((with_reducible apply wps_updK_new keyedI Tryz.underlying130 S 5 rfl x.dst (.slice az nz cz) HK2.out);(case hx=>rfl);(case hy=>exact (wholeI _).symm);(case hz=>rfl);clear S;intro wz S;simp only [set_cons_succ,set_cons_zero] at S) | ((with_reducible refine tot_done ?ht ?_);(case ht=>kernel_rfl))
       refine ⟨_,S,?_⟩
       clear S
       (with_reducible apply W_done);(case hn=>rfl);(case hr=>decide +kernel)
       intro wz S
       repeat (first | simp only at S | simp only [pick] at S | simp only [nth] at S | simp only [set_cons_succ] at S | simp only [set_cons_zero] at S | simp only [setIfInBounds_toArray] at S | simp only [setAll] at S | simp only [cons_append] at S | simp only [nil_append] at S | simp only [List.append_nil] at S)
      rotate_left 1
      focus
       intro wz S
       (with_reducible apply hard_of);(case hi=>rfl)
       simp only [cons_append,nil_append] at S
       go_wp2_with first | ((with_reducible apply wps_buildSlice (T:=53) (E:=58) (cs:=#[.int .i64 x.key.at_,.int .i64 x.key.src,.int .i64 x.key.sent,.int .i64 x.key.no,.int .i64 x.dst,.int .i64 x.kind,.int .i64 x.data]) S);(case hr=>intro w;kernel_rfl);clear S;intro bz wz S) | ((with_reducible refine tot_done ?ht ?_);(case ht=>kernel_rfl))
       refine ⟨_,S.pick [1,2,3,4,5,6,0] rfl,?_⟩
       clear S
       (with_reducible apply W_hard1 (i:=6));(case hn=>rfl);(case hr=>decide +kernel)
       intro wz S
       (with_reducible apply hard_of);(case hi=>rfl)
       simp only [cons_append,nil_append] at S
       go_wp2_with first | ((with_reducible apply wps_lookupK keyedI Tryz.underlying130 Tryz.zeroValue53 S 5 rfl x.dst (v:=.slice none 0 0));(case hx=>rfl);(case hy=>exact (wholeI _).symm);(case hv=>exact HLK.out)) | ((with_reducible refine tot_done ?ht ?_);(case ht=>kernel_rfl))
       refine ⟨_,S,?_⟩
       clear S
       (with_reducible apply W_hard1 (i:=9));(case hn=>rfl);(case hr=>decide +kernel)
       intro wz S
       (with_reducible apply hard_of);(case hi=>rfl)
       simp only [cons_append,nil_append] at S
       go_wp2_with first | ((with_reducible apply wps_append1 elem_Ev ecells eone (by decide) S 4 (j:=6) (e:=x));(case hx|hy|hi|hj|he=>rfl);(case hl=>simp only [List.length_nil];omega);clear S;intro az nz cz wz hnz S;simp only [set_cons_succ,set_cons_zero,nil_append] at S) | ((with_reducible refine tot_done ?ht ?_);(case ht=>kernel_rfl))
       refine ⟨_,S,?_⟩
       clear S
       (with_reducible apply W_hard1 (i:=10));(case hn=>rfl);(case hr=>decide +kernel)
       intro wz S
       (with_reducible apply hard_of);(case hi=>rfl)
       simp only [cons_append,nil_append] at S
       go_wp2_with first | ((with_reducible apply wps_updK_new keyedI Tryz.underlying130 S 5 rfl x.dst (.slice az nz cz) HK2.out);(case hx=>rfl);(case hy=>exact (wholeI _).symm);(case hz=>rfl);clear S;intro wz S;simp only [set_cons_succ,set_cons_zero] at S) | ((with_reducible refine tot_done ?ht ?_);(case ht=>kernel_rfl))
       refine ⟨_,S,?_⟩
       clear S
       (with_reducible apply W_done);(case hn=>rfl);(case hr=>decide +kernel)
       intro wz S
       repeat (first | simp only at S | simp only [pick] at S | simp only [nth] at S | simp only [set_cons_succ] at S | simp only [set_cons_zero] at S | simp only [setIfInBounds_toArray] at S | simp only [setAll] at S | simp only [cons_append] at S | simp only [nil_append] at S | simp only [List.append_nil] at S)
      all_goals
       have S2:=(S.pick [4,1,5,2,3] rfl)
       simp only [pick,nth] at S2
       have S3:=(S2.starSnoc rfl).pick [1,0,2,3] rfl
       simp only [pick,nth] at S3
       clear S S2
       have e1 : td.map ToldAt.own ++ [Mem.Own 58 Event.cells 7 (.slice az nz cz) [x]] = (td ++ [(⟨x.dst,.slice az nz cz,[x]⟩ : ToldAt)]).map ToldAt.own:=by rw [List.map_append];rfl
       have e2 : td.map ToldAt.kv ++ [(x.dst,.slice az nz cz)] = (td ++ [(⟨x.dst,.slice az nz cz,[x]⟩ : ToldAt)]).map ToldAt.kv:=by rw [List.map_append];rfl
       rw [e1,e2] at S3
       clear e1 e2
       go_wp2_with first | ((with_reducible apply wps_loada (T:=58) (k:=7) S 0);(case hx|hi=>rfl);(case hk=>exact nle rfl);(case hT=>decide +kernel))
       go_roundw
       case rel=>exact ⟨j + 1,_,by omega,by go_num,Lib.hid (HSET.out _),S3⟩
       case measure=>first | (simp [intOf];done) | (simp [intOf];omega)
  · obtain rfl : j = es.length:=by omega
    rw [List.take_length] at HT
    replace S:=S.nil 58 Event.cells 7
    go_wp2_with first | (go_at_call 47;(with_reducible refine Calls.mono (gnew_calls _) ?_);rintro rr wz ⟨g,rfl,T⟩;replace S:=S.join T rfl;clear T;simp only [cons_append,nil_append] at S) | ((with_reducible apply wps_makeMapK (P:=Tryz.prog) (K:=3) S intE);clear S;intro M wz S) | ((with_reducible apply wps_boxa (E:=135) S);(case hx=>rfl);clear S;intro bW wz S) | (go_at_call 17;refine Calls.mono (lps_calls _ _ _ _ _ _ (S.get (i:=7) rfl).choose_spec) ?_;rintro e wz ⟨rfl,hE⟩;replace S:=S.ext (Keep.of_below hE);clear hE)
    replace S:=S.starNil.pick [2,0,3,1,5,6,8,4] rfl
    simp only [pick,nth] at S
    go_loopw [65] (fun i wr=>WNRel M g bW Mt R vs hs c es td id workers every lazy w i wr) (fun i _=>c.lps.length - (intOf i).toNat)
    case atStart=>exact ⟨0,[],Nat.zero_le _,rfl,Lib.hid rfl,S⟩
    case round=>
     clear S
     obtain ⟨j,qs,hj,rfl,HQ,S⟩:=hrel
     by_cases hlt : j < c.lps.length
     · have hlt2 : (j : Int) < c.lps.length:=by omega
       obtain ⟨p,hp⟩ : ∃ p,c.lps[j]? = some p:=⟨_,List.getElem?_eq_getElem hlt⟩
       have HH:=Lib.hid fun w=>home_calls (j : Int) workers (by omega) (by omega) w
       by_cases hid : homeOf j workers = id
       · rw [hid] at HH
         have f6 : (id == id) = true:=beq_self_eq_true _
         have hfp : firstOf c j = p.first:=by unfold firstOf;rw [hp];rfl
         have HQ2 : Hid (∀ X : Nat,(qs ++ [(⟨j,X,newLp j every lazy p.first (toldOf es j)⟩ : LpAt)]).map LpAt.e = newPs c es id workers every lazy (j + 1)):=Lib.hid fun X=>by
          rw [List.map_append,HQ.out,newPs_succ,if_pos hid,hfp];rfl
         have HNK : Hid ((j : Int) ∉ (qs.map LpAt.kv).map (·.1)):=Lib.hid fun hm=>by
          have e1 : (qs.map LpAt.kv).map (·.1) = (qs.map LpAt.e).map (·.1):=by rw [List.map_map,List.map_map];rfl
          rw [e1,HQ.out] at hm
          obtain ⟨q,hq,e2⟩:=List.mem_map.1 hm
          have:=newPs_lt _ _ _ _ _ _ _ q hq
          rw [e2] at this;omega
         obtain ⟨tv,HLK,HTV⟩ : ∃ tv : Value,Hid ((lookK (td.map ToldAt.kv) (j : Int)).getD (.slice none 0 0) = tv) ∧ Hid (∀ (G : Nat → Prop) (w0 w : World) (L : List Asn) (i i2 : Nat),St G w0 w L → L[i]? = some (stars (td.map ToldAt.own)) → L[i2]? = some (Mem.Own 58 Event.cells 7 (.slice none 0 0) []) → ∃ F,(Sl true Event.cells 7 tv (toldOf es j)).at_ w F):=by
          by_cases hk : (j : Int) ∈ td.map (·.k)
          · obtain ⟨t,h1,h2⟩:=List.mem_map.1 hk
            obtain ⟨n,hn,e⟩:=List.mem_iff_getElem.1 h1
            have hn2 : td[n]? = some t:=by rw [List.getElem?_eq_getElem hn,e]
            have hmk : (td.map ToldAt.kv)[n]? = some ((j : Int),t.v):=by rw [List.getElem?_map,hn2];show some (t.k,t.v) = _;rw [h2]
            refine ⟨t.v,Lib.hid (by rw [lookK_at (by rw [toldKeys];exact HT.out.nodup) hmk];rfl),Lib.hid fun G w0 w L i i2 S hi hi2=>?_⟩
            obtain ⟨F,hF⟩:=S.starGet i hi n (A:=t.own) (by rw [List.getElem?_map,hn2];rfl)
            rw [← h2,← HT.out.at_ t h1]
            exact ⟨F,own_sl (sh:=true) ecells hF⟩
          · refine ⟨.slice none 0 0,Lib.hid (by rw [lookK_none (by rw [toldKeys];exact hk)];rfl),Lib.hid fun G w0 w L i i2 S hi hi2=>?_⟩
            obtain ⟨F,hF⟩:=S.get hi2
            rw [HT.out.none _ hk]
            exact ⟨F,own_sl (sh:=true) ecells hF⟩
         have HTL : Hid ((toldOf es j).length ≤ 65536):=Lib.hid (Nat.le_trans (List.length_filter_le _ _) hel2)
         have HTO : Hid (∀ x ∈ toldOf es j,x.dst = j ∧ 0 ≤ x.key.at_ ∧ x.key.at_ ≤ 1073741824):=Lib.hid fun x hx=>by
          have:=List.mem_filter.1 hx
          exact ⟨by simpa using this.2,HEO.out x this.1⟩
         have HP:=Lib.hid hp
         clear hid hp hfp
         go_wp2_with first | (go_at_call 48;have hcz:=fun w=>HH.out w;(with_reducible refine Calls.mono (hcz _) ?_);clear hcz;rintro e wz ⟨rfl,hE⟩;replace S:=S.ext (Keep.of_below hE);clear hE)
         (refine wp_region_w (soft:=[0,1,2,3,4,5,6,7,8,9,10,11]) S ?hm ?hB ?_);(case hm=>kernel_rfl);(case hB=>decide +kernel);clear S
         iterate 12
          (with_reducible apply softs_cons)
          (case hw=>
            (with_reducible apply soft_of);(case hi=>rfl)
            intro T wz S
            simp only [cons_append,nil_append] at S
            go_wp2_with first | (go_at_call 50;refine Calls.mono (first_at _ _ _ _ _ _ j p (S.get (i:=6) rfl).choose_spec HP.out) ?_;rintro e wz ⟨rfl,hE⟩;replace S:=S.ext (Keep.of_below hE);clear hE) | ((with_reducible apply wps_lookupK keyedI Tryz.underlying130 Tryz.zeroValue53 S 4 rfl (j : Int) (v:=tv));(case hx=>rfl);(case hy=>exact (wholeI _).symm);(case hv=>exact HLK.out)) | ((with_reducible refine tot_done ?ht ?_);(case ht=>kernel_rfl))
            exact ⟨rfl,S⟩)
          (case hs=>exact ⟨_,rfl,by kernel_rfl⟩)
         refine softs_nil ?_
         (with_reducible apply W_hard1 (i:=12));(case hn=>rfl);(case hr=>decide +kernel)
         intro wz S
         (with_reducible apply hard_of);(case hi=>rfl)
         simp only [cons_append,nil_append] at S
         go_wp2_with first | (go_at_call 49;obtain ⟨Fq,hFq⟩:=HTV.out _ _ _ _ 5 7 S rfl rfl;(with_reducible refine Calls.mono (lpnew_calls R (j : Int) every lazy p.first tv (toldOf es j) _ Fq hFq HTL.out (by omega) (by omega) HE5.out HTO.out) ?_);clear hFq;rintro rr wz ⟨X,rfl,T⟩;replace S:=S.join T rfl;clear T;simp only [cons_append,nil_append] at S) | ((with_reducible refine tot_done ?ht ?_);(case ht=>kernel_rfl))
         refine ⟨_,S.pick [1,2,3,4,5,6,7,8,0] rfl,?_⟩
         clear S
         (refine W_mid (f:=0) (soft:=[13,14,15,16,17]) rfl ?hB ?_);(case hB=>decide +kernel)
         iterate 5
          (with_reducible apply softs_cons)
          (case hw=>
            (with_reducible apply soft_of);(case hi=>rfl)
            intro T wz S
            simp only [cons_append,nil_append] at S
            go_wp2_with first | ((with_reducible refine tot_done ?ht ?_);(case ht=>kernel_rfl))
            exact ⟨rfl,S⟩)
          (case hs=>exact ⟨_,rfl,by kernel_rfl⟩)
         refine softs_nil ?_
         (with_reducible apply W_done);(case hn=>rfl);(case hr=>decide +kernel)
         intro wz S
         repeat (first | simp only at S | simp only [pick] at S | simp only [nth] at S | simp only [set_cons_succ] at S | simp only [set_cons_zero] at S | simp only [setIfInBounds_toArray] at S | simp only [setAll] at S | simp only [cons_append] at S | simp only [nil_append] at S | simp only [List.append_nil] at S)
         go_wp2_with first | ((with_reducible apply wps_load S 3);(case hx|hi|hu=>rfl);(case hT=>decide +kernel)) | ((with_reducible apply wps_updK_new keyedI Tryz.underlying133 S 0 rfl (j : Int) (.pointer (some ⟨X,0,none⟩)) HNK.out);(case hx=>rfl);(case hy=>exact (wholeI _).symm);(case hz=>rfl);clear S;intro wz S;simp only [set_cons_succ,set_cons_zero] at S)
         have S2:=S.pick [8,1,0,2,3,4,5,6,7] rfl
         simp only [pick,nth] at S2
         have S3:=(S2.starSnoc rfl).pick [1,0,2,3,4,5,6,7] rfl
         simp only [pick,nth] at S3
         clear S S2
         have e1 : (qs.map fun q=>lpA q.x R q.p) ++ [lpA X R (newLp j every lazy p.first (toldOf es j))] = (qs ++ [(⟨j,X,newLp j every lazy p.first (toldOf es j)⟩ : LpAt)]).map fun q=>lpA q.x R q.p:=by rw [List.map_append];rfl
         have e2 : qs.map LpAt.kv ++ [((j : Int),.pointer (some ⟨X,0,none⟩))] = (qs ++ [(⟨j,X,newLp j every lazy p.first (toldOf es j)⟩ : LpAt)]).map LpAt.kv:=by rw [List.map_append];rfl
         rw [e1,e2] at S3
         clear e1 e2
         go_roundw
         case rel=>exact ⟨j + 1,_,by omega,by go_num,Lib.hid (HQ2.out X),S3⟩
         case measure=>first | (simp [intOf];done) | (simp [intOf];omega)
       · have f6 : (homeOf j workers == id) = false:=by simpa using hid
         have HQ2 : Hid (qs.map LpAt.e = newPs c es id workers every lazy (j + 1)):=Lib.hid (by rw [HQ.out,newPs_succ,if_neg hid,List.append_nil])
         generalize homeOf j workers = hm at *
         clear hid hp
         go_wp2_with first | (go_at_call 48;have hcz:=fun w=>HH.out w;(with_reducible refine Calls.mono (hcz _) ?_);clear hcz;rintro e wz ⟨rfl,hE⟩;replace S:=S.ext (Keep.of_below hE);clear hE)
         go_roundw
         case rel=>exact ⟨j + 1,qs,by omega,by go_num,HQ2,S⟩
         case measure=>first | (simp [intOf];done) | (simp [intOf];omega)
     · obtain rfl : j = c.lps.length:=by omega
       have S2:=S.pick [0,1,2,3] rfl
       simp only [pick,nth] at S2
       have S3:=worker_close (k:=⟨0,[],1073741825,newPs c es id workers every lazy c.lps.length⟩) HQ.out S2
       clear S2
       go_wp2_with first | ((with_reducible apply wps_loada (T:=58) (k:=7) S 0);(case hx|hi=>rfl);(case hk=>exact nle rfl);(case hT=>decide +kernel))
       (try simp only [Exit.inBlock,Exit.then]);refine bodyPost_ret (results2 rfl (res_tmp rfl) (res_tmp rfl)) rfl ?_
       exact ⟨bW,rfl,S3⟩
end Go.Proofs.YtmjljoaakdocaaaGreatDoor
