import Derived.Test.YtcnfionnnpnplaaGreatDoorZ12
/- The walks of a machine's Sent and of vm.Run. -/
set_option maxHeartbeats 16000000
set_option maxRecDepth 100000
namespace Go.Proofs.YtcnfionnnpnplaaGreatDoor
open Go Go.RowKit Reg Mem
open List (set_cons_succ set_cons_zero setIfInBounds_toArray cons_append nil_append)
theorem ite_at {c : Prop} [Decidable c] {a b : Mach} (ha : c → 0 ≤ a.at_) (hb : ¬ c → 0 ≤ b.at_) : 0 ≤ (if c then a else b).at_:=by
 by_cases h : c
 · rw [if_pos h];exact ha h
 · rw [if_neg h];exact hb h
theorem ite_sent {c : Prop} [Decidable c] {a b : Mach} {n : Nat} (ha : a.sent.length ≤ n) (hb : b.sent.length ≤ n) : (if c then a else b).sent.length ≤ n:=by split <;> assumption
theorem doE_at {e : Event} {fan : Int} {m : Mach} {x : Instr} {many : Nat} (hx : mayE x many = 0) (h : 0 ≤ m.at_) : 0 ≤ (doE e fan m x).at_:=by
 have hop:=may_op hx
 unfold MayOp at hop
 unfold doE
 repeat' (refine ite_at (fun _=>?_) (fun _=>?_))
 all_goals first | exact h | (simp only;omega)
theorem doE_sent {e : Event} {fan : Int} {m : Mach} {x : Instr} : (doE e fan m x).sent.length ≤ m.sent.length + 1:=by
 unfold doE
 repeat' apply ite_sent
 all_goals first | exact Nat.le_succ _ | simp
theorem stepE_ok {p : List Instr} {e : Event} {fan : Int} {m n : Mach} (h : stepE p e fan m = some n) (h0 : 0 ≤ m.at_) : n.cs.length = m.cs.length ∧ 0 ≤ n.at_ ∧ n.sent.length ≤ m.sent.length + 1:=by
 unfold stepE at h
 split at h
 · cases h
 · split at h
   · cases h
   · rename_i x _
     split at h
     · cases h
     · rename_i hq
       cases h
       have hm : mayE x p.length = 0:=Classical.byContradiction fun h=>hq (.inr h)
       exact ⟨doE_len _ _ _ _,doE_at hm (by simp only;omega),doE_sent⟩
def runE (p : List Instr) (s : State) (e : Event) (fuel fan : Int) : Mach:=stepsE p e fan (min fuel 1024).toNat (startE s)
def Mach.state (m : Mach) : State:=⟨m.get 0,m.get 1,m.get 2,m.get 3⟩
theorem clone_Em {ad : Option Addr} {n c : Nat} {xs : List _} (w : World) (F : Nat → Prop) (h : (Sl true Emit.cells 4 (.slice ad n c) xs).at_ w F) (hn : xs.length ≤ 4294967296) :
 Calls Tryz.prog 127 #[.slice ad n c] w fun e w'=>∃ ad' c',e = .returned (.slice ad' xs.length c') ∧ (0 < xs.length → ∃ R,ad' = some ⟨R,0,none⟩) ∧ St (fun _=>False) w w' [Own 177 Emit.cells 4 (.slice ad' xs.length c') xs]:=by
 have S : St (fun _=>False) w w [Sl true Emit.cells 4 (.slice ad n c) xs]:=(St.init _ w).share rfl rfl h
 have hq : ∀ (w : World) (a : Option Addr) (n c n' c' : Nat),(binOp .eql 173 (.slice a n c) (.slice none n' c')).run Tryz.prog w = .ok (.bool a.isNone) w:=fun w a n c n' c'=>Lib.run_eql_slice_nil w _ _ a n c n' c' Tryz.underlying173
 cases ad with
 | none=>
   have hx : xs = []:=by
    obtain ⟨a,c',e,h1,h2,_⟩:=h.1
    simp only [Value.slice.injEq] at e
    obtain ⟨rfl,rfl,rfl⟩:=e
    exact List.eq_nil_of_length_eq_zero (by have:=h2 rfl;omega)
   subst hx
   go_enter Tryz.func127,Tryz.ntmps127
   go_wp2_with first | ((with_reducible refine tot_done ?ht ?_);(case ht=>kernel_rfl))
   go_ret
   exact ⟨_,_,rfl,fun h=>absurd h (by simp),((S.nil 177 Emit.cells 4).pick [0] rfl)⟩
 | some a0=>
   go_enter Tryz.func127,Tryz.ntmps127
   go_wp2_with first | ((with_reducible apply wps_build0 (T:=173) (E:=177) Emit.cells 4 S);(case hr=>intro w;kernel_rfl);clear S;intro bz wz S) | ((with_reducible apply wps_appends elem_Em emcells emone (by decide) S 0 (j:=1));(case hx|hy|hi|hj=>rfl);(case hl=>first | omega | (simp;omega));clear S;intro az nz cz wz hnz S;simp only [set_cons_zero] at S)
   go_ret
   obtain rfl : nz = xs.length:=by have:=hnz.out;simp at this;omega
   simp only [nil_append] at S
   refine ⟨_,_,rfl,fun h0=>?_,S.pick [0] rfl⟩
   obtain ⟨F,hF⟩:=S.get (i:=0) rfl
   rcases hF.1.2 with ⟨_,e⟩ | ⟨g,cap,cur,e,_⟩
   · omega
   · simp only [Value.slice.injEq] at e;exact ⟨g,e.1⟩
theorem sent_calls (R : Nat) (e : Event) (vp vs : Value) (fan : Int) (m : Mach) (w : World) (F F2 : Nat → Prop) (h : (Blk true R (machCells e vp m fan vs) 205).at_ w F) (h2 : (Sl true Emit.cells 4 vs m.sent).at_ w F2) (h8 : m.cs.length = 8) (hn : m.sent.length ≤ 65536) :
 Calls Tryz.prog 119 #[.pointer (some ⟨R,0,none⟩)] w fun r w'=>∃ ad c,r = .returned (.slice ad m.sent.length c) ∧ St (fun _=>False) w w' [Own 177 Emit.cells 4 (.slice ad m.sent.length c) m.sent]:=by
 have S : St (fun _=>False) w w [Blk true R (machCells e vp m fan vs) 205,Sl true Emit.cells 4 vs m.sent]:=((St.init _ w).share (A:=Sl true Emit.cells 4 vs m.sent) rfl rfl h2).share rfl rfl h
 obtain ⟨ad,cp,rfl,_⟩:=(S.sl 1 rfl).elim fun _ h=>h.form
 clear h h2
 have H8:=Lib.hid h8
 clear h8
 go_enter Tryz.func119,Tryz.ntmps119
 go_wp2_with first | ((with_reducible apply wps_load S 0 (hu:=mach_sent H8.out));(case hx|hi=>rfl);(case hT=>decide +kernel))
 refine Calls.mono (clone_Em _ _ (S.get (i:=1) rfl).choose_spec (by omega)) ?_
 rintro e wz ⟨ad2,c2,rfl,_,T⟩
 replace S:=S.join T rfl
 simp only [cons_append,nil_append] at S
 clear T
 go_wp2_with first | ((with_reducible apply wps_load S 0);(case hx|hi|hu=>rfl);(case hT=>decide +kernel))
 go_ret
 exact ⟨_,_,rfl,S.pick [0] rfl⟩
def VRunRel (Rm bo : Nat) (cso : Array Value) (p : List Instr) (s : State) (e : Event) (N : Nat) (fan : Int) (w : World) (steps : Value) (wr : World) : Prop:=
 ∃ (k : Nat) (m : Mach) (vs : Value) (vp2 : Value),k ≤ N ∧ steps = .int .i64 k ∧ Hid (stepsE p e fan (N - k) m = stepsE p e fan N (startE s)) ∧ Hid (m.cs.length = 8) ∧ Hid (0 ≤ m.at_) ∧ Hid (m.sent.length ≤ k) ∧
  St (fun _=>False) w wr [Blk false Rm (machCells e vp2 m fan vs) 205,Own 177 Emit.cells 4 vs m.sent,Sl true Instr.cells 5 vp2 p,Tab,Blk false bo cso 50]
def VRunPost (m : Mach) (w : World) (r : Ending) (w' : World) : Prop:=
 ∃ (k : Int) (ad : Option Addr) (c : Nat),r = .returned (.tuple #[.agg #[.int .i64 m.state.n0,.int .i64 m.state.n1,.int .i64 m.state.n2,.int .i64 m.state.n3],.slice ad m.sent.length c,.int .i64 k]) ∧ St (fun _=>False) w w' [Own 177 Emit.cells 4 (.slice ad m.sent.length c) m.sent]
theorem vrun_calls (ad : Option Addr) (cap : Nat) (p : List Instr) (s : State) (e : Event) (fuel fan : Int) (w : World) (F F2 : Nat → Prop) (h : (Sl true Instr.cells 5 (.slice ad p.length cap) p).at_ w F) (ht : Tab.at_ w F2) (hp : p.length ≤ 64) (hf : 0 ≤ fuel) :
 Calls Tryz.prog 97 #[.slice ad p.length cap,.agg #[.int .i64 s.n0,.int .i64 s.n1,.int .i64 s.n2,.int .i64 s.n3],.agg #[.int .i64 e.key.at_,.int .i64 e.key.src,.int .i64 e.key.sent,.int .i64 e.key.no,.int .i64 e.dst,.int .i64 e.kind,.int .i64 e.data],.int .i64 fuel,.int .i64 fan] w (VRunPost (runE p s e fuel fan) w):=by
 have S : St (fun _=>False) w w [Tab,Sl true Instr.cells 5 (.slice ad p.length cap) p]:=((St.init _ w).share (A:=Sl true Instr.cells 5 (.slice ad p.length cap) p) rfl rfl h).share rfl rfl ht
 clear h ht
 obtain ⟨N,hN,hN2⟩ : ∃ N : Nat,N ≤ 1024 ∧ min fuel 1024 = N:=⟨(min fuel 1024).toNat,by omega,by omega⟩
 have HR : Hid (runE p s e fuel fan = stepsE p e fan N (startE s)):=by show _ = _;unfold runE;congr 1;omega
 have HV:=Lib.hid fun w F h=>vnew_calls ad cap p s e fan w F h hp
 generalize runE p s e fuel fan = mE at *
 have HN2:=Lib.hid hN2
 clear hN2
 go_enter Tryz.func97,Tryz.ntmps97
 go_wp2_with first | ((with_reducible apply wps_boxa (E:=50) S);(case hx=>rfl);clear S;intro bs wz S) | ((with_reducible apply wps_boxa (E:=56) S);(case hx=>rfl);clear S;intro be wz S) | ((with_reducible apply wps_alloca (E:=50) S);(case hz=>exact Tryz.zeroValue50);clear S;intro bo wz S) | ((with_reducible apply wps_loada (T:=56) (k:=7) S 1);(case hx|hi=>rfl);(case hk=>exact nle rfl);(case hT=>decide +kernel)) | ((with_reducible apply wps_loada (T:=50) (k:=4) S 2);(case hx|hi=>rfl);(case hk=>exact nle rfl);(case hT=>decide +kernel))
 refine Calls.mono (HV.out _ _ (S.get (i:=4) rfl).choose_spec) ?_
 rintro r wz ⟨Rm,vp2,rfl,T⟩
 replace S:=(S.join T rfl).pick [0,1,2,6,3] rfl
 simp only [cons_append,nil_append,pick,nth] at S
 clear T
 replace S:=S.freeze true 2 incells rfl
 simp only [set_cons_succ,set_cons_zero] at S
 go_wp2_with first | ((with_reducible apply wps_loada (T:=56) (k:=7) S 0);(case hx|hi=>rfl);(case hk=>exact nle rfl);(case hT=>decide +kernel))
 go_loopw [14] (fun steps wr=>VRunRel Rm bo #[.int .i64 0,.int .i64 0,.int .i64 0,.int .i64 0] p s e N fan w steps wr) (fun i _=>N - (intOf i).toNat)
 case atStart=>exact ⟨0,startE s,nilS,vp2,Nat.zero_le _,rfl,rfl,rfl,Int.le_refl _,Nat.le_refl _,S⟩
 case round=>
  clear S
  obtain ⟨k,m,vs,vp3,hk,rfl,Hs,H8,Ha,Hl,S⟩:=hrel
  obtain ⟨q,hq⟩ : ∃ q : Nat,m.at_ = q:=⟨m.at_.toNat,by have:=Ha.out;omega⟩
  have hmm : m = ⟨m.cs,(q : Int),m.sent⟩:=by rw [← hq]
  by_cases hkN : k < N
  · have hk1 : (k : Int) < N:=by omega
    have hu : N - k = (N - (k + 1)) + 1:=by omega
    have hu2 : stepsE p e fan (N - k) m = match stepE p e fan m with | none=>m | some n=>stepsE p e fan (N - (k + 1)) n:=by rw [hu];rfl
    have HC:=Lib.hid fun (F : Nat → Prop) w S=>step_calls F w Rm e vp3 vs fan m.cs q m.sent p (by rw [← hmm];exact S) H8.out (by have:=Hl.out;omega) hp
    rw [← hmm] at HC
    cases ho : stepE p e fan m with
    | none=>
      rw [ho] at hu2 HC
      have HE : Hid (mE = m):=by show _ = _;rw [HR.out,← Hs.out,hu2]
      clear hu2 hq ho hmm
      have e1:=HE.out.symm
      subst e1
      clear HE HR Hs
      by_cases hfu : fuel ≤ 1024
      · obtain rfl : fuel = N:=by have:=HN2.out;omega
        clear hfu
        go_wp2_with first | (go_at_call 118;obtain ⟨Fz,SF,hBk⟩:=S.lend [0,1] [2,3] [2,3,4] rfl rfl rfl;simp only [cons_append,nil_append,pick,nth] at SF;refine Calls.mono (HC.out Fz _ SF) ?_;rintro r wz ⟨vs',rfl,T⟩;replace S:=hBk _ _ T rfl;clear hBk SF T;simp only [cons_append,nil_append,pick,nth,Option.getD_none] at S) | ((with_reducible apply wps_copyb (elem:=3) S 0 rfl 1 rfl (us:=[.int .i64 (m.get 0),.int .i64 (m.get 1),.int .i64 (m.get 2),.int .i64 (m.get 3)]));(case hx|hy=>rfl);(case hu|hsz=>kernel_rfl);(case hn=>rfl);(case hsrc=>intro k v hk;rcases k with _ | _ | _ | _ | k <;> first | (cases hk;exact mach_cell H8.out (by decide)) | simp at hk);(case hfit=>exact nle rfl);(case h1=>rfl);clear S;intro wz S) | ((with_reducible refine tot_done ?ht ?_);(case ht=>kernel_rfl)) | ((with_reducible apply wps_text S);(case hm=>kernel_rfl);(case hB=>decide +kernel);clear S;intro wz S) | ((with_reducible apply wps_alloca (E:=50) S);(case hz=>exact Tryz.zeroValue50);clear S;intro bz wz S)
        simp only [set_cons_zero] at S
        (refine wp_region_wt (soft:=[0,1,3]) (L:=[_,_,_,_,_]) (T:=[_]) S ?hm ?hB ?_);(case hm=>kernel_rfl);(case hB=>decide +kernel);clear S
        iterate 3
         (with_reducible apply softs_cons)
         (case hw=>
           (with_reducible apply soft_of);(case hi=>rfl)
           intro T wz S
           simp only [cons_append,nil_append] at S
           go_wp2_with first | ((with_reducible refine tot_done ?ht ?_);(case ht=>kernel_rfl)) | ((with_reducible apply wps_loada (T:=50) (k:=4) S 0);(case hx|hi=>rfl);(case hk=>exact nle rfl);(case hT=>decide +kernel))
           exact ⟨rfl,S⟩)
         (case hs=>exact ⟨_,rfl,by kernel_rfl⟩)
        refine softs_nil ?_
        repeat'
         (first
           | ((with_reducible apply W_hard1 (i:=2));(case hn=>rfl);(case hr=>decide +kernel)) | ((with_reducible apply W_hard1 (i:=4));(case hn=>rfl);(case hr=>decide +kernel)) | ((with_reducible apply W_hard1 (i:=5));(case hn=>rfl);(case hr=>decide +kernel)) | ((with_reducible apply W_hard1 (i:=6));(case hn=>rfl);(case hr=>decide +kernel)) | ((with_reducible apply W_hard2 (i:=5) (i':=6));(case hn=>rfl);(case hr=>decide +kernel)))
         all_goals
          intro wz S
          (with_reducible apply hard_of);(case hi=>rfl)
          simp only [cons_append,nil_append] at S
          try simp only [pick,nth] at S
          go_wp2_with first | (go_at_call 119;refine Calls.mono (sent_calls Rm e _ _ fan m _ _ _ (S.get (i:=1) rfl).choose_spec (own_sl (sh:=true) emcells (S.get (i:=2) rfl).choose_spec) H8.out (by have:=Hl.out;omega)) ?_;rintro r wz ⟨ad3,c3,rfl,T⟩;replace S:=S.join T rfl;clear T;simp only [cons_append,nil_append] at S) | ((with_reducible apply wps_storea (T:=50) S 5 (vs:=[.int .i64 (m.get 0),.int .i64 (m.get 1),.int .i64 (m.get 2),.int .i64 (m.get 3)]) (m:=4));(case hx|hy|hi|hm|h1=>rfl);(case hn=>exact nle rfl);(case hT=>decide +kernel);clear S;intro wz S;simp only [set_cons_zero,set_cons_succ,setAll,setIfInBounds_toArray] at S) | ((with_reducible refine tot_done ?ht ?_);(case ht=>kernel_rfl))
          first
           | refine ⟨_,S.pick [1,2,3,4,5,6,7,8,9,0] rfl,?_⟩
           | refine ⟨_,S.pick [1,2,3,4,5,6,7,8,0] rfl,?_⟩
           | refine ⟨_,S.pick [1,2,3,4,5,6,7,0] rfl,?_⟩
           | refine ⟨_,S.pick [1,2,3,4,5,6,0] rfl,?_⟩
           | refine ⟨_,S.pick [1,2,3,4,5,0] rfl,?_⟩
           | refine ⟨_,S,?_⟩
        all_goals
         (with_reducible apply W_done);(case hn=>rfl);(case hr=>decide +kernel)
         clear S
         intro wz S
         simp only [cons_append,nil_append] at S
         try simp only [pick,nth] at S
         go_wp2_with first | ((with_reducible apply wps_loada (T:=56) (k:=7) S 0);(case hx|hi=>rfl);(case hk=>exact nle rfl);(case hT=>decide +kernel))
         (try simp only [Exit.inBlock,Exit.then]);refine bodyPost_ret (results3 rfl (S.resA 5 rfl rfl (by kernel_rfl)) (res_tmp rfl) (res_tmp rfl)) rfl ?_
         exact ⟨_,_,_,rfl,S.pick [6] rfl⟩
      · obtain rfl : N = 1024:=by have:=HN2.out;omega
        have hfu2 : 1024 < fuel:=by omega
        clear hfu
        go_wp2_with first | (go_at_call 118;obtain ⟨Fz,SF,hBk⟩:=S.lend [0,1] [2,3] [2,3,4] rfl rfl rfl;simp only [cons_append,nil_append,pick,nth] at SF;refine Calls.mono (HC.out Fz _ SF) ?_;rintro r wz ⟨vs',rfl,T⟩;replace S:=hBk _ _ T rfl;clear hBk SF T;simp only [cons_append,nil_append,pick,nth,Option.getD_none] at S) | ((with_reducible apply wps_copyb (elem:=3) S 0 rfl 1 rfl (us:=[.int .i64 (m.get 0),.int .i64 (m.get 1),.int .i64 (m.get 2),.int .i64 (m.get 3)]));(case hx|hy=>rfl);(case hu|hsz=>kernel_rfl);(case hn=>rfl);(case hsrc=>intro k v hk;rcases k with _ | _ | _ | _ | k <;> first | (cases hk;exact mach_cell H8.out (by decide)) | simp at hk);(case hfit=>exact nle rfl);(case h1=>rfl);clear S;intro wz S) | ((with_reducible refine tot_done ?ht ?_);(case ht=>kernel_rfl)) | ((with_reducible apply wps_text S);(case hm=>kernel_rfl);(case hB=>decide +kernel);clear S;intro wz S) | ((with_reducible apply wps_alloca (E:=50) S);(case hz=>exact Tryz.zeroValue50);clear S;intro bz wz S)
        simp only [set_cons_zero] at S
        (refine wp_region_wt (soft:=[0,1,3]) (L:=[_,_,_,_,_]) (T:=[_]) S ?hm ?hB ?_);(case hm=>kernel_rfl);(case hB=>decide +kernel);clear S
        iterate 3
         (with_reducible apply softs_cons)
         (case hw=>
           (with_reducible apply soft_of);(case hi=>rfl)
           intro T wz S
           simp only [cons_append,nil_append] at S
           go_wp2_with first | ((with_reducible refine tot_done ?ht ?_);(case ht=>kernel_rfl)) | ((with_reducible apply wps_loada (T:=50) (k:=4) S 0);(case hx|hi=>rfl);(case hk=>exact nle rfl);(case hT=>decide +kernel))
           exact ⟨rfl,S⟩)
         (case hs=>exact ⟨_,rfl,by kernel_rfl⟩)
        refine softs_nil ?_
        repeat'
         (first
           | ((with_reducible apply W_hard1 (i:=2));(case hn=>rfl);(case hr=>decide +kernel)) | ((with_reducible apply W_hard1 (i:=4));(case hn=>rfl);(case hr=>decide +kernel)) | ((with_reducible apply W_hard1 (i:=5));(case hn=>rfl);(case hr=>decide +kernel)) | ((with_reducible apply W_hard1 (i:=6));(case hn=>rfl);(case hr=>decide +kernel)) | ((with_reducible apply W_hard2 (i:=5) (i':=6));(case hn=>rfl);(case hr=>decide +kernel)))
         all_goals
          intro wz S
          (with_reducible apply hard_of);(case hi=>rfl)
          simp only [cons_append,nil_append] at S
          try simp only [pick,nth] at S
          go_wp2_with first | (go_at_call 119;refine Calls.mono (sent_calls Rm e _ _ fan m _ _ _ (S.get (i:=1) rfl).choose_spec (own_sl (sh:=true) emcells (S.get (i:=2) rfl).choose_spec) H8.out (by have:=Hl.out;omega)) ?_;rintro r wz ⟨ad3,c3,rfl,T⟩;replace S:=S.join T rfl;clear T;simp only [cons_append,nil_append] at S) | ((with_reducible apply wps_storea (T:=50) S 5 (vs:=[.int .i64 (m.get 0),.int .i64 (m.get 1),.int .i64 (m.get 2),.int .i64 (m.get 3)]) (m:=4));(case hx|hy|hi|hm|h1=>rfl);(case hn=>exact nle rfl);(case hT=>decide +kernel);clear S;intro wz S;simp only [set_cons_zero,set_cons_succ,setAll,setIfInBounds_toArray] at S) | ((with_reducible refine tot_done ?ht ?_);(case ht=>kernel_rfl))
          first
           | refine ⟨_,S.pick [1,2,3,4,5,6,7,8,9,0] rfl,?_⟩
           | refine ⟨_,S.pick [1,2,3,4,5,6,7,8,0] rfl,?_⟩
           | refine ⟨_,S.pick [1,2,3,4,5,6,7,0] rfl,?_⟩
           | refine ⟨_,S.pick [1,2,3,4,5,6,0] rfl,?_⟩
           | refine ⟨_,S.pick [1,2,3,4,5,0] rfl,?_⟩
           | refine ⟨_,S,?_⟩
        all_goals
         (with_reducible apply W_done);(case hn=>rfl);(case hr=>decide +kernel)
         clear S
         intro wz S
         simp only [cons_append,nil_append] at S
         try simp only [pick,nth] at S
         go_wp2_with first | ((with_reducible apply wps_loada (T:=56) (k:=7) S 0);(case hx|hi=>rfl);(case hk=>exact nle rfl);(case hT=>decide +kernel))
         (try simp only [Exit.inBlock,Exit.then]);refine bodyPost_ret (results3 rfl (S.resA 5 rfl rfl (by kernel_rfl)) (res_tmp rfl) (res_tmp rfl)) rfl ?_
         exact ⟨_,_,_,rfl,S.pick [6] rfl⟩
    | some m2=>
      rw [ho] at hu2 HC
      obtain ⟨g1,g2,g3⟩:=stepE_ok ho Ha.out
      have HT : Hid (stepsE p e fan (N - (k + 1)) m2 = stepsE p e fan (N - k) m):=by show _ = _;rw [hu2]
      have H82 : Hid (m2.cs.length = 8):=g1.trans H8.out
      have Ha2 : Hid (0 ≤ m2.at_):=g2
      have Hl2 : Hid (m2.sent.length ≤ k + 1):=by show _ ≤ _;have:=Hl.out;omega
      clear hu2 hq ho hmm g1 g2 g3
      by_cases hfu : fuel ≤ 1024
      · obtain rfl : fuel = N:=by have:=HN2.out;omega
        clear hfu
        go_wp2_with first | (go_at_call 118;obtain ⟨Fz,SF,hBk⟩:=S.lend [0,1] [2,3] [2,3,4] rfl rfl rfl;simp only [cons_append,nil_append,pick,nth] at SF;refine Calls.mono (HC.out Fz _ SF) ?_;rintro r wz ⟨vs',rfl,T⟩;replace S:=hBk _ _ T rfl;clear hBk SF T;simp only [cons_append,nil_append,pick,nth,Option.getD_some] at S)
        go_roundw
        case rel=>exact ⟨k + 1,m2,vs',vp3,by omega,by go_num,HT.out.trans Hs.out,H82.out,Ha2.out,Hl2.out,S⟩
        case measure=>first | (simp [intOf];done) | (simp [intOf];omega)
      · obtain rfl : N = 1024:=by have:=HN2.out;omega
        have hfu2 : 1024 < fuel:=by omega
        clear hfu
        go_wp2_with first | (go_at_call 118;obtain ⟨Fz,SF,hBk⟩:=S.lend [0,1] [2,3] [2,3,4] rfl rfl rfl;simp only [cons_append,nil_append,pick,nth] at SF;refine Calls.mono (HC.out Fz _ SF) ?_;rintro r wz ⟨vs',rfl,T⟩;replace S:=hBk _ _ T rfl;clear hBk SF T;simp only [cons_append,nil_append,pick,nth,Option.getD_some] at S)
        go_roundw
        case rel=>exact ⟨k + 1,m2,vs',vp3,by omega,by go_num,HT.out.trans Hs.out,H82.out,Ha2.out,Hl2.out,S⟩
        case measure=>first | (simp [intOf];done) | (simp [intOf];omega)
  · obtain rfl : k = N:=by omega
    have HE : Hid (mE = m):=by show _ = _;rw [HR.out,← Hs.out,Nat.sub_self];rfl
    clear hq hmm
    have e1:=HE.out.symm
    subst e1
    clear HE HR Hs
    by_cases hfu : fuel ≤ 1024
    · obtain rfl : fuel = k:=by have:=HN2.out;omega
      clear hfu
      go_wp2_with first | ((with_reducible apply wps_copyb (elem:=3) S 0 rfl 1 rfl (us:=[.int .i64 (m.get 0),.int .i64 (m.get 1),.int .i64 (m.get 2),.int .i64 (m.get 3)]));(case hx|hy=>rfl);(case hu|hsz=>kernel_rfl);(case hn=>rfl);(case hsrc=>intro k v hk;rcases k with _ | _ | _ | _ | k <;> first | (cases hk;exact mach_cell H8.out (by decide)) | simp at hk);(case hfit=>exact nle rfl);(case h1=>rfl);clear S;intro wz S) | ((with_reducible refine tot_done ?ht ?_);(case ht=>kernel_rfl)) | ((with_reducible apply wps_text S);(case hm=>kernel_rfl);(case hB=>decide +kernel);clear S;intro wz S) | ((with_reducible apply wps_alloca (E:=50) S);(case hz=>exact Tryz.zeroValue50);clear S;intro bz wz S)
      simp only [set_cons_zero] at S
      (refine wp_region_wt (soft:=[0,1,3]) (L:=[_,_,_,_,_]) (T:=[_]) S ?hm ?hB ?_);(case hm=>kernel_rfl);(case hB=>decide +kernel);clear S
      iterate 3
       (with_reducible apply softs_cons)
       (case hw=>
         (with_reducible apply soft_of);(case hi=>rfl)
         intro T wz S
         simp only [cons_append,nil_append] at S
         go_wp2_with first | ((with_reducible refine tot_done ?ht ?_);(case ht=>kernel_rfl)) | ((with_reducible apply wps_loada (T:=50) (k:=4) S 0);(case hx|hi=>rfl);(case hk=>exact nle rfl);(case hT=>decide +kernel))
         exact ⟨rfl,S⟩)
       (case hs=>exact ⟨_,rfl,by kernel_rfl⟩)
      refine softs_nil ?_
      repeat'
       (first
         | ((with_reducible apply W_hard1 (i:=2));(case hn=>rfl);(case hr=>decide +kernel)) | ((with_reducible apply W_hard1 (i:=4));(case hn=>rfl);(case hr=>decide +kernel)) | ((with_reducible apply W_hard1 (i:=5));(case hn=>rfl);(case hr=>decide +kernel)) | ((with_reducible apply W_hard1 (i:=6));(case hn=>rfl);(case hr=>decide +kernel)) | ((with_reducible apply W_hard2 (i:=5) (i':=6));(case hn=>rfl);(case hr=>decide +kernel)))
       all_goals
        intro wz S
        (with_reducible apply hard_of);(case hi=>rfl)
        simp only [cons_append,nil_append] at S
        try simp only [pick,nth] at S
        go_wp2_with first | (go_at_call 119;refine Calls.mono (sent_calls Rm e _ _ fan m _ _ _ (S.get (i:=1) rfl).choose_spec (own_sl (sh:=true) emcells (S.get (i:=2) rfl).choose_spec) H8.out (by have:=Hl.out;omega)) ?_;rintro r wz ⟨ad3,c3,rfl,T⟩;replace S:=S.join T rfl;clear T;simp only [cons_append,nil_append] at S) | ((with_reducible apply wps_storea (T:=50) S 5 (vs:=[.int .i64 (m.get 0),.int .i64 (m.get 1),.int .i64 (m.get 2),.int .i64 (m.get 3)]) (m:=4));(case hx|hy|hi|hm|h1=>rfl);(case hn=>exact nle rfl);(case hT=>decide +kernel);clear S;intro wz S;simp only [set_cons_zero,set_cons_succ,setAll,setIfInBounds_toArray] at S) | ((with_reducible refine tot_done ?ht ?_);(case ht=>kernel_rfl))
        first
         | refine ⟨_,S.pick [1,2,3,4,5,6,7,8,9,0] rfl,?_⟩
         | refine ⟨_,S.pick [1,2,3,4,5,6,7,8,0] rfl,?_⟩
         | refine ⟨_,S.pick [1,2,3,4,5,6,7,0] rfl,?_⟩
         | refine ⟨_,S.pick [1,2,3,4,5,6,0] rfl,?_⟩
         | refine ⟨_,S.pick [1,2,3,4,5,0] rfl,?_⟩
         | refine ⟨_,S,?_⟩
      all_goals
       (with_reducible apply W_done);(case hn=>rfl);(case hr=>decide +kernel)
       clear S
       intro wz S
       simp only [cons_append,nil_append] at S
       try simp only [pick,nth] at S
       go_wp2_with first | ((with_reducible apply wps_loada (T:=56) (k:=7) S 0);(case hx|hi=>rfl);(case hk=>exact nle rfl);(case hT=>decide +kernel))
       (try simp only [Exit.inBlock,Exit.then]);refine bodyPost_ret (results3 rfl (S.resA 5 rfl rfl (by kernel_rfl)) (res_tmp rfl) (res_tmp rfl)) rfl ?_
       exact ⟨_,_,_,rfl,S.pick [6] rfl⟩
    · obtain rfl : k = 1024:=by have:=HN2.out;omega
      have hfu2 : 1024 < fuel:=by omega
      clear hfu
      go_wp2_with first | ((with_reducible apply wps_copyb (elem:=3) S 0 rfl 1 rfl (us:=[.int .i64 (m.get 0),.int .i64 (m.get 1),.int .i64 (m.get 2),.int .i64 (m.get 3)]));(case hx|hy=>rfl);(case hu|hsz=>kernel_rfl);(case hn=>rfl);(case hsrc=>intro k v hk;rcases k with _ | _ | _ | _ | k <;> first | (cases hk;exact mach_cell H8.out (by decide)) | simp at hk);(case hfit=>exact nle rfl);(case h1=>rfl);clear S;intro wz S) | ((with_reducible refine tot_done ?ht ?_);(case ht=>kernel_rfl)) | ((with_reducible apply wps_text S);(case hm=>kernel_rfl);(case hB=>decide +kernel);clear S;intro wz S) | ((with_reducible apply wps_alloca (E:=50) S);(case hz=>exact Tryz.zeroValue50);clear S;intro bz wz S)
      simp only [set_cons_zero] at S
      (refine wp_region_wt (soft:=[0,1,3]) (L:=[_,_,_,_,_]) (T:=[_]) S ?hm ?hB ?_);(case hm=>kernel_rfl);(case hB=>decide +kernel);clear S
      iterate 3
       (with_reducible apply softs_cons)
       (case hw=>
         (with_reducible apply soft_of);(case hi=>rfl)
         intro T wz S
         simp only [cons_append,nil_append] at S
         go_wp2_with first | ((with_reducible refine tot_done ?ht ?_);(case ht=>kernel_rfl)) | ((with_reducible apply wps_loada (T:=50) (k:=4) S 0);(case hx|hi=>rfl);(case hk=>exact nle rfl);(case hT=>decide +kernel))
         exact ⟨rfl,S⟩)
       (case hs=>exact ⟨_,rfl,by kernel_rfl⟩)
      refine softs_nil ?_
      repeat'
       (first
         | ((with_reducible apply W_hard1 (i:=2));(case hn=>rfl);(case hr=>decide +kernel)) | ((with_reducible apply W_hard1 (i:=4));(case hn=>rfl);(case hr=>decide +kernel)) | ((with_reducible apply W_hard1 (i:=5));(case hn=>rfl);(case hr=>decide +kernel)) | ((with_reducible apply W_hard1 (i:=6));(case hn=>rfl);(case hr=>decide +kernel)) | ((with_reducible apply W_hard2 (i:=5) (i':=6));(case hn=>rfl);(case hr=>decide +kernel)))
       all_goals
        intro wz S
        (with_reducible apply hard_of);(case hi=>rfl)
        simp only [cons_append,nil_append] at S
        try simp only [pick,nth] at S
        go_wp2_with first | (go_at_call 119;refine Calls.mono (sent_calls Rm e _ _ fan m _ _ _ (S.get (i:=1) rfl).choose_spec (own_sl (sh:=true) emcells (S.get (i:=2) rfl).choose_spec) H8.out (by have:=Hl.out;omega)) ?_;rintro r wz ⟨ad3,c3,rfl,T⟩;replace S:=S.join T rfl;clear T;simp only [cons_append,nil_append] at S) | ((with_reducible apply wps_storea (T:=50) S 5 (vs:=[.int .i64 (m.get 0),.int .i64 (m.get 1),.int .i64 (m.get 2),.int .i64 (m.get 3)]) (m:=4));(case hx|hy|hi|hm|h1=>rfl);(case hn=>exact nle rfl);(case hT=>decide +kernel);clear S;intro wz S;simp only [set_cons_zero,set_cons_succ,setAll,setIfInBounds_toArray] at S) | ((with_reducible refine tot_done ?ht ?_);(case ht=>kernel_rfl))
        first
         | refine ⟨_,S.pick [1,2,3,4,5,6,7,8,9,0] rfl,?_⟩
         | refine ⟨_,S.pick [1,2,3,4,5,6,7,8,0] rfl,?_⟩
         | refine ⟨_,S.pick [1,2,3,4,5,6,7,0] rfl,?_⟩
         | refine ⟨_,S.pick [1,2,3,4,5,6,0] rfl,?_⟩
         | refine ⟨_,S.pick [1,2,3,4,5,0] rfl,?_⟩
         | refine ⟨_,S,?_⟩
      all_goals
       (with_reducible apply W_done);(case hn=>rfl);(case hr=>decide +kernel)
       clear S
       intro wz S
       simp only [cons_append,nil_append] at S
       try simp only [pick,nth] at S
       go_wp2_with first | ((with_reducible apply wps_loada (T:=56) (k:=7) S 0);(case hx|hi=>rfl);(case hk=>exact nle rfl);(case hT=>decide +kernel))
       (try simp only [Exit.inBlock,Exit.then]);refine bodyPost_ret (results3 rfl (S.resA 5 rfl rfl (by kernel_rfl)) (res_tmp rfl) (res_tmp rfl)) rfl ?_
       exact ⟨_,_,_,rfl,S.pick [6] rfl⟩
end Go.Proofs.YtcnfionnnpnplaaGreatDoor
