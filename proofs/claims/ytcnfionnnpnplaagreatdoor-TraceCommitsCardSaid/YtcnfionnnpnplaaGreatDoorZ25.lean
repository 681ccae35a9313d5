import Derived.Test.YtcnfionnnpnplaaGreatDoorZ24
import Derived.Test.YtcnfionnnpnplaaGreatDoorZ17
import Derived.Test.YtcnfionnnpnplaaGreatDoorZ14
import Derived.Lib.MinMax
/- Plain: a simulation, batch by batch. No program in sight. -/
set_option maxHeartbeats 16000000
set_option maxRecDepth 100000
namespace Go.Proofs.YtcnfionnnpnplaaGreatDoor
open Go Go.RowKit Mem
open List (set_cons_succ set_cons_zero setIfInBounds_toArray cons_append nil_append)
structure SimE where
 ws : List (List Row)
 ss : List State
 many : Int
 peak : Int
def rowOf (x : Event) : Row:=⟨x.key,x⟩
def putOne (p : List (List Row) × Int) (x : Event) : List (List Row) × Int:=
 match p.1[x.dst.toNat]? with
 | some s=>(p.1.set x.dst.toNat (pushed s (rowOf x)),if x.key ∈ s.map (·.key) then p.2 else p.2 + 1)
 | none=>p
def putE (s : SimE) (l : List Event) : SimE:=
 ⟨(l.foldl putOne (s.ws,s.many)).1,s.ss,(l.foldl putOne (s.ws,s.many)).2,max s.peak (l.foldl putOne (s.ws,s.many)).2⟩
def emptyE (c : Cfg) : SimE:=⟨List.replicate c.lps.length [],c.lps.map (·.first),0,0⟩
def newE (c : Cfg) : SimE:=putE (emptyE c) (sortE (startsFrom 0 c.starts))
def better (i : Nat) (s : List Row) (b : Option (Int × Nat)) : Option (Int × Nat):=
 match s,b with
 | [],b=>b
 | r :: _,none=>some (r.key.at_,i)
 | r :: _,some (a,j)=>if r.key.at_ < a then some (r.key.at_,i) else some (a,j)
def nextFrom : Nat → List (List Row) → Option (Int × Nat) → Option (Int × Nat)
 | _,[],b=>b
 | i,s :: l,b=>nextFrom (i + 1) l (better i s b)
def nextE (ws : List (List Row)) : Option (Int × Nat):=nextFrom 0 ws none
def hAt (s : SimE) (lp : Nat) : List Row:=(s.ws[lp]?).getD []
def toldE (s : SimE) (a : Int) (lp : Nat) : List Event:=((hAt s lp).takeWhile (same_at a)).map (·.v)
def stOf (s : SimE) (lp : Nat) : State:=(s.ss[lp]?).getD ⟨0,0,0,0⟩
def simStep (c : Cfg) (s : SimE) : Option (BatE × SimE):=
 match nextE s.ws with
 | none=>none
 | some (a,lp)=>
   some (⟨a,lp,toldE s a lp,(batchC c lp (stOf s lp) (toldE s a lp)).1,(batchC c lp (stOf s lp) (toldE s a lp)).2⟩,
    putE ⟨s.ws.set lp ((hAt s lp).dropWhile (same_at a)),s.ss.set lp (batchC c lp (stOf s lp) (toldE s a lp)).1,s.many - (toldE s a lp).length,s.peak⟩ (batchC c lp (stOf s lp) (toldE s a lp)).2)
def HeapOk (c : Cfg) (i : Nat) (h : List Row) : Prop:=HSorted h ∧ ∀ r ∈ h,r.v.key = r.key ∧ r.v.dst = i ∧ 0 ≤ r.key.at_ ∧ r.key.at_ ≤ c.fin
structure SimOk (c : Cfg) (s : SimE) : Prop where
 len : s.ws.length = c.lps.length
 lens : s.ss.length = c.lps.length
 each : ∀ (i : Nat) (h : List Row),s.ws[i]? = some h → HeapOk c i h
theorem better_le (i : Nat) (s : List Row) (b : Option (Int × Nat)) : ∀ a j,better i s b = some (a,j) → (b = some (a,j)) ∨ (j = i ∧ ∃ r t,s = r :: t ∧ r.key.at_ = a):=by
 intro a j h
 unfold better at h
 split at h
 · exact .inl h
 · simp only [Option.some.injEq,Prod.mk.injEq] at h
   exact .inr ⟨h.2.symm,_,_,rfl,h.1⟩
 · split at h
   · simp only [Option.some.injEq,Prod.mk.injEq] at h
     exact .inr ⟨h.2.symm,_,_,rfl,h.1⟩
   · exact .inl h
theorem nextFrom_is : ∀ (l : List (List Row)) (i : Nat) (b : Option (Int × Nat)) (a : Int) (j : Nat),nextFrom i l b = some (a,j) → (b = some (a,j)) ∨ (i ≤ j ∧ ∃ r t,l[j - i]? = some (r :: t) ∧ r.key.at_ = a)
 | [],i,b,a,j,h=>.inl h
 | s :: l,i,b,a,j,h=>by
   rcases nextFrom_is l (i + 1) (better i s b) a j h with h | ⟨h1,r,t,h2,h3⟩
   · rcases better_le i s b a j h with h5 | ⟨h4,r,t,h6,h5⟩
     · exact .inl h5
     · exact .inr ⟨by omega,r,t,by subst h4;subst h6;simp,h5⟩
   · refine .inr ⟨by omega,r,t,?_,h3⟩
     rw [show j - i = (j - (i + 1)) + 1 by omega,List.getElem?_cons_succ]
     exact h2
theorem next_is {ws : List (List Row)} {a : Int} {lp : Nat} (h : nextE ws = some (a,lp)) : ∃ r t,ws[lp]? = some (r :: t) ∧ r.key.at_ = a:=by
 rcases nextFrom_is ws 0 none a lp h with h | ⟨_,r,t,h2,h3⟩
 · cases h
 · exact ⟨r,t,h2,h3⟩
theorem putOne_len (p : List (List Row) × Int) (x : Event) : (putOne p x).1.length = p.1.length:=by
 unfold putOne
 split
 · simp
 · rfl
theorem puts_len : ∀ (l : List Event) (p : List (List Row) × Int),(l.foldl putOne p).1.length = p.1.length
 | [],_=>rfl
 | x :: l,p=>(puts_len l (putOne p x)).trans (putOne_len p x)
theorem pushed_mem {s : List Row} {r x : Row} (h : x ∈ pushed s r) : x = r ∨ x ∈ s:=by
 unfold pushed at h
 split at h
 · exact .inr h
 · exact List.mem_cons.1 ((ins_perm r s).mem_iff.1 h)
theorem pushed_sorted {s : List Row} (h : HSorted s) (r : Row) : HSorted (pushed s r):=by
 unfold pushed
 split
 · exact h
 · exact ins_sorted _ _ h ‹_›
theorem pushed_length (s : List Row) (r : Row) : (pushed s r).length ≤ s.length + 1:=by
 unfold pushed
 split
 · omega
 · rw [ins_length];omega
def EvOk (c : Cfg) (x : Event) : Prop:=0 ≤ x.dst ∧ x.dst < c.lps.length ∧ 0 ≤ x.key.at_ ∧ x.key.at_ ≤ c.fin
theorem putOne_ok {c : Cfg} {p : List (List Row) × Int} (h : ∀ (i : Nat) (h : List Row),p.1[i]? = some h → HeapOk c i h) {x : Event} (hx : EvOk c x) : ∀ (i : Nat) (h : List Row),(putOne p x).1[i]? = some h → HeapOk c i h:=by
 intro i h0 hi
 unfold putOne at hi
 split at hi
 · rename_i s hs
   simp only at hi
   rw [List.getElem?_set] at hi
   split at hi
   · rename_i e
     subst e
     split at hi
     · simp only [Option.some.injEq] at hi
       subst hi
       have hk:=h _ s hs
       refine ⟨pushed_sorted hk.1 _,fun r hr=>?_⟩
       rcases pushed_mem hr with rfl | hr
       · have:=hx
         unfold EvOk at this
         exact ⟨rfl,by show x.dst = _;omega,this.2.2.1,this.2.2.2⟩
       · exact hk.2 r hr
     · cases hi
   · exact h i h0 hi
 · exact h i h0 hi
theorem puts_ok {c : Cfg} : ∀ (l : List Event) {p : List (List Row) × Int},(∀ (i : Nat) (h : List Row),p.1[i]? = some h → HeapOk c i h) → (∀ x ∈ l,EvOk c x) → ∀ (i : Nat) (h : List Row),(l.foldl putOne p).1[i]? = some h → HeapOk c i h
 | [],_,h,_=>h
 | x :: l,_,h,hl=>puts_ok l (putOne_ok h (hl x (by simp))) (fun y hy=>hl y (List.mem_cons_of_mem _ hy))
theorem put_ok {c : Cfg} {s : SimE} (h : SimOk c s) {l : List Event} (hl : ∀ x ∈ l,EvOk c x) : SimOk c (putE s l):=
 ⟨(puts_len l _).trans h.len,h.lens,puts_ok l h.each hl⟩
theorem empty_ok (c : Cfg) : SimOk c (emptyE c):=⟨by simp [emptyE],by simp [emptyE],fun i h hi=>by
 have:=List.mem_of_getElem? hi
 obtain ⟨_,rfl⟩:=List.mem_replicate.1 this
 exact ⟨List.Pairwise.nil,fun r hr=>by simp at hr⟩⟩
theorem starts_ev {c : Cfg} (hc : CfgFine c) : ∀ (l : List Start) (n : Nat),(∀ s ∈ l,s ∈ c.starts) → ∀ x ∈ startsFrom n l,EvOk c x
 | [],_,_,x,hx=>by simp [startsFrom] at hx
 | s :: l,n,hs,x,hx=>by
   unfold startsFrom at hx
   rcases List.mem_cons.1 hx with rfl | hx
   · have h1:=hc.dsts s (hs s (by simp))
     have h2:=hc.times s (hs s (by simp))
     exact ⟨h1.1,h1.2,h2.1,h2.2⟩
   · exact starts_ev hc l (n + 1) (fun y hy=>hs y (List.mem_cons_of_mem _ hy)) x hx
theorem new_ok {c : Cfg} (hc : CfgFine c) : SimOk c (newE c):=
 put_ok (empty_ok c) fun x hx=>starts_ev hc c.starts 0 (fun _ h=>h) x ((sortE_perm _).mem_iff.1 hx)
theorem ins_fine {c : Cfg} {s : SimE} (hs : SimOk c s) {a : Int} {lp : Nat} (hn : nextE s.ws = some (a,lp)) : wrongE c.lps.length lp (toldE s a lp) = 0 ∧ atE (toldE s a lp) = a ∧ 0 ≤ a ∧ a ≤ c.fin ∧ lp < c.lps.length:=by
 obtain ⟨r,t,hw,ha⟩:=next_is hn
 have hlp : lp < c.lps.length:=by rw [← hs.len];exact (List.getElem?_eq_some_iff.1 hw).1
 have hk:=hs.each lp _ hw
 have hh : hAt s lp = r :: t:=by unfold hAt;rw [hw];rfl
 have hr:=hk.2 r (by simp)
 have hi : toldE s a lp = r.v :: ((t.takeWhile (same_at a)).map (·.v)):=by
  unfold toldE;rw [hh,List.takeWhile_cons,if_pos (by simp [same_at,ha])];rfl
 have hat : atE (toldE s a lp) = a:=by rw [hi];show r.v.key.at_ = a;rw [hr.1,ha]
 have hmem : ∀ x ∈ toldE s a lp,x.key.at_ = a ∧ x.dst = lp:=fun x hx=>by
  obtain ⟨y,hy,rfl⟩:=List.mem_map.1 hx
  have h1:=twh_mem (same_at a) _ y hy
  rw [hh] at h1
  have h2:=hk.2 y h1.2
  have h3 : y.key.at_ = a:=by simpa [same_at] using h1.1
  exact ⟨by rw [h2.1,h3],h2.2.1⟩
 have hnd : twiceB (toldE s a lp) = false:=by
  unfold twiceB
  rw [Bool.not_eq_false',decide_eq_true_eq]
  have h1 : (toldE s a lp).map (·.key) = ((hAt s lp).takeWhile (same_at a)).map (·.key):=by
   unfold toldE
   rw [List.map_map]
   refine List.map_congr_left fun y hy=>?_
   have h2:=(twh_mem (same_at a) _ y hy).2
   rw [hh] at h2
   exact (hk.2 y h2).1
  rw [h1,hh]
  exact (hk.1.nodup).sublist ((List.takeWhile_sublist _).map _)
 refine ⟨?_,hat,by rw [← ha];exact hr.2.2.1,by rw [← ha];exact hr.2.2.2,hlp⟩
 unfold wrongE
 rw [if_neg (by omega),if_neg (by rw [hi];simp),if_neg (fun h=>h fun x hx=>(hmem x hx).2),if_neg (fun h=>h fun x hx=>by rw [hat];exact (hmem x hx).1),if_neg (by rw [hnd];simp)]
theorem step_ok {c : Cfg} {s s' : SimE} {b : BatE} (hs : SimOk c s) (h : simStep c s = some (b,s')) : SimOk c s':=by
 unfold simStep at h
 cases hn : nextE s.ws with
 | none=>rw [hn] at h;cases h
 | some p=>
   obtain ⟨a,lp⟩:=p
   rw [hn] at h
   simp only [Option.some.injEq,Prod.mk.injEq] at h
   obtain ⟨_,rfl⟩:=h
   obtain ⟨_,hat,ha0,ha1,hlp⟩:=ins_fine hs hn
   obtain ⟨r,t,hw,_⟩:=next_is hn
   refine put_ok ⟨by simp [hs.len],by simp [hs.lens],fun i h hi=>?_⟩ fun x hx=>?_
   · simp only at hi
     rw [List.getElem?_set] at hi
     split at hi
     · rename_i e
       subst e
       split at hi
       · simp only [Option.some.injEq] at hi
         subst hi
         have hk:=hs.each lp _ hw
         have hh : hAt s lp = r :: t:=by unfold hAt;rw [hw];rfl
         rw [hh]
         exact ⟨hk.1.sublist (List.dropWhile_sublist _),fun y hy=>hk.2 y ((List.dropWhile_sublist _).subset hy)⟩
       · cases hi
     · exact hs.each i h hi
   · obtain ⟨i,hi,he⟩:=List.mem_iff_getElem.1 hx
     have:=(batch_sent c lp (stOf s lp) (toldE s a lp)).each i x (by rw [List.getElem?_eq_getElem hi,he])
     rw [hat] at this
     exact ⟨this.2.2.2.2.2.1,this.2.2.2.2.2.2,by omega,this.2.2.2.2.1⟩
end Go.Proofs.YtcnfionnnpnplaaGreatDoor
/- A simulation as a thing of the state; the walks of put. -/
namespace Go.Proofs.YtcnfionnnpnplaaGreatDoor
open Go Go.RowKit Reg Mem
open List (set_cons_succ set_cons_zero setIfInBounds_toArray cons_append nil_append)
def hpE (B : Nat) : List Value:=[.pointer (some ⟨B,0,none⟩)]
theorem hpElen : ∀ x,(hpE x).length = 1:=fun _=>rfl
theorem hpEone : ∀ x,∀ u ∈ hpE x,u.oneCell' = true:=fun x u hu=>by simp only [hpE,List.mem_singleton] at hu;subst hu;rfl
theorem elem_Hp : Elem Tryz.prog 143 146 1 8:=⟨_,.pointer none,Tryz.underlying143,rfl,by kernel_rfl,by kernel_rfl,by kernel_rfl,by kernel_rfl,by omega⟩
def simA (X R : Nat) (s : SimE) : Asn:=exs false fun p : Value × Value × List Nat=>
 sep false (pur (p.2.2.length = s.ws.length)) (sep false (Blk false X #[p.1,.pointer (some ⟨R,0,none⟩),p.2.1,.int .i64 s.many,.int .i64 s.peak] 145)
  (sep false (Own 50 State.cells 4 p.1 s.ss) (sep false (Own 146 hpE 1 p.2.1 p.2.2) (stars (List.zipWith heapA p.2.2 s.ws)))))
theorem sim_open {G : Nat → Prop} {w0 w : World} {L : List Asn} {X R : Nat} {s : SimE} (S : St G w0 w (simA X R s :: L)) :
 ∃ v1 v2 Bs,Bs.length = s.ws.length ∧ St G w0 w (stars (List.zipWith heapA Bs s.ws) :: Own 146 hpE 1 v2 Bs :: Own 50 State.cells 4 v1 s.ss :: Blk false X #[v1,.pointer (some ⟨R,0,none⟩),v2,.int .i64 s.many,.int .i64 s.peak] 145 :: L):=by
 obtain ⟨⟨v1,v2,Bs⟩,S⟩:=S.open_exs (fun _=>rfl)
 obtain ⟨h1,S⟩:=(S.open_sep rfl rfl).open_pur
 exact ⟨v1,v2,Bs,h1,(((S.open_sep rfl rfl).swap2.open_sep rfl rfl).swap2.open_sep rfl (stars_sh _)).swap2⟩
theorem sim_close {G : Nat → Prop} {w0 w : World} {L : List Asn} {X R : Nat} {s : SimE} {v1 v2 : Value} {Bs : List Nat} (hl : Bs.length = s.ws.length)
 (S : St G w0 w (stars (List.zipWith heapA Bs s.ws) :: Own 146 hpE 1 v2 Bs :: Own 50 State.cells 4 v1 s.ss :: Blk false X #[v1,.pointer (some ⟨R,0,none⟩),v2,.int .i64 s.many,.int .i64 s.peak] 145 :: L)) : St G w0 w (simA X R s :: L):=
 ((((S.swap2.close_sep rfl (stars_sh _)).swap2.close_sep rfl rfl).swap2.close_sep rfl rfl).close_pur hl |>.close_sep rfl rfl).close_exs (A:=fun p : Value × Value × List Nat=>
 sep false (pur (p.2.2.length = s.ws.length)) (sep false (Blk false X #[p.1,.pointer (some ⟨R,0,none⟩),p.2.1,.int .i64 s.many,.int .i64 s.peak] 145)
  (sep false (Own 50 State.cells 4 p.1 s.ss) (sep false (Own 146 hpE 1 p.2.1 p.2.2) (stars (List.zipWith heapA p.2.2 s.ws)))))) (v1,v2,Bs) rfl
theorem zipWith_at {Bs : List Nat} {ws : List (List Row)} {k B : Nat} {h : List Row} (hB : Bs[k]? = some B) (hw : ws[k]? = some h) : (List.zipWith heapA Bs ws)[k]? = some (heapA B h):=by
 rw [List.getElem?_zipWith,hB,hw]
theorem zipWith_put {Bs : List Nat} {ws : List (List Row)} {k B : Nat} {h : List Row} (hB : Bs[k]? = some B) : (List.zipWith heapA Bs ws).set k (heapA B h) = List.zipWith heapA Bs (ws.set k h):=by
 apply List.ext_getElem?
 intro i
 rw [List.getElem?_set,List.getElem?_zipWith,List.getElem?_zipWith,List.getElem?_set]
 by_cases e : k = i
 · subst e
   rw [if_pos rfl,if_pos rfl,hB]
   by_cases hk : k < ws.length
   · have hkB : k < Bs.length:=(List.getElem?_eq_some_iff.1 hB).1
     rw [if_pos hk,if_pos (by simp;omega)]
   · rw [if_neg hk,if_neg (by simp;omega)]
 · rw [if_neg e,if_neg e]
structure SimB (ws : List (List Row)) (many : Int) (n : Nat) : Prop where
 lo : -(n : Int) ≤ many
 hi : many ≤ n
 each : ∀ h ∈ ws,h.length ≤ n
theorem SimB.mono {ws : List (List Row)} {many : Int} {n m : Nat} (h : SimB ws many n) (hm : n ≤ m) : SimB ws many m:=
 ⟨by have:=h.lo;omega,by have:=h.hi;omega,fun x hx=>Nat.le_trans (h.each x hx) hm⟩
theorem SimB.putOne {p : List (List Row) × Int} {n : Nat} (h : SimB p.1 p.2 n) (x : Event) : SimB (putOne p x).1 (putOne p x).2 (n + 1):=by
 unfold Go.Proofs.YtcnfionnnpnplaaGreatDoor.putOne
 split
 · rename_i s hs
   refine ⟨by have:=h.lo;simp only;split <;> omega,by have:=h.hi;simp only;split <;> omega,fun y hy=>?_⟩
   rcases List.mem_or_eq_of_mem_set hy with hy | rfl
   · exact Nat.le_succ_of_le (h.each y hy)
   · exact Nat.le_trans (pushed_length s _) (Nat.succ_le_succ (h.each s (List.mem_of_getElem? hs)))
 · exact h.mono (Nat.le_succ n)
theorem SimB.puts : ∀ (l : List Event) {p : List (List Row) × Int} {n : Nat},SimB p.1 p.2 n → SimB (l.foldl Go.Proofs.YtcnfionnnpnplaaGreatDoor.putOne p).1 (l.foldl Go.Proofs.YtcnfionnnpnplaaGreatDoor.putOne p).2 (n + l.length)
 | [],_,_,h=>h
 | x :: l,p,n,h=>by
   have:=SimB.puts l (p:=Go.Proofs.YtcnfionnnpnplaaGreatDoor.putOne p x) (h.putOne x)
   rw [show n + (x :: l).length = n + 1 + l.length by simp;omega]
   exact this
def PutRel (F : Nat → Prop) (X R : Nat) (v1 v2 v : Value) (Bs : List Nat) (s : SimE) (l : List Event) (w : World) (i : Value) (wr : World) : Prop:=
 ∃ (j : Nat) (ws : List (List Row)) (many : Int),j ≤ l.length ∧ i = .int .i64 j ∧ Hid ((l.take j).foldl putOne (s.ws,s.many) = (ws,many)) ∧
  St F w wr [stars (List.zipWith heapA Bs ws),Own 146 hpE 1 v2 Bs,Own 50 State.cells 4 v1 s.ss,Blk false X #[v1,.pointer (some ⟨R,0,none⟩),v2,.int .i64 many,.int .i64 s.peak] 145,Sl true Event.cells 7 v l]
theorem put_calls (X R : Nat) (s : SimE) (v : Value) (l : List Event) (n : Nat) (w : World) (F : Nat → Prop) (S0 : St F w w [simA X R s,Sl true Event.cells 7 v l]) (hB : SimB s.ws s.many n) (hn : n + l.length ≤ 1073741824) (hl : ∀ x ∈ l,0 ≤ x.dst ∧ x.dst < s.ws.length) :
 Calls Tryz.prog 71 #[.pointer (some ⟨X,0,none⟩),v] w fun e w'=>e = .returned (.tuple #[]) ∧ St F w w' [simA X R (putE s l)]:=by
 obtain ⟨v1,v2,Bs,hlen,S⟩:=sim_open S0
 clear S0
 obtain ⟨ad,cp,rfl,_⟩:=(S.sl 4 rfl).elim fun _ h=>h.form
 obtain ⟨ap,cpp,rfl,_⟩:=(S.ownsl hpElen 1 rfl).elim fun _ h=>h.form
 have HB:=Lib.hid hB
 have HL:=Lib.hid hl
 have HLEN:=Lib.hid hlen
 clear hB hl
 have hnl : (l.length : Int) ≤ 1073741824:=by omega
 go_enter Tryz.func71,Tryz.ntmps71
 go_wp2_with first | ((with_reducible apply wps_loada (T:=56) (k:=7) S 3);(case hx|hi=>rfl);(case hk=>exact nle rfl);(case hT=>decide +kernel))
 go_loopw [8] (fun i wr=>PutRel F X R v1 (.slice ap Bs.length cpp) (.slice ad l.length cp) Bs s l w i wr) (fun i _=>l.length - (intOf i).toNat)
 case atStart=>exact ⟨0,s.ws,s.many,Nat.zero_le _,rfl,rfl,S⟩
 case round=>
  clear S
  obtain ⟨j,ws,many,hj,rfl,Hp,S⟩:=hrel
  by_cases hlt : j < l.length
  · obtain ⟨x,hx⟩ : ∃ x,l[j]? = some x:=⟨_,List.getElem?_eq_getElem hlt⟩
    obtain ⟨R1,o1,rfl⟩ : ∃ R o,ad = some ⟨R,o,none⟩:=(S.sl 4 rfl).elim fun F h=>h.head (by omega)
    have hlt2 : (j : Int) < l.length:=by omega
    have hxd:=HL.out x (List.mem_of_getElem? hx)
    have hwl : ws.length = s.ws.length:=by have:=puts_len (l.take j) (s.ws,s.many);rw [Hp.out] at this;exact this
    have hbw:=SimB.puts (l.take j) (p:=(s.ws,s.many)) HB.out
    rw [Hp.out] at hbw
    obtain ⟨d,hd⟩ : ∃ d : Nat,x.dst = d:=⟨x.dst.toNat,by omega⟩
    have hdl : d < Bs.length:=by omega
    have hdl2 : (d : Int) < Bs.length:=by omega
    obtain ⟨R2,c2,e2⟩:=own_hd 1 S rfl (by omega)
    simp only [Value.slice.injEq] at e2
    obtain ⟨rfl,_,rfl⟩:=e2
    obtain ⟨B,hBd⟩ : ∃ B,Bs[d]? = some B:=⟨_,List.getElem?_eq_getElem hdl⟩
    obtain ⟨h,hh⟩ : ∃ h,ws[d]? = some h:=⟨_,List.getElem?_eq_getElem (by omega)⟩
    have hmax : h.length < 4294967296:=by have:=hbw.each h (List.mem_of_getElem? hh);rw [List.length_take] at this;omega
    obtain ⟨xk,xd,xn,xv⟩:=x
    obtain rfl : xd = d:=hd
    have hm0 : -1073741824 ≤ many:=by have:=hbw.lo;rw [List.length_take] at this;omega
    have hm1 : many ≤ 1073741824:=by have:=hbw.hi;rw [List.length_take] at this;omega
    have HK:=Lib.hid (zipWith_at hBd hh)
    have HPU:=Lib.hid (hpush_calls B h xk ⟨xk,d,xn,xv⟩)
    have HZ:=Lib.hid fun h'=>zipWith_put (ws:=ws) (h:=h') hBd
    have Hx:=Lib.hid hx
    have HBd:=Lib.hid hBd
    have Hh:=Lib.hid hh
    clear hx hBd hh
    by_cases hk : xk ∈ h.map (·.key)
    · have HA : Hid (PushAns h ⟨xk,⟨xk,d,xn,xv⟩⟩ = 13):=by unfold PushAns;exact if_pos hk
      have HE : Hid (pushed h ⟨xk,⟨xk,d,xn,xv⟩⟩ = h):=by unfold pushed;exact if_pos hk
      rw [HA.out,HE.out] at HPU
      have HKK:=Lib.hid hk
      clear hk
      go_wp2_with first | ((with_reducible apply wps_alloca (E:=56) S);(case hz=>exact Tryz.zeroValue56);clear S;intro bx wz S) | ((with_reducible apply wps_loada_el S 4 (hj:=Hx.out) (q:=0) (vs:=[.int .i64 (⟨xk,d,xn,xv⟩:Event).key.at_,.int .i64 (⟨xk,d,xn,xv⟩:Event).key.src,.int .i64 (⟨xk,d,xn,xv⟩:Event).key.sent,.int .i64 (⟨xk,d,xn,xv⟩:Event).key.no,.int .i64 (⟨xk,d,xn,xv⟩:Event).dst,.int .i64 (⟨xk,d,xn,xv⟩:Event).kind,.int .i64 (⟨xk,d,xn,xv⟩:Event).data]) (m:=7));(case hx|hi=>rfl);(case hn=>omega);(case hm|hv=>rfl);(case hT=>decide +kernel)) | ((with_reducible apply wps_storea (T:=56) S 0 (vs:=[.int .i64 xk.at_,.int .i64 xk.src,.int .i64 xk.sent,.int .i64 xk.no,.int .i64 d,.int .i64 xn,.int .i64 xv]) (m:=7));(case hx|hy|hi|hm|h1=>rfl);(case hn=>exact nle rfl);(case hT=>decide +kernel);clear S;intro wz S;simp only [set_cons_zero,set_cons_succ,setAll,setIfInBounds_toArray] at S) | ((with_reducible apply wps_load_own hpElen S 2 (hj:=HBd.out) (q:=0) (u:=(.pointer (some ⟨B,0,none⟩))));(case hx|hi=>rfl);(case hn=>omega);(case hu=>rfl);(case hT=>decide +kernel)) | (go_at_call 102;obtain ⟨Fz,hF,hBk⟩:=S.starLend 1 rfl _ HK.out;refine Calls.mono (HPU.out _ _ hF hmax) ?_;rintro e wz ⟨rfl,T⟩;replace S:=hBk _ _ rfl T;clear hBk hF T;simp only [set_cons_succ,set_cons_zero] at S) | ((with_reducible refine tot_done ?ht ?_);(case ht=>kernel_rfl)) | ((with_reducible apply wps_text S);(case hm=>kernel_rfl);(case hB=>decide +kernel);clear S;intro wz S) | ((with_reducible apply wps_load S 0);(case hx|hi|hu=>rfl);(case hT=>decide +kernel)) | ((with_reducible apply wps_loada (T:=54) (k:=4) S 0);(case hx|hi=>rfl);(case hk=>exact nle rfl);(case hT=>decide +kernel)) | ((with_reducible apply wps_loada (T:=56) (k:=7) S 0);(case hx|hi=>rfl);(case hk=>exact nle rfl);(case hT=>decide +kernel)) | ((with_reducible apply wps_load S 4);(case hx|hi|hu=>rfl);(case hT=>decide +kernel))
      rw [HZ.out] at S
      go_roundw
      case rel=>
       refine ⟨j + 1,ws.set d h,many,by omega,by go_num,?_,S.pick [1,2,3,4,5] rfl⟩
       rw [take_snoc Hx.out,List.foldl_append,Hp.out]
       show putOne (ws,many) _ = _
       unfold putOne
       simp only [Int.toNat_natCast]
       rw [Hh.out]
       simp only [rowOf]
       rw [HE.out,if_pos HKK.out]
      case measure=>simp [intOf];omega
    · have HA : Hid (PushAns h ⟨xk,⟨xk,d,xn,xv⟩⟩ = 0):=by unfold PushAns;exact if_neg hk
      rw [HA.out] at HPU
      have HKK:=Lib.hid hk
      clear hk
      go_wp2_with first | ((with_reducible apply wps_alloca (E:=56) S);(case hz=>exact Tryz.zeroValue56);clear S;intro bx wz S) | ((with_reducible apply wps_loada_el S 4 (hj:=Hx.out) (q:=0) (vs:=[.int .i64 (⟨xk,d,xn,xv⟩:Event).key.at_,.int .i64 (⟨xk,d,xn,xv⟩:Event).key.src,.int .i64 (⟨xk,d,xn,xv⟩:Event).key.sent,.int .i64 (⟨xk,d,xn,xv⟩:Event).key.no,.int .i64 (⟨xk,d,xn,xv⟩:Event).dst,.int .i64 (⟨xk,d,xn,xv⟩:Event).kind,.int .i64 (⟨xk,d,xn,xv⟩:Event).data]) (m:=7));(case hx|hi=>rfl);(case hn=>omega);(case hm|hv=>rfl);(case hT=>decide +kernel)) | ((with_reducible apply wps_storea (T:=56) S 0 (vs:=[.int .i64 xk.at_,.int .i64 xk.src,.int .i64 xk.sent,.int .i64 xk.no,.int .i64 d,.int .i64 xn,.int .i64 xv]) (m:=7));(case hx|hy|hi|hm|h1=>rfl);(case hn=>exact nle rfl);(case hT=>decide +kernel);clear S;intro wz S;simp only [set_cons_zero,set_cons_succ,setAll,setIfInBounds_toArray] at S) | ((with_reducible apply wps_load_own hpElen S 2 (hj:=HBd.out) (q:=0) (u:=(.pointer (some ⟨B,0,none⟩))));(case hx|hi=>rfl);(case hn=>omega);(case hu=>rfl);(case hT=>decide +kernel)) | (go_at_call 102;obtain ⟨Fz,hF,hBk⟩:=S.starLend 1 rfl _ HK.out;refine Calls.mono (HPU.out _ _ hF hmax) ?_;rintro e wz ⟨rfl,T⟩;replace S:=hBk _ _ rfl T;clear hBk hF T;simp only [set_cons_succ,set_cons_zero] at S) | ((with_reducible apply wps_store (u:=(.int .i64 (many + 1))) S 4);(case hx|hy|hi|h1=>rfl);(case hn=>exact nle rfl);(case hT=>decide +kernel);clear S;intro wz S;simp only [set_cons_succ,set_cons_zero,setIfInBounds_toArray] at S) | ((with_reducible refine tot_done ?ht ?_);(case ht=>kernel_rfl)) | ((with_reducible apply wps_text S);(case hm=>kernel_rfl);(case hB=>decide +kernel);clear S;intro wz S) | ((with_reducible apply wps_load S 0);(case hx|hi|hu=>rfl);(case hT=>decide +kernel)) | ((with_reducible apply wps_loada (T:=54) (k:=4) S 0);(case hx|hi=>rfl);(case hk=>exact nle rfl);(case hT=>decide +kernel)) | ((with_reducible apply wps_loada (T:=56) (k:=7) S 0);(case hx|hi=>rfl);(case hk=>exact nle rfl);(case hT=>decide +kernel)) | ((with_reducible apply wps_load S 4);(case hx|hi|hu=>rfl);(case hT=>decide +kernel))
      rw [HZ.out] at S
      go_roundw
      case rel=>
       refine ⟨j + 1,ws.set d (pushed h ⟨xk,⟨xk,d,xn,xv⟩⟩),many + 1,by omega,by go_num,?_,S.pick [1,2,3,4,5] rfl⟩
       rw [take_snoc Hx.out,List.foldl_append,Hp.out]
       show putOne (ws,many) _ = _
       unfold putOne
       simp only [Int.toNat_natCast]
       rw [Hh.out]
       simp only [rowOf]
       rw [if_neg HKK.out]
      case measure=>simp [intOf];omega
  · obtain rfl : j = l.length:=by omega
    go_wp2_with first | ((with_reducible apply wps_store (u:=(.int .i64 (max s.peak many))) S 3);(case hx|hy|hi|h1=>rfl);(case hn=>exact nle rfl);(case hT=>decide +kernel);clear S;intro wz S;simp only [set_cons_succ,set_cons_zero,setIfInBounds_toArray] at S) | ((with_reducible refine tot_done ?ht ?_);(case ht=>kernel_rfl)) | ((with_reducible apply wps_text S);(case hm=>kernel_rfl);(case hB=>decide +kernel);clear S;intro wz S) | ((with_reducible apply wps_load S 3);(case hx|hi|hu=>rfl);(case hT=>decide +kernel))
    go_end0
    have hp:=Hp.out
    rw [List.take_length] at hp
    have e : putE s l = ⟨ws,s.ss,many,max s.peak many⟩:=by unfold putE;rw [hp]
    refine ⟨rfl,?_⟩
    rw [e]
    refine sim_close (s:=⟨ws,s.ss,many,max s.peak many⟩) ?_ (S.pick [0,1,2,3] rfl)
    rw [HLEN.out]
    have:=puts_len l (s.ws,s.many)
    rw [hp] at this
    exact this.symm
end Go.Proofs.YtcnfionnnpnplaaGreatDoor
/- The walks of a simulation's of, become, Next, States. -/
namespace Go.Proofs.YtcnfionnnpnplaaGreatDoor
open Go Go.RowKit Reg Mem
open List (set_cons_succ set_cons_zero setIfInBounds_toArray cons_append nil_append)
theorem simR_st {X R : Nat} {s : SimE} {w : World} {F : Nat → Prop} (h : (simA X R s).at_ w F) :
 ∃ v1 v2 Bs,Bs.length = s.ws.length ∧ St (fun _=>False) w w [rd (stars (List.zipWith heapA Bs s.ws)),Sl true hpE 1 v2 Bs,Sl true State.cells 4 v1 s.ss,Blk true X #[v1,.pointer (some ⟨R,0,none⟩),v2,.int .i64 s.many,.int .i64 s.peak] 145]:=by
 obtain ⟨⟨v1,v2,Bs⟩,F1,F2,⟨h1,_⟩,⟨F3,F4,h3,⟨F5,F6,h5,⟨F7,F8,h7,h8,_,_⟩,_,_⟩,_,_⟩,_,_⟩:=h
 refine ⟨v1,v2,Bs,h1,?_⟩
 have S1 : St (fun _=>False) w w [Blk true X #[v1,.pointer (some ⟨R,0,none⟩),v2,.int .i64 s.many,.int .i64 s.peak] 145]:=(St.init _ w).share rfl rfl h3
 have S2:=S1.share (A:=Sl true State.cells 4 v1 s.ss) rfl rfl (own_sl (sh:=true) sacells h5)
 have S3:=S2.share (A:=Sl true hpE 1 v2 Bs) rfl rfl (own_sl (sh:=true) hpElen h7)
 exact S3.share (A:=rd (stars (List.zipWith heapA Bs s.ws))) rfl rfl h8
def optAt : Option (Int × Nat) → Int
 | none=>0
 | some (a,_)=>a
def optLp : Option (Int × Nat) → Int
 | none=>0
 | some (_,j)=>j
theorem nextFrom_snoc : ∀ (l : List (List Row)) (i : Nat) (b : Option (Int × Nat)) (s : List Row),nextFrom i (l ++ [s]) b = better (i + l.length) s (nextFrom i l b)
 | [],_,_,_=>rfl
 | x :: l,i,b,s=>by
   show nextFrom (i + 1) (l ++ [s]) (better i x b) = _
   rw [nextFrom_snoc l (i + 1)]
   show better (i + 1 + l.length) s _ = better (i + (l.length + 1)) s _
   rw [show i + 1 + l.length = i + (l.length + 1) by omega]
   rfl
def NextRel (X : Nat) (cs : Array Value) (v2 : Value) (Bs : List Nat) (ws : List (List Row)) (w : World) (a b c i : Value) (wr : World) : Prop:=
 ∃ j : Nat,j ≤ ws.length ∧ i = .int .i64 j ∧ (∃ o : Option (Int × Nat),Hid (nextFrom 0 (ws.take j) none = o) ∧ a = .int .i64 (optAt o) ∧ b = .int .i64 (optLp o) ∧ c = .bool o.isSome) ∧
  St (fun _=>False) w wr [rd (stars (List.zipWith heapA Bs ws)),Sl true hpE 1 v2 Bs,Blk true X cs 145]
theorem next_calls (X R : Nat) (s : SimE) (w : World) (F : Nat → Prop) (h : (simA X R s).at_ w F) (hn : s.ws.length ≤ 65536) (hn0 : 0 < s.ws.length) :
 Calls Tryz.prog 72 #[.pointer (some ⟨X,0,none⟩)] w fun e w'=>e = .returned (.tuple #[.int .i64 (optAt (nextE s.ws)),.int .i64 (optLp (nextE s.ws)),.bool (nextE s.ws).isSome]) ∧ Below w.heap.size w w':=by
 obtain ⟨v1,v2,Bs,hlen,S⟩:=simR_st h
 clear h
 replace S:=S.pick [0,1,3] rfl
 simp only [pick,nth] at S
 obtain ⟨ap,cpp,rfl,_⟩:=(S.sl 1 rfl).elim fun _ h=>h.form
 generalize s.ws = ws at *
 obtain ⟨R2,o2,rfl⟩ : ∃ R o,ap = some ⟨R,o,none⟩:=(S.sl 1 rfl).elim fun F h=>h.head (by omega)
 have HLEN:=Lib.hid hlen
 have hnB : (Bs.length : Int) ≤ 65536:=by omega
 clear hlen
 go_enter Tryz.func72,Tryz.ntmps72
 go_wp2_with first | ((with_reducible apply wps_load S 2);(case hx|hi|hu=>rfl);(case hT=>decide +kernel))
 go_loopw [2,3,4,17] (fun a b c i wr=>NextRel X #[v1,.pointer (some ⟨R,0,none⟩),.slice (some ⟨R2,o2,none⟩) Bs.length cpp,.int .i64 s.many,.int .i64 s.peak] (.slice (some ⟨R2,o2,none⟩) Bs.length cpp) Bs ws w a b c i wr) (fun _ _ _ i _=>ws.length - (intOf i).toNat)
 case atStart=>exact ⟨0,Nat.zero_le _,rfl,⟨none,rfl,rfl,rfl,rfl⟩,S⟩
 case round=>
  clear S
  obtain ⟨j,hj,rfl,⟨o,Ho,rfl,rfl,rfl⟩,S⟩:=hrel
  by_cases hlt : j < ws.length
  · have hlt2 : (j : Int) < Bs.length:=by have:=HLEN.out;omega
    obtain ⟨B,hBd⟩ : ∃ B,Bs[j]? = some B:=⟨_,List.getElem?_eq_getElem (by have:=HLEN.out;omega)⟩
    obtain ⟨h,hh⟩ : ∃ h,ws[j]? = some h:=⟨_,List.getElem?_eq_getElem hlt⟩
    have HK:=Lib.hid (zipWith_at hBd hh)
    have HN : Hid (nextFrom 0 (ws.take (j + 1)) none = better j h o):=Lib.hid (by
     rw [take_snoc hh,nextFrom_snoc,Ho.out,Nat.zero_add,List.length_take,Nat.min_eq_left (Nat.le_of_lt hlt)])
    have HBd:=Lib.hid hBd
    clear hBd
    clear hh
    cases h with
    | nil=>
      go_wp2_with first | ((with_reducible apply wps_load_el S 1 (hj:=HBd.out) (q:=0) (u:=(.pointer (some ⟨B,0,none⟩))));(case hx|hi=>rfl);(case hn=>omega);(case hu=>rfl);(case hT=>decide +kernel)) | (go_at_call 103;refine Calls.mono (hfirst_nil _ _ _ (star_get (S.get (i:=0) rfl) HK.out).choose_spec) ?_;rintro e wz ⟨rfl,hE⟩;replace S:=S.ext (Keep.of_below hE);clear hE) | ((with_reducible apply wps_storea (T:=54) S 1 (vs:=[.int .i64 0,.int .i64 0,.int .i64 0,.int .i64 0]) (m:=4));(case hx|hy|hi|hm|h1=>rfl);(case hn=>exact nle rfl);(case hT=>decide +kernel);clear S;intro wz S;simp only [set_cons_zero,set_cons_succ,setAll,setIfInBounds_toArray] at S) | ((with_reducible apply wps_storea (T:=56) S 0 (vs:=[.int .i64 0,.int .i64 0,.int .i64 0,.int .i64 0,.int .i64 0,.int .i64 0,.int .i64 0]) (m:=7));(case hx|hy|hi|hm|h1=>rfl);(case hn=>exact nle rfl);(case hT=>decide +kernel);clear S;intro wz S;simp only [set_cons_zero,set_cons_succ,setAll,setIfInBounds_toArray] at S) | ((with_reducible apply wps_alloca (E:=54) S);(case hz=>exact Tryz.zeroValue54);clear S;intro bz wz S) | ((with_reducible apply wps_alloca (E:=56) S);(case hz=>exact Tryz.zeroValue56);clear S;intro bz wz S)
      go_roundw
      case rel=>exact ⟨j + 1,by omega,by go_num,⟨o,HN.out,rfl,rfl,rfl⟩,S.pick [2,3,4] rfl⟩
      case measure=>simp [intOf];omega
    | cons r t=>
      cases o with
      | none=>
        go_wp2_with first | ((with_reducible refine wpList_skip ?hw ?_);(case hw=>with_unfolding_all rfl);simp only [Act.put,setIfInBounds_toArray,set_cons_succ,set_cons_zero]) | ((with_reducible apply wps_load_el S 1 (hj:=HBd.out) (q:=0) (u:=(.pointer (some ⟨B,0,none⟩))));(case hx|hi=>rfl);(case hn=>omega);(case hu=>rfl);(case hT=>decide +kernel)) | (go_at_call 103;refine Calls.mono (hfirst_cons _ _ _ _ _ (star_get (S.get (i:=0) rfl) HK.out).choose_spec) ?_;rintro e wz ⟨rfl,hE⟩;replace S:=S.ext (Keep.of_below hE);clear hE) | ((with_reducible apply wps_storea (T:=54) S 1 (vs:=[.int .i64 r.key.at_,.int .i64 r.key.src,.int .i64 r.key.sent,.int .i64 r.key.no]) (m:=4));(case hx|hy|hi|hm|h1=>rfl);(case hn=>exact nle rfl);(case hT=>decide +kernel);clear S;intro wz S;simp only [set_cons_zero,set_cons_succ,setAll,setIfInBounds_toArray] at S) | ((with_reducible apply wps_storea (T:=56) S 0 (vs:=[.int .i64 r.v.key.at_,.int .i64 r.v.key.src,.int .i64 r.v.key.sent,.int .i64 r.v.key.no,.int .i64 r.v.dst,.int .i64 r.v.kind,.int .i64 r.v.data]) (m:=7));(case hx|hy|hi|hm|h1=>rfl);(case hn=>exact nle rfl);(case hT=>decide +kernel);clear S;intro wz S;simp only [set_cons_zero,set_cons_succ,setAll,setIfInBounds_toArray] at S) | ((with_reducible apply wps_alloca (E:=54) S);(case hz=>exact Tryz.zeroValue54);clear S;intro bz wz S) | ((with_reducible apply wps_alloca (E:=56) S);(case hz=>exact Tryz.zeroValue56);clear S;intro bz wz S) | ((with_reducible apply wps_load S 1);(case hx|hi|hu=>rfl);(case hT=>decide +kernel))
        go_roundw
        case rel=>exact ⟨j + 1,by omega,by go_num,⟨some (r.key.at_,j),HN.out,rfl,rfl,rfl⟩,S.pick [2,3,4] rfl⟩
        case measure=>simp [intOf];omega
      | some p=>
        obtain ⟨a,q⟩:=p
        simp only [optAt,optLp,Option.isSome_some] at *
        by_cases ha : r.key.at_ < a
        · have HN2 : Hid (better j (r :: t) (some (a,q)) = some (r.key.at_,j)):=Lib.hid (by show (if r.key.at_ < a then _ else _) = _;rw [if_pos ha])
          go_wp2_with first | ((with_reducible apply wps_load_el S 1 (hj:=HBd.out) (q:=0) (u:=(.pointer (some ⟨B,0,none⟩))));(case hx|hi=>rfl);(case hn=>omega);(case hu=>rfl);(case hT=>decide +kernel)) | (go_at_call 103;refine Calls.mono (hfirst_cons _ _ _ _ _ (star_get (S.get (i:=0) rfl) HK.out).choose_spec) ?_;rintro e wz ⟨rfl,hE⟩;replace S:=S.ext (Keep.of_below hE);clear hE) | ((with_reducible apply wps_storea (T:=54) S 1 (vs:=[.int .i64 r.key.at_,.int .i64 r.key.src,.int .i64 r.key.sent,.int .i64 r.key.no]) (m:=4));(case hx|hy|hi|hm|h1=>rfl);(case hn=>exact nle rfl);(case hT=>decide +kernel);clear S;intro wz S;simp only [set_cons_zero,set_cons_succ,setAll,setIfInBounds_toArray] at S) | ((with_reducible apply wps_storea (T:=56) S 0 (vs:=[.int .i64 r.v.key.at_,.int .i64 r.v.key.src,.int .i64 r.v.key.sent,.int .i64 r.v.key.no,.int .i64 r.v.dst,.int .i64 r.v.kind,.int .i64 r.v.data]) (m:=7));(case hx|hy|hi|hm|h1=>rfl);(case hn=>exact nle rfl);(case hT=>decide +kernel);clear S;intro wz S;simp only [set_cons_zero,set_cons_succ,setAll,setIfInBounds_toArray] at S) | ((with_reducible apply wps_alloca (E:=54) S);(case hz=>exact Tryz.zeroValue54);clear S;intro bz wz S) | ((with_reducible apply wps_alloca (E:=56) S);(case hz=>exact Tryz.zeroValue56);clear S;intro bz wz S) | ((with_reducible apply wps_load S 1);(case hx|hi|hu=>rfl);(case hT=>decide +kernel))
          go_roundw
          case rel=>exact ⟨j + 1,by omega,by go_num,⟨some (r.key.at_,j),HN.out.trans HN2.out,rfl,rfl,rfl⟩,S.pick [2,3,4] rfl⟩
          case measure=>simp [intOf];omega
        · have HN2 : Hid (better j (r :: t) (some (a,q)) = some (a,q)):=Lib.hid (by show (if r.key.at_ < a then _ else _) = _;rw [if_neg ha])
          go_wp2_with first | ((with_reducible apply wps_load_el S 1 (hj:=HBd.out) (q:=0) (u:=(.pointer (some ⟨B,0,none⟩))));(case hx|hi=>rfl);(case hn=>omega);(case hu=>rfl);(case hT=>decide +kernel)) | (go_at_call 103;refine Calls.mono (hfirst_cons _ _ _ _ _ (star_get (S.get (i:=0) rfl) HK.out).choose_spec) ?_;rintro e wz ⟨rfl,hE⟩;replace S:=S.ext (Keep.of_below hE);clear hE) | ((with_reducible apply wps_storea (T:=54) S 1 (vs:=[.int .i64 r.key.at_,.int .i64 r.key.src,.int .i64 r.key.sent,.int .i64 r.key.no]) (m:=4));(case hx|hy|hi|hm|h1=>rfl);(case hn=>exact nle rfl);(case hT=>decide +kernel);clear S;intro wz S;simp only [set_cons_zero,set_cons_succ,setAll,setIfInBounds_toArray] at S) | ((with_reducible apply wps_storea (T:=56) S 0 (vs:=[.int .i64 r.v.key.at_,.int .i64 r.v.key.src,.int .i64 r.v.key.sent,.int .i64 r.v.key.no,.int .i64 r.v.dst,.int .i64 r.v.kind,.int .i64 r.v.data]) (m:=7));(case hx|hy|hi|hm|h1=>rfl);(case hn=>exact nle rfl);(case hT=>decide +kernel);clear S;intro wz S;simp only [set_cons_zero,set_cons_succ,setAll,setIfInBounds_toArray] at S) | ((with_reducible apply wps_alloca (E:=54) S);(case hz=>exact Tryz.zeroValue54);clear S;intro bz wz S) | ((with_reducible apply wps_alloca (E:=56) S);(case hz=>exact Tryz.zeroValue56);clear S;intro bz wz S) | ((with_reducible apply wps_load S 1);(case hx|hi|hu=>rfl);(case hT=>decide +kernel))
          go_roundw
          case rel=>exact ⟨j + 1,by omega,by go_num,⟨some (a,q),HN.out.trans HN2.out,rfl,rfl,rfl⟩,S.pick [2,3,4] rfl⟩
          case measure=>simp [intOf];omega
  · obtain rfl : j = ws.length:=by omega
    have hge : ¬ ((ws.length : Int) < Bs.length):=by have:=HLEN.out;omega
    have ho:=Ho.out
    rw [List.take_length] at ho
    have he : nextE ws = o:=ho
    clear ho
    go_wp2_with first | ((with_reducible apply wps_load S 2);(case hx|hi|hu=>rfl);(case hT=>decide +kernel))
    (try simp only [Exit.inBlock,Exit.then]);refine bodyPost_ret (results3 rfl (res_tmp rfl) (res_tmp rfl) (res_tmp rfl)) rfl ?_
    subst he
    exact ⟨rfl,S.below⟩
theorem of_calls (X : Nat) (v1 mp v2 mn pk : Value) (ss : List State) (j : Nat) (s : State) (w : World) (F F2 : Nat → Prop) (h : (Blk false X #[v1,mp,v2,mn,pk] 145).at_ w F) (h2 : (Own 50 State.cells 4 v1 ss).at_ w F2) (hj : ss[j]? = some s) :
 Calls Tryz.prog 105 #[.pointer (some ⟨X,0,none⟩),.int .i64 j] w fun e w'=>e = .returned (.agg #[.int .i64 s.n0,.int .i64 s.n1,.int .i64 s.n2,.int .i64 s.n3]) ∧ Below w.heap.size w w':=by
 have S : St (fun _=>False) w w [Sl true State.cells 4 v1 ss,Blk true X #[v1,mp,v2,mn,pk] 145]:=((St.init _ w).share (A:=Blk true X #[v1,mp,v2,mn,pk] 145) rfl rfl h).share (A:=Sl true State.cells 4 v1 ss) rfl rfl (own_sl (sh:=true) sacells h2)
 have hl:=(List.getElem?_eq_some_iff.1 hj).1
 obtain ⟨ad,cp,rfl,_⟩:=(S.sl 0 rfl).elim fun _ h=>h.form
 obtain ⟨R1,o1,rfl⟩ : ∃ R o,ad = some ⟨R,o,none⟩:=(S.sl 0 rfl).elim fun F h=>h.head (by omega)
 have hl2 : (j : Int) < ss.length:=by omega
 have Hj:=Lib.hid hj
 clear hj
 clear h h2
 go_enter Tryz.func105,Tryz.ntmps105
 go_wp2_with first | ((with_reducible apply wps_loada_el S 1 (hj:=Hj.out) (q:=0) (vs:=[.int .i64 s.n0,.int .i64 s.n1,.int .i64 s.n2,.int .i64 s.n3]) (m:=4));(case hx|hi=>rfl);(case hn=>omega);(case hm|hv=>rfl);(case hT=>decide +kernel)) | ((with_reducible apply wps_storea (T:=50) S 0 (vs:=[.int .i64 s.n0,.int .i64 s.n1,.int .i64 s.n2,.int .i64 s.n3]) (m:=4));(case hx|hy|hi|hm|h1=>rfl);(case hn=>exact nle rfl);(case hT=>decide +kernel);clear S;intro wz S;simp only [set_cons_zero,set_cons_succ,setAll,setIfInBounds_toArray] at S) | ((with_reducible apply wps_alloca (E:=50) S);(case hz=>exact Tryz.zeroValue50);clear S;intro bz wz S) | ((with_reducible apply wps_load S 2);(case hx|hi|hu=>rfl);(case hT=>decide +kernel))
 (try simp only [Exit.inBlock,Exit.then]);(with_reducible apply S.ret_cell 0);(case hi|h|hp=>rfl);(case hA=>kernel_rfl);(case hd=>rfl)
 exact ⟨rfl,S.below⟩
theorem become_calls (X R : Nat) (s : SimE) (j : Nat) (x : State) (w : World) (F : Nat → Prop) (h : (simA X R s).at_ w F) (hj : j < s.ss.length) :
 Calls Tryz.prog 106 #[.pointer (some ⟨X,0,none⟩),.int .i64 j,.agg #[.int .i64 x.n0,.int .i64 x.n1,.int .i64 x.n2,.int .i64 x.n3]] w fun e w'=>e = .returned (.tuple #[]) ∧ St F w w' [simA X R ⟨s.ws,s.ss.set j x,s.many,s.peak⟩]:=by
 obtain ⟨v1,v2,Bs,hlen,S⟩:=sim_open (St.one w h)
 obtain ⟨R1,c1,rfl⟩:=own_hd 2 S rfl (by omega)
 obtain ⟨y,hy⟩ : ∃ y,s.ss[j]? = some y:=⟨_,List.getElem?_eq_getElem hj⟩
 have hl2 : (j : Int) < s.ss.length:=by omega
 have HLEN:=Lib.hid hlen
 have Hy:=Lib.hid hy
 clear hy
 clear h hlen
 go_enter Tryz.func106,Tryz.ntmps106
 go_wp2_with first | ((with_reducible apply wps_store_owna sacells S 3 (hj:=Hy.out) (e':=x) (q:=0) (vs:=[.int .i64 x.n0,.int .i64 x.n1,.int .i64 x.n2,.int .i64 x.n3]) (m:=4));(case hx=>rfl);(case hn=>omega);(case hi|hy|hm|h1|he=>rfl);(case hq=>exact nle rfl);(case hT=>decide +kernel);clear S;intro wz S;simp only [set_cons_succ,set_cons_zero] at S) | ((with_reducible refine tot_done ?ht ?_);(case ht=>kernel_rfl)) | ((with_reducible apply wps_text S);(case hm=>kernel_rfl);(case hB=>decide +kernel);clear S;intro wz S) | ((with_reducible apply wps_boxa S);(case hx=>rfl);clear S;intro bz wz S) | ((with_reducible apply wps_loada (T:=50) (k:=4) S 0);(case hx|hi=>rfl);(case hk=>exact nle rfl);(case hT=>decide +kernel)) | ((with_reducible apply wps_load S 4);(case hx|hi|hu=>rfl);(case hT=>decide +kernel))
 go_end0
 refine ⟨rfl,?_⟩
 have S2:=S.pick [1,2,3,4] rfl
 simp only [pick,nth] at S2
 exact sim_close (s:=⟨s.ws,s.ss.set j x,s.many,s.peak⟩) HLEN.out S2
end Go.Proofs.YtcnfionnnpnplaaGreatDoor
