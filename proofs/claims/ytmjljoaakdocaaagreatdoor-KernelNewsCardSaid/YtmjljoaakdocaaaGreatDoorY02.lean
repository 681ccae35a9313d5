import Derived.Test.YtmjljoaakdocaaaGreatDoorRows
import Derived.Test.YtmjljoaakdocaaaGreatDoorY00
import Derived.Test.YtmjljoaakdocaaaGreatDoorY01
import Derived.WalkKit
import Derived.WalkSpells
import Derived.WalkLawsBesides
import Derived.Lib.Hide
import Derived.ProofKit
import Derived.Deep.Slices
import Derived.OpenShut
namespace Go.Proofs.YtmjljoaakdocaaaGreatDoor
open Go.RowKit Reg
open List (set_cons_succ set_cons_zero setIfInBounds_toArray cons_append nil_append)
structure Key where
 at_ : Int
 src : Int
 sent : Int
 no : Int
 deriving DecidableEq
def Key.cells (k : Key) : List Value:=[.int .i64 k.at_,.int .i64 k.src,.int .i64 k.sent,.int .i64 k.no]
def Key.val (k : Key) : Value:=.agg #[.int .i64 k.at_,.int .i64 k.src,.int .i64 k.sent,.int .i64 k.no]
def Key.lt (k l : Key) : Bool:=
 if k.at_ ≠ l.at_ then decide (k.at_ < l.at_) else if k.src ≠ l.src then decide (k.src < l.src) else if k.sent ≠ l.sent then decide (k.sent < l.sent) else decide (k.no < l.no)
def Key.cmp (k l : Key) : Int:=if k.lt l then -1 else if l.lt k then 1 else 0
theorem ret_bool {a b : Bool} (h : a = b) : Ending.returned (.bool a) = .returned (.bool b):=by rw [h]
theorem lt1 {a b c d a' b' c' d' : Int} (h : (a != a') = true) : decide (a < a') = Key.lt ⟨a,b,c,d⟩ ⟨a',b',c',d'⟩:=by
 simp only [bne_iff_ne] at h;simp [Key.lt,h]
theorem lt2 {a b c d a' b' c' d' : Int} (h : (a != a') = false) (h2 : (b != b') = true) : decide (b < b') = Key.lt ⟨a,b,c,d⟩ ⟨a',b',c',d'⟩:=by
 simp only [bne_eq_false_iff_eq,bne_iff_ne] at h h2;simp [Key.lt,h,h2]
theorem lt3 {a b c d a' b' c' d' : Int} (h : (a != a') = false) (h2 : (b != b') = false) (h3 : (c != c') = true) : decide (c < c') = Key.lt ⟨a,b,c,d⟩ ⟨a',b',c',d'⟩:=by
 simp only [bne_eq_false_iff_eq,bne_iff_ne] at h h2 h3;simp [Key.lt,h,h2,h3]
theorem lt4 {a b c d a' b' c' d' : Int} (h : (a != a') = false) (h2 : (b != b') = false) (h3 : (c != c') = false) : decide (d < d') = Key.lt ⟨a,b,c,d⟩ ⟨a',b',c',d'⟩:=by
 simp only [bne_eq_false_iff_eq] at h h2 h3;simp [Key.lt,h,h2,h3]
theorem bcell {W w1 : World} (hb : Below W.heap.size W w1) : (∀ b o,b < W.heap.size → w1.cell? ⟨b,o,none⟩ = W.cell? ⟨b,o,none⟩) ∧ (∀ b o,b < W.heap.size → w1.frozen? ⟨b,o,none⟩ = W.frozen? ⟨b,o,none⟩):=
 ⟨fun b o h=>hb.cell (p:=⟨b,o,none⟩) h,fun b o h=>hb.frozen (p:=⟨b,o,none⟩) h⟩
theorem ret_int {a b : Int} (h : a = b) : Ending.returned (.int .i64 a) = .returned (.int .i64 b):=by rw [h]
theorem before_calls (a b c d a' b' c' d' : Int) (w : World) :
 Calls Tryz.prog 114 #[.agg #[.int .i64 a,.int .i64 b,.int .i64 c,.int .i64 d],.agg #[.int .i64 a',.int .i64 b',.int .i64 c',.int .i64 d']] w fun e w'=>e = .returned (.bool (Key.lt ⟨a,b,c,d⟩ ⟨a',b',c',d'⟩)) ∧ Below w.heap.size w w':=by
 go_enter Tryz.func114,Tryz.ntmps114
 go_wp2
 all_goals go_ret
 all_goals refine ⟨ret_bool ?_,by exact ((Below.refl _ w).alloc (Nat.le_refl _) _).alloc (by simp) _⟩
 · exact lt1 ‹_›
 · exact lt2 ‹_› ‹_›
 · exact lt3 ‹_› ‹_› ‹_›
 · exact lt4 ‹_› ‹_› ‹_›
theorem compare_calls (a b c d a' b' c' d' : Int) (w : World) :
 Calls Tryz.prog 73 #[.agg #[.int .i64 a,.int .i64 b,.int .i64 c,.int .i64 d],.agg #[.int .i64 a',.int .i64 b',.int .i64 c',.int .i64 d']] w fun e w'=>e = .returned (.int .i64 (Key.cmp ⟨a,b,c,d⟩ ⟨a',b',c',d'⟩)) ∧ Below w.heap.size w w':=by
 go_enter Tryz.func73,Tryz.ntmps73
 go_wp2_with fail
 refine (before_calls _ _ _ _ _ _ _ _ _).mono ?_
 rintro e w1 ⟨rfl,hb1⟩
 have hc:=(bcell hb1).1
 go_wp2_with (go_at_call 114;refine (before_calls _ _ _ _ _ _ _ _ _).mono ?_;rintro e w2 ⟨rfl,hb2⟩)
 all_goals go_ret
 · refine ⟨ret_int (by rw [Key.cmp,if_pos ‹_›]),?_⟩
   exact (((Below.refl _ w).alloc (Nat.le_refl _) _).alloc (by simp) _).trans (hb1.mono (by simp;omega))
 · refine ⟨ret_int (by rw [Key.cmp,if_neg (by simp [*]),if_pos ‹_›]),?_⟩
   exact ((((Below.refl _ w).alloc (Nat.le_refl _) _).alloc (by simp) _).trans (hb1.mono (by simp;omega))).trans (hb2.mono (by have:=hb1.size;simp at this;omega))
 · refine ⟨ret_int (by rw [Key.cmp,if_neg (by simp [*]),if_neg (by simp [*])]),?_⟩
   exact ((((Below.refl _ w).alloc (Nat.le_refl _) _).alloc (by simp) _).trans (hb1.mono (by simp;omega))).trans (hb2.mono (by have:=hb1.size;simp at this;omega))
end Go.Proofs.YtmjljoaakdocaaaGreatDoor
/- Plain facts about messages that undo one another: no program in sight. -/
namespace Go.Proofs.YtmjljoaakdocaaaGreatDoor
structure Event where
 key : Key
 dst : Int
 kind : Int
 data : Int
 deriving DecidableEq
structure Message where
 ev : Event
 anti : Bool
 deriving DecidableEq
instance : Inhabited Key:=⟨⟨0,0,0,0⟩⟩
instance : Inhabited Event:=⟨⟨default,0,0,0⟩⟩
instance : Inhabited Message:=⟨⟨default,false⟩⟩
def Event.cells (e : Event) : List Value:=[.int .i64 e.key.at_,.int .i64 e.key.src,.int .i64 e.key.sent,.int .i64 e.key.no,.int .i64 e.dst,.int .i64 e.kind,.int .i64 e.data]
def Message.cells (m : Message) : List Value:=[.int .i64 m.ev.key.at_,.int .i64 m.ev.key.src,.int .i64 m.ev.key.sent,.int .i64 m.ev.key.no,.int .i64 m.ev.dst,.int .i64 m.ev.kind,.int .i64 m.ev.data,.bool m.anti]
def meets (a b : Message) : Bool:=(a.anti != b.anti) && decide (a.ev = b.ev)
def sameId (a b : Event) : Bool:=(a.key.src == b.key.src) && (a.key.sent == b.key.sent) && (a.key.no == b.key.no)
def Bad (l : List Message) : Prop:=∃ (i k : Nat) (a b : Message),i ≠ k ∧ l[i]? = some a ∧ l[k]? = some b ∧ sameId a.ev b.ev = true ∧ meets a b = false
def Alone (l : List Message) (i : Nat) : Prop:=∀ (k : Nat) (a b : Message),k ≠ i → l[i]? = some a → l[k]? = some b → sameId a.ev b.ev = false
structure Places (l : List Message) (p : List Nat) : Prop where
 perm : p.Perm (List.range l.length)
 near : ∀ (q r s : Nat) (x y z : Nat) (a b c : Message),q < r → r < s → p[q]? = some x → p[r]? = some y → p[s]? = some z → l[x]? = some a → l[y]? = some b → l[z]? = some c → sameId a.ev c.ev = true → sameId a.ev b.ev = true
structure Met (l : List Message) (p : List Nat) (i : Nat) (met : List Bool) : Prop where
 len : met.length = l.length
 iff : ∀ (x : Nat) (a : Message),l[x]? = some a → (met[x]? = some true ↔ ∃ (q r y : Nat) (b : Message),q < i ∧ r < i ∧ q ≠ r ∧ p[q]? = some x ∧ p[r]? = some y ∧ l[y]? = some b ∧ sameId a.ev b.ev = true)
 good : ∀ (q r x y : Nat) (a b : Message),q < i → r < i → q ≠ r → p[q]? = some x → p[r]? = some y → l[x]? = some a → l[y]? = some b → sameId a.ev b.ev = true → meets a b = true
section
variable {l : List Message} {p : List Nat} {i : Nat} {met : List Bool} {x y : Nat} {a b : Message}
end
end Go.Proofs.YtmjljoaakdocaaaGreatDoor
/- A state of memory as a list of things that lie apart: one hypothesis for a whole walk. Over any program. -/
namespace Go.Proofs.YtmjljoaakdocaaaGreatDoor.Mem
open Go Go.RowKit
open List (set_cons_succ set_cons_zero setIfInBounds_toArray cons_append nil_append)
structure Asn where
 sh : Bool
 at_ : World → (Nat → Prop) → Prop
 loc : ∀ {w w' : World} {F : Nat → Prop},at_ w F → (∀ b,F b → w'.heap[b]? = w.heap[b]?) → at_ w' F
 lt : ∀ {w : World} {F : Nat → Prop},at_ w F → ∀ b,F b → b < w.heap.size
structure St (G : Nat → Prop) (w0 w : World) (L : List Asn) : Prop where
 keep : Keep G w0 w
 ex : ∃ Fs : Nat → Nat → Prop,(∀ i A,L[i]? = some A → A.at_ w (Fs i) ∧ (A.sh = false → ∀ b,Fs i b → G b ∨ w0.heap.size ≤ b)) ∧
  ∀ i j A B,i < j → L[i]? = some A → L[j]? = some B → (A.sh = true ∧ B.sh = true) ∨ ∀ b,Fs i b → ¬ Fs j b
section
variable {G : Nat → Prop} {w0 w w' : World} {L : List Asn} {A A' : Asn} {i : Nat}
theorem St.init (G : Nat → Prop) (w : World) : St G w w []:=⟨Keep.refl _ _,fun _ _=>False,fun i A h=>by simp at h,fun i j A B _ h=>by simp at h⟩
theorem St.get (S : St G w0 w L) (hi : L[i]? = some A) : ∃ F,A.at_ w F:=let ⟨Fs,h,_⟩:=S.ex;⟨Fs i,(h i A hi).1⟩
theorem St.ext (S : St G w0 w L) (hK : Keep (fun _=>False) w w') : St G w0 w' L:=by
 obtain ⟨Fs,h,hd⟩:=S.ex
 exact ⟨S.keep.trans hK (fun _ _ h=>⟨h,id⟩),Fs,fun i A hi=>⟨A.loc (h i A hi).1 (fun b hb=>hK.block b (A.lt (h i A hi).1 b hb) id),(h i A hi).2⟩,hd⟩
theorem St.below (S : St (fun _=>False) w0 w L) : Below w0.heap.size w0 w:=S.keep.below
theorem St.size (S : St G w0 w L) : w0.heap.size ≤ w.heap.size:=S.keep.size
theorem St.grow {F : Nat → Prop} (S : St G w0 w L) (hK : Keep (fun _=>False) w w') (hA : A.at_ w' F) (hF : ∀ b,F b → w.heap.size ≤ b) : St G w0 w' (A :: L):=by
 obtain ⟨Fs,h,hd⟩:=S.ex
 refine ⟨(S.ext hK).keep,fun i=>match i with | 0=>F | i + 1=>Fs i,fun i B hi=>?_,fun i j B C hij hi hj=>?_⟩
 · cases i with
   | zero=>simp at hi;subst hi;exact ⟨hA,fun _ b hb=>.inr (Nat.le_trans S.size (hF b hb))⟩
   | succ i=>
     simp at hi
     exact ⟨B.loc (h i B hi).1 (fun b hb=>hK.block b (B.lt (h i B hi).1 b hb) id),(h i B hi).2⟩
 · cases j with
   | zero=>omega
   | succ j=>
     simp at hj
     cases i with
     | zero=>exact .inr fun b hb hb'=>by have:=hF b hb;have:=C.lt (h j C hj).1 b hb';omega
     | succ i=>simp at hi;exact hd i j B C (by omega) hi hj
theorem St.step (S : St G w0 w L) (hi : L[i]? = some A) (ho : A.sh = false) (h : ∀ F,A.at_ w F → ∃ F',Keep F w w' ∧ A'.at_ w' F' ∧ ∀ b,F' b → F b ∨ w.heap.size ≤ b) : St G w0 w' (L.set i A'):=by
 obtain ⟨Fs,hf,hd⟩:=S.ex
 obtain ⟨F',hK,hA',hF'⟩:=h (Fs i) (hf i A hi).1
 have hil:=(List.getElem?_eq_some_iff.1 hi).1
 have hnew : ∀ b,F' b → Fs i b ∨ w.heap.size ≤ b:=hF'
 have apart : ∀ j B,j ≠ i → L[j]? = some B → ∀ b,Fs j b → ¬ Fs i b:=by
  intro j B hj hB b hb hb'
  rcases Nat.lt_or_gt_of_ne hj with h | h
  · rcases hd j i B A h hB hi with ⟨_,e⟩ | e
    · rw [ho] at e;cases e
    · exact e b hb hb'
  · rcases hd i j A B h hi hB with ⟨e,_⟩ | e
    · rw [ho] at e;cases e
    · exact e b hb' hb
 refine ⟨S.keep.trans hK (fun x hx hn=>⟨hn,fun hb=>?_⟩),fun j=>if j = i then F' else Fs j,fun j B hj=>?_,fun j k B C hjk hj hk=>?_⟩
 · rcases (hf i A hi).2 ho x hb with h | h
   · exact hn h
   · omega
 · by_cases e : j = i
   · subst e
     rw [List.getElem?_set_self hil] at hj
     cases hj
     simp only [if_true]
     refine ⟨hA',fun _ b hb=>?_⟩
     rcases hnew b hb with h | h
     · exact (hf j A hi).2 ho b h
     · exact .inr (Nat.le_trans S.size h)
   · rw [List.getElem?_set_ne (Ne.symm e)] at hj
     simp only [if_neg e]
     exact ⟨B.loc (hf j B hj).1 (fun b hb=>hK.block b (B.lt (hf j B hj).1 b hb) (apart j B e hj b hb)),(hf j B hj).2⟩
 · by_cases e : j = i
   · subst e
     have e' : k ≠ j:=by omega
     rw [List.getElem?_set_ne (Ne.symm e')] at hk
     simp only [if_true,if_neg e']
     refine .inr fun b hb hb'=>?_
     rcases hnew b hb with h | h
     · exact apart k C e' hk b hb' h
     · have:=C.lt (hf k C hk).1 b hb';omega
   · rw [List.getElem?_set_ne (Ne.symm e)] at hj
     by_cases e' : k = i
     · subst e'
       simp only [if_true,if_neg e]
       refine .inr fun b hb hb'=>?_
       rcases hnew b hb' with h | h
       · exact apart j B e hj b hb h
       · have:=B.lt (hf j B hj).1 b hb;omega
     · rw [List.getElem?_set_ne (Ne.symm e')] at hk
       simp only [if_neg e,if_neg e']
       exact hd j k B C hjk hj hk
def nth : List Asn → Nat → Option Asn
 | [],_=>none
 | A :: _,0=>some A
 | _ :: L,n + 1=>nth L n
theorem nth_get : ∀ (L : List Asn) (i : Nat),nth L i = L[i]?
 | [],_=>by simp [nth]
 | _ :: _,0=>rfl
 | _ :: L,n + 1=>by simp [nth,nth_get L n]
def pick (L : List Asn) : List Nat → List Asn
 | []=>[]
 | i :: l=>match nth L i with | some A=>A :: pick L l | none=>pick L l
def inB (L : List Asn) : List Nat → Bool
 | []=>true
 | i :: l=>(match nth L i with | some _=>true | none=>false) && !l.contains i && inB L l
theorem pick_get {L : List Asn} : ∀ {l : List Nat},inB L l = true → ∀ (k : Nat) A,(pick L l)[k]? = some A → ∃ i,l[k]? = some i ∧ L[i]? = some A
 | [],_,k,A,h=>by simp [pick] at h
 | i :: l,hb,k,A,h=>by
   simp only [inB,Bool.and_eq_true] at hb
   cases hn : nth L i with
   | none=>rw [hn] at hb;simp at hb
   | some B=>
     simp only [pick,hn] at h
     cases k with
     | zero=>simp at h;subst h;exact ⟨i,rfl,by rw [← nth_get];exact hn⟩
     | succ k=>simp at h;simpa using pick_get hb.2 k A h
theorem inB_nodup {L : List Asn} : ∀ {l : List Nat},inB L l = true → l.Nodup
 | [],_=>List.nodup_nil
 | i :: l,h=>by
   simp only [inB,Bool.and_eq_true,Bool.not_eq_true',List.contains_eq_mem,decide_eq_false_iff_not] at h
   exact List.nodup_cons.2 ⟨h.1.2,inB_nodup h.2⟩
theorem St.pick (S : St G w0 w L) (l : List Nat) (hb : inB L l = true) : St G w0 w (pick L l):=by
 obtain ⟨Fs,hf,hd⟩:=S.ex
 have hn:=inB_nodup hb
 refine ⟨S.keep,fun k=>Fs (l.getD k 0),fun k A hk=>?_,fun j k A B hjk hj hk=>?_⟩
 · obtain ⟨i,h1,h2⟩:=pick_get hb k A hk
   simp only [List.getD,h1,Option.getD_some]
   exact hf i A h2
 · obtain ⟨a,h1,h2⟩:=pick_get hb j A hj
   obtain ⟨b,g1,g2⟩:=pick_get hb k B hk
   simp only [List.getD,h1,g1,Option.getD_some]
   have hab : a ≠ b:=fun e=>by
    obtain ⟨x1,x2⟩:=List.getElem?_eq_some_iff.1 h1
    obtain ⟨y1,y2⟩:=List.getElem?_eq_some_iff.1 g1
    have:=(List.getElem_inj hn).1 (x2.trans (e.trans y2.symm))
    omega
   rcases Nat.lt_or_gt_of_ne hab with h | h
   · exact hd a b A B h h2 g2
   · rcases hd b a B A h g2 h2 with ⟨e1,e2⟩ | e
     · exact .inl ⟨e2,e1⟩
     · exact .inr fun x hx hx'=>e x hx' hx
theorem St.share {F : Nat → Prop} (S : St G w0 w L) (hsh : A.sh = true) (hall : L.all (·.sh) = true) (hA : A.at_ w F) : St G w0 w (A :: L):=by
 obtain ⟨Fs,h,hd⟩:=S.ex
 rw [List.all_eq_true] at hall
 refine ⟨S.keep,fun i=>match i with | 0=>F | i + 1=>Fs i,fun i B hi=>?_,fun i j B C hij hi hj=>?_⟩
 · cases i with
   | zero=>simp at hi;subst hi;exact ⟨hA,fun e=>by rw [hsh] at e;cases e⟩
   | succ i=>simp at hi;exact h i B hi
 · cases j with
   | zero=>omega
   | succ j=>
     simp at hj
     cases i with
     | zero=>simp at hi;subst hi;exact .inl ⟨hsh,hall C (List.mem_of_getElem? hj)⟩
     | succ i=>simp at hi;exact hd i j B C (by omega) hi hj
theorem St.one {F : Nat → Prop} (w : World) (hA : A.at_ w F) : St F w w [A]:=
 ⟨Keep.refl _ _,fun _=>F,fun i B hi=>by
   cases i with
   | zero=>simp at hi;subst hi;exact ⟨hA,fun _ b hb=>.inl hb⟩
   | succ i=>simp at hi,fun i j B C hij hi hj=>by
   cases j with
   | zero=>omega
   | succ j=>simp at hj⟩
theorem St.join {N : List Asn} (S : St G w0 w L) (T : St (fun _=>False) w w' N) (hN : N.all (fun A=>!A.sh) = true) : St G w0 w' (N ++ L):=by
 obtain ⟨Fs,h0,hd⟩:=S.ex
 obtain ⟨Gs,g,gd⟩:=T.ex
 rw [List.all_eq_true] at hN
 have own : ∀ (i : Nat) (A : Asn),N[i]? = some A → A.sh = false:=fun i A hi=>by simpa using hN A (List.mem_of_getElem? hi)
 have hK:=T.keep
 refine ⟨S.keep.trans hK (fun _ _ h=>⟨h,id⟩),fun i=>if i < N.length then Gs i else Fs (i - N.length),fun i A hi=>?_,fun i j A B hij hi hj=>?_⟩
 · by_cases e : i < N.length
   · rw [List.getElem?_append_left e] at hi
     simp only [if_pos e]
     refine ⟨(g i A hi).1,fun ho b hb=>?_⟩
     rcases (g i A hi).2 ho b hb with h | h
     · exact h.elim
     · exact .inr (Nat.le_trans S.size h)
   · rw [List.getElem?_append_right (by omega)] at hi
     simp only [if_neg e]
     exact ⟨A.loc (h0 _ A hi).1 (fun b hb=>hK.block b (A.lt (h0 _ A hi).1 b hb) id),(h0 _ A hi).2⟩
 · by_cases e : i < N.length
   · rw [List.getElem?_append_left e] at hi
     by_cases e' : j < N.length
     · rw [List.getElem?_append_left e'] at hj
       simp only [if_pos e,if_pos e']
       exact gd i j A B hij hi hj
     · rw [List.getElem?_append_right (by omega)] at hj
       simp only [if_pos e,if_neg e']
       refine .inr fun b hb hb'=>?_
       rcases (g i A hi).2 (own i A hi) b hb with h | h
       · exact h
       · have:=B.lt (h0 _ B hj).1 b hb';omega
   · rw [List.getElem?_append_right (by omega)] at hi hj
     simp only [if_neg e,if_neg (show ¬ j < N.length by omega)]
     exact hd _ _ A B (by omega) hi hj
theorem St.lend (S : St G w0 w L) (ow ro kp : List Nat) (hb : inB L (ow ++ ro) = true) (hro : (Mem.pick L ro).all (·.sh) = true) (hkp : inB L (ow ++ kp) = true) :
 ∃ F,St F w w (Mem.pick L (ow ++ ro)) ∧ ∀ w' N,St F w w' N → N.all (fun A=>!A.sh) = true → St G w0 w' (N ++ Mem.pick L kp):=by
 obtain ⟨Fs,hf,hd⟩:=S.ex
 have hn:=inB_nodup hb
 have hn2:=List.nodup_append.1 (inB_nodup hkp)
 have inB_right : ∀ l : List Nat,inB L (l ++ kp) = true → inB L kp = true:=by
  intro l
  induction l with
  | nil=>exact id
  | cons q l ih=>intro h;simp only [cons_append,inB,Bool.and_eq_true] at h;exact ih h.2
 have hkp':=inB_right ow hkp
 let F : Nat → Prop:=fun b=>∃ i A,i ∈ ow ∧ L[i]? = some A ∧ A.sh = false ∧ Fs i b
 have picks:=(S.pick (ow ++ ro) hb).ex
 rw [List.all_eq_true] at hro
 have proper : ∀ k A,(Mem.pick L (ow ++ ro))[k]? = some A → ∃ i,(ow ++ ro)[k]? = some i ∧ L[i]? = some A:=fun k A h=>pick_get hb k A h
 have inro : ∀ i A,i ∈ ro → L[i]? = some A → A.sh = true:=by
  intro i A hi hA
  have : A ∈ Mem.pick L ro:=by
   have key : ∀ l : List Nat,i ∈ l → A ∈ Mem.pick L l:=by
    intro l
    induction l with
    | nil=>intro h;cases h
    | cons j l ih=>
      intro h
      unfold Mem.pick
      rcases List.mem_cons.1 h with rfl | h
      · rw [nth_get,hA];simp
      · cases hnj : nth L j with
        | none=>exact ih h
        | some B=>exact List.mem_cons_of_mem _ (ih h)
   exact key ro hi
  exact hro A this
 have cross : ∀ a b A B,a ≠ b → L[a]? = some A → L[b]? = some B → (A.sh = true ∧ B.sh = true) ∨ ∀ x,Fs a x → ¬ Fs b x:=by
  intro a b A B hab hA hB
  rcases Nat.lt_or_gt_of_ne hab with h | h
  · exact hd a b A B h hA hB
  · rcases hd b a B A h hB hA with ⟨e1,e2⟩ | e
    · exact .inl ⟨e2,e1⟩
    · exact .inr fun x hx hx'=>e x hx' hx
 refine ⟨F,⟨Keep.refl _ _,fun k=>Fs ((ow ++ ro).getD k 0),fun k A hk=>?_,fun j k A B hjk hj hk=>?_⟩,fun w' N T hN=>?_⟩
 · obtain ⟨i,h1,h2⟩:=proper k A hk
   simp only [List.getD,h1,Option.getD_some]
   refine ⟨(hf i A h2).1,fun ho b hb'=>.inl ⟨i,A,?_,h2,ho,hb'⟩⟩
   rcases List.mem_append.1 (List.mem_of_getElem? h1) with h | h
   · exact h
   · rw [inro i A h h2] at ho;cases ho
 · obtain ⟨a,h1,h2⟩:=proper j A hj
   obtain ⟨b,g1,g2⟩:=proper k B hk
   simp only [List.getD,h1,g1,Option.getD_some]
   refine cross a b A B (fun e=>?_) h2 g2
   obtain ⟨x1,x2⟩:=List.getElem?_eq_some_iff.1 h1
   obtain ⟨y1,y2⟩:=List.getElem?_eq_some_iff.1 g1
   have:=(List.getElem_inj hn).1 (x2.trans (e.trans y2.symm))
   omega
 · obtain ⟨Gs,g,gd⟩:=T.ex
   have hK:=T.keep
   rw [List.all_eq_true] at hN
   have own : ∀ (i : Nat) (A : Asn),N[i]? = some A → A.sh = false:=fun i A hi=>by simpa using hN A (List.mem_of_getElem? hi)
   have left : ∀ (k : Nat) (A : Asn),(Mem.pick L kp)[k]? = some A → ∃ i : Nat,kp[k]? = some i ∧ L[i]? = some A ∧ i ∉ ow:=by
    intro k A hk
    obtain ⟨i,h1,h2⟩:=pick_get hkp' k A hk
    exact ⟨i,h1,h2,fun h=>hn2.2.2 i h i (List.mem_of_getElem? h1) rfl⟩
   have notF : ∀ i A,L[i]? = some A → i ∉ ow → ∀ b,Fs i b → ¬ F b:=by
    rintro i A hA hi b hb' ⟨j,B,hj,hB,ho,hb2⟩
    rcases cross i j A B (fun e=>hi (e ▸ hj)) hA hB with ⟨_,e⟩ | e
    · rw [ho] at e;cases e
    · exact e b hb' hb2
   refine ⟨S.keep.trans hK (fun x hx hn=>⟨hn,?_⟩),fun i=>if i < N.length then Gs i else Fs (kp.getD (i - N.length) 0),fun i A hi=>?_,fun i j A B hij hi hj=>?_⟩
   · rintro ⟨i,A,_,hA,ho,hx'⟩
     rcases (hf i A hA).2 ho x hx' with h | h
     · exact hn h
     · omega
   · by_cases e : i < N.length
     · rw [List.getElem?_append_left e] at hi
       simp only [if_pos e]
       refine ⟨(g i A hi).1,fun ho b hb'=>?_⟩
       rcases (g i A hi).2 ho b hb' with ⟨j,B,_,hB,ho',hx⟩ | h
       · exact (hf j B hB).2 ho' b hx
       · exact .inr (Nat.le_trans S.size h)
     · rw [List.getElem?_append_right (by omega)] at hi
       simp only [if_neg e]
       obtain ⟨j,h1,h2,h3⟩:=left _ A hi
       simp only [List.getD,h1,Option.getD_some]
       exact ⟨A.loc (hf j A h2).1 (fun b hb'=>hK.block b (A.lt (hf j A h2).1 b hb') (notF j A h2 h3 b hb')),(hf j A h2).2⟩
   · by_cases e : i < N.length
     · rw [List.getElem?_append_left e] at hi
       by_cases e' : j < N.length
       · rw [List.getElem?_append_left e'] at hj
         simp only [if_pos e,if_pos e']
         exact gd i j A B hij hi hj
       · rw [List.getElem?_append_right (by omega)] at hj
         simp only [if_pos e,if_neg e']
         obtain ⟨q,h1,h2,h3⟩:=left _ B hj
         simp only [List.getD,h1,Option.getD_some]
         refine .inr fun b hb' hb2=>?_
         rcases (g i A hi).2 (own i A hi) b hb' with h | h
         · exact notF q B h2 h3 b hb2 h
         · have:=B.lt (hf q B h2).1 b hb2;omega
     · rw [List.getElem?_append_right (by omega)] at hi hj
       simp only [if_neg e,if_neg (show ¬ j < N.length by omega)]
       obtain ⟨p,h1,h2,h3⟩:=left _ A hi
       obtain ⟨q,g1,g2,g3⟩:=left _ B hj
       simp only [List.getD,h1,g1,Option.getD_some]
       refine cross p q A B (fun e=>?_) h2 g2
       obtain ⟨x1,x2⟩:=List.getElem?_eq_some_iff.1 h1
       obtain ⟨y1,y2⟩:=List.getElem?_eq_some_iff.1 g1
       have:=(List.getElem_inj hn2.2.1).1 (x2.trans (e.trans y2.symm))
       omega
end
end Go.Proofs.YtmjljoaakdocaaaGreatDoor.Mem
/- Opening a law's arguments: a value that reads as data, of a type whose cells are all plain, or a slice of such; and the row's last step where all below is as it was. -/
namespace Go.Proofs.YtmjljoaakdocaaaGreatDoor.Mem
open Go.RowKit Go.WideShapes Go.ChangeShapes Go.Deep
open List (set_cons_succ set_cons_zero setIfInBounds_toArray cons_append nil_append)
section
variable {H : Type} {enc : TypeId × Value → H} {P : Program} {w : World} {base : Nat} {spare : Nat → Bool} {held : Bool}
def wfv : Value → Bool
 | .int k n=>(Lit.int k n).wf
 | .string s=>decide (s.size ≤ maxLen)
 | _=>true
theorem fits_join : ∀ {ks ls : List TypeDesc} {vs us : List Value},fits ks vs = true → fits ls us = true → fits (ks ++ ls) (vs ++ us) = true
 | [],_,[],_,_,h=>h
 | k :: ks,ls,v :: vs,us,h,h2=>by
   simp only [fits,Bool.and_eq_true,cons_append] at h ⊢
   exact ⟨h.1,fits_join h.2 h2⟩
 | [],_,_ :: _,_,h,_=>by simp [fits] at h
 | _ :: _,_,[],_,h,_=>by simp [fits] at h
theorem trod_flat : ∀ (d : Nat) (t : TypeId) (ks : List TypeDesc),lay P d t = some ks → P.cellsOf t = ks.length → ∀ (fuel : Nat) (cs : List Value) (x : DataW H × List MemPlace),
 DataW.trod enc P w base spare held fuel t cs = some x → fits ks cs = true ∧ ∀ v ∈ cs,wfv v = true
 | 0,_,_,h,_,_,_,_,_=>by cases h
 | d + 1,t,ks,h,hc,fuel,cs,x,hx=>by
   unfold lay at h
   cases hu : P.underlying t with
   | none=>rw [hu] at h;cases h
   | some u=>
     rw [hu] at h
     cases u <;> simp only [reduceCtorEq,Option.some.injEq] at h
     case int k=>
      subst h
      obtain ⟨n,rfl,_,hw⟩:=DataW.trod_int hu hx
      exact ⟨by simp [fits,fit],fun v hv=>by obtain rfl : v = _:=by simpa using hv
                                             simpa [wfv] using hw⟩
     case string=>
      subst h
      obtain ⟨s,rfl,_,hs⟩:=DataW.trod_string hu hx
      exact ⟨by simp [fits,fit],fun v hv=>by obtain rfl : v = _:=by simpa using hv
                                             simpa [wfv] using hs⟩
     case bool=>
      subst h
      obtain ⟨b,rfl,_⟩:=DataW.trod_bool hu hx
      exact ⟨by simp [fits,fit],fun v hv=>by obtain rfl : v = _:=by simpa using hv
                                             rfl⟩
     case struct fs=>
      split at h
      · cases h
      · obtain ⟨xs,n,rfl,_,hlen,hxl,hf⟩:=DataW.trod_struct hu hx
        have key : ∀ (l : List Field) (i off : Nat) (ks : List TypeDesc),(∀ j f,l[j]? = some f → fs[i + j]? = some f) → layFields P (lay P d) l off = some ks → off + ks.length ≤ cs.length →
         fits ks ((cs.drop off).take ks.length) = true ∧ ∀ v ∈ (cs.drop off).take ks.length,wfv v = true:=by
         intro l
         induction l with
         | nil=>intro i off ks _ h _;simp only [layFields,Option.some.injEq] at h;subst h;simp [fits]
         | cons f l ih=>
           intro i off ks hl h hle
           unfold layFields at h
           split at h
           · cases h
           · rename_i hno
             have hoff : f.offset = off:=by have:=not_or.1 hno;exact Decidable.not_not.1 this.2
             split at h
             · cases h
             · rename_i k1 hk1
               split at h
               · cases h
               · rename_i hsz
                 have hsz':=Decidable.not_not.1 hsz
                 split at h
                 · cases h
                 · rename_i r hr
                   simp only [Option.some.injEq] at h
                   subst h
                   rw [List.length_append] at hle
                   have hfi : fs[i]? = some f:=hl 0 f rfl
                   have h1:=hf i f hfi
                   obtain ⟨y,hy⟩ : ∃ y,xs[i]? = some y:=⟨_,List.getElem?_eq_getElem (by rw [hxl];exact (Array.getElem?_eq_some_iff.1 hfi).1)⟩
                   rw [hy,hoff,hsz'] at h1
                   have a1:=trod_flat d f.type k1 hk1 hsz' n _ y h1
                   have a2:=ih (i + 1) (off + k1.length) r (fun j g hg=>by have:=hl (j + 1) g (by simpa using hg);rwa [show i + 1 + j = i + (j + 1) by omega]) hr (by omega)
                   have e : (cs.drop off).take (k1 ++ r).length = (cs.drop off).take k1.length ++ (cs.drop (off + k1.length)).take r.length:=by
                    rw [List.length_append,List.take_add,List.drop_drop]
                   rw [e]
                   exact ⟨fits_join a1.1 a2.1,fun v hv=>(List.mem_append.1 hv).elim (a1.2 v) (a2.2 v)⟩
        have:=key fs.toList 0 0 ks (fun j f hj=>by simpa using hj) h (by omega)
        rw [List.drop_zero,List.take_of_length_le (by omega)] at this
        exact this
     case array m e=>
      cases hd : lay P d e with
      | none=>rw [hd] at h;cases h
      | some k1=>
        rw [hd] at h
        simp only at h
        split at h
        · cases h
        · rename_i hsz
          have hsz':=Decidable.not_not.1 hsz
          simp only [Option.some.injEq] at h
          obtain ⟨xs,n,rfl,_,hlen,hxl,hf⟩:=DataW.trod_array hu hx
          have key : ∀ (q i : Nat),i + q ≤ m → fits (List.replicate q k1).flatten ((cs.drop (i * k1.length)).take (q * k1.length)) = true ∧ ∀ v ∈ (cs.drop (i * k1.length)).take (q * k1.length),wfv v = true:=by
           intro q
           induction q with
           | zero=>intro i _;simp [fits]
           | succ q ih=>
             intro i hi
             have h1:=hf i (by omega)
             obtain ⟨y,hy⟩ : ∃ y,xs[i]? = some y:=⟨_,List.getElem?_eq_getElem (by omega)⟩
             rw [hy,hsz'] at h1
             have a1:=trod_flat d e k1 hd hsz' n _ y h1
             have a2:=ih (i + 1) (by omega)
             have e : (cs.drop (i * k1.length)).take ((q + 1) * k1.length) = (cs.drop (i * k1.length)).take k1.length ++ (cs.drop ((i + 1) * k1.length)).take (q * k1.length):=by
              rw [show (q + 1) * k1.length = k1.length + q * k1.length by rw [Nat.add_mul];omega,List.take_add,List.drop_drop,show (i + 1) * k1.length = i * k1.length + k1.length by rw [Nat.add_mul];omega]
             rw [e,List.replicate_succ,List.flatten_cons]
             exact ⟨fits_join a1.1 a2.1,fun v hv=>(List.mem_append.1 hv).elim (a1.2 v) (a2.2 v)⟩
          have:=key m 0 (by omega)
          subst h
          have hl2 : ((List.replicate m k1).flatten).length = m * k1.length:=by simp
          rw [hl2] at hc
          rw [Nat.zero_mul,List.drop_zero,List.take_of_length_le (by omega)] at this
          exact this
theorem open_slice_flat {t e : TypeId} {ks : List TypeDesc} {α : Type} (en : α → List Value) (ok : α → Prop) (ht : P.underlying t = some (.slice e)) (hl : lay P 100 e = some ks) (hk : P.cellsOf e = ks.length) (h0 : 0 < ks.length)
 (dec : ∀ vs,fits ks vs = true → (∀ v ∈ vs,wfv v = true) → ∃ x : α,en x = vs ∧ ok x) {fuel : Nat} {cs : List Value} {x : DataW H × List MemPlace} (h : DataW.trod enc P w base spare held fuel t cs = some x) :
 ∃ (a : Option Addr) (c : Nat) (xs : List α),cs = [.slice a xs.length c] ∧ xs.length ≤ c ∧ c ≤ maxLen ∧ (a = none → xs = [] ∧ c = 0) ∧ (∀ y ∈ xs,ok y) ∧
  ∀ (i : Nat) y,xs[i]? = some y → ∃ R o,a = some ⟨R,o,none⟩ ∧ ∀ j u,(en y)[j]? = some u → w.cell? ⟨R,o + i * ks.length + j,none⟩ = some u:=by
 rcases open_slice ht h with ⟨rfl,_⟩ | ⟨a,len,cap,m,n,D,Pl,rfl,_,hlc,hcm,hm,_,hx⟩
 · exact ⟨none,0,[],rfl,Nat.le_refl _,by simp [maxLen],fun _=>⟨rfl,rfl⟩,fun _ h=>(by cases h),fun i y h=>(by simp at h)⟩
 · have hlm : len ≤ m:=by rw [hm];split <;> omega
   have each : ∀ i,i < len → ∃ y : α,ok y ∧ ∃ R o,a = ⟨R,o,none⟩ ∧ ∀ j u,(en y)[j]? = some u → w.cell? ⟨R,o + i * ks.length + j,none⟩ = some u:=by
    intro i hi
    obtain ⟨vs,h1,h2⟩:=hx i (by omega)
    obtain ⟨hf,hw⟩:=trod_flat 100 e ks hl hk n vs _ h2
    obtain ⟨y,hy,hok⟩:=dec vs hf hw
    obtain ⟨_,hlen,hcell⟩:=World.cells?_some h1
    rw [hk] at hlen hcell
    refine ⟨y,hok,a.block,a.off,?_,fun j u hj=>?_⟩
    · have h3:=hcell 0 h0
      rw [List.getElem?_eq_getElem (by omega)] at h3
      obtain ⟨R,o,sp⟩:=a
      cases sp with
      | none=>rfl
      | some s=>
        exfalso
        have h4 : (((⟨R,o,some s⟩ : Addr).add (i * ks.length)).add 0) = (⟨R,o,some s⟩ : Addr).add (i * ks.length):=by simp [Addr.add]
        rw [h4] at h3
        have : ∃ q,w.cell? ((⟨R,o,some s⟩ : Addr).add 0) = some q:=by
         obtain ⟨vs0,g1,_⟩:=hx 0 (by omega)
         obtain ⟨_,gl,gc⟩:=World.cells?_some g1
         rw [hk] at gl gc
         have g3:=gc 0 h0
         rw [List.getElem?_eq_getElem (by omega)] at g3
         exact ⟨_,by simpa [Addr.add] using g3⟩
        obtain ⟨q,hq⟩:=this
        simp only [Addr.add,if_true,World.cell?] at hq
        split at hq <;> simp at hq
    · have hjl : j < ks.length:=by have:=(List.getElem?_eq_some_iff.1 hj).1;rw [hy] at this;omega
      have h3:=hcell j hjl
      rw [hy] at hj
      rw [hj] at h3
      have hsp : a.spot = none:=by
       obtain ⟨vs0,g1,_⟩:=hx 0 (by omega)
       obtain ⟨_,gl,gc⟩:=World.cells?_some g1
       rw [hk] at gl gc
       have g3:=gc 0 h0
       rw [List.getElem?_eq_getElem (by omega)] at g3
       simp only [Nat.zero_mul,Addr.add,if_true,World.cell?] at g3
       cases hs : a.spot with
       | none=>rfl
       | some s=>rw [hs] at g3;split at g3 <;> simp at g3
      rw [← h3]
      congr 1
      obtain ⟨R,o,sp⟩:=a
      simp only at hsp
      subst hsp
      unfold Addr.add
      split <;> split <;> simp_all
   have choose : ∀ n,n ≤ len → ∃ xs : List α,xs.length = n ∧ ∀ i y,xs[i]? = some y → ok y ∧ ∃ R o,a = ⟨R,o,none⟩ ∧ ∀ j u,(en y)[j]? = some u → w.cell? ⟨R,o + i * ks.length + j,none⟩ = some u:=by
    intro n
    induction n with
    | zero=>intro _;exact ⟨[],rfl,fun i y h=>by simp at h⟩
    | succ n ih=>
      intro hn
      obtain ⟨xs,hl,hxs⟩:=ih (by omega)
      obtain ⟨y,hy⟩:=each n (by omega)
      refine ⟨xs ++ [y],by simp [hl],fun i z hz=>?_⟩
      by_cases hi : i < n
      · rw [List.getElem?_append_left (by omega)] at hz
        exact hxs i z hz
      · have hi2 : i = n:=by have:=(List.getElem?_eq_some_iff.1 hz).1;simp at this;omega
        subst hi2
        rw [List.getElem?_append_right (by omega)] at hz
        simp [hl] at hz
        subst hz
        exact hy
   obtain ⟨xs,rfl,hxs⟩:=choose len (Nat.le_refl _)
   refine ⟨some a,cap,xs,rfl,hlc,hcm,fun h=>(by cases h),fun y hy=>?_,fun i y hi=>?_⟩
   · obtain ⟨i,hi,rfl⟩:=List.mem_iff_getElem.1 hy
     exact (hxs i _ (List.getElem?_eq_getElem hi)).1
   · obtain ⟨_,R,o,e,hc⟩:=hxs i y hi
     exact ⟨R,o,by rw [e],hc⟩
theorem post_of_below {f : Func} {s : ChangeSpec} {apart fresh handsOn again : Bool} {W W' : World} {args : Array Value} {v : Value} {ds gs : List (DataW H)} {before pa pv : List MemPlace}
 (hW : DataW.Whole enc P f.params.toList s.vars apart W args.toList ds gs before)
 (hres : ∀ (b : Nat) (sp : Nat → Bool) (hd : Bool),DataW.TrodAll enc P W' b sp hd f.resultTypes.toList (v.resultList f.resultTypes.size) (s.fn H (ds ++ gs)).results [])
 (hargs : ∀ sp : Nat → Bool,(∀ p ∈ before,sp p.block = true) → DataW.TrodAll enc P W' 0 sp true f.params.toList args.toList (s.fn H (ds ++ gs)).args pa)
 (hvars : ∀ sp : Nat → Bool,(∀ p ∈ before,sp p.block = true) → DataW.TrodVars enc P W' sp s.vars (s.fn H (ds ++ gs)).vars pv)
 (hps : before = pa ++ pv) (hb : Below W.heap.size W W')
 (hok : ∀ (j : Nat) (t : TypeId) (r : Value),f.resultTypes[j]? = some t → (v.resultList f.resultTypes.size)[j]? = some r → Value.okWide P W' .any 0 t r) :
 s.post enc P f apart fresh handsOn again W args v W':=by
 have hlt : ∀ p ∈ before,p.block < W.heap.size:=fun p hp=>hW.lt p hp
 have hold : ∀ p ∈ before,(fun b=>decide (b < W.heap.size)) p.block = true:=fun p hp=>by simpa using hlt p hp
 refine ⟨ds,gs,before,[],pa,pv,hW,hres _ _ _,hargs _ hold,hvars _ hold,World.keptBut_mono (fun p hp=>⟨hp,?_⟩) (hb.to.frame (· ∈ before)),fun _=>?_⟩
 · rw [hps,List.mem_append] at hp
   exact Or.inr hp
 · obtain ⟨_,_,_,_,_,hz,hn⟩:=hW
   refine ⟨hok,_,_,([] ++ pa) ++ pv,⟨[] ++ pa,pv,trodAll_append (hargs _ (fun _ _=>rfl)) (hres _ _ _),hvars _ (fun _ _=>rfl),rfl,?_,?_⟩,?_⟩
   · intro b off hp
     have hin : MemPlace.cell b off ∈ before:=by rw [hps];simpa using hp
     rw [hb.frozen (hlt _ hin)]
     exact hz b off hin
   · intro ha
     have:=hn ha
     rw [hps] at this
     simpa using this
   · intro p hp _
     rw [hps]
     simpa using hp
theorem trodAll_stays (hl : laidOutB P = true) {W W' : World} (hb : Below W.heap.size W W') {sp : Nat → Bool} : ∀ (ts : List TypeId) (vs : List Value) (ds : List (DataW H)) (ps : List MemPlace),
 ts.all (fun t=>P.readableRec t && decide (t < P.types.size)) = true → DataW.TrodAll enc P W 0 (fun _=>true) true ts vs ds ps → (∀ x ∈ ps,x.block < W.heap.size) → (∀ x ∈ ps,sp x.block = true) → DataW.TrodAll enc P W' 0 sp true ts vs ds ps
 | [],[],[],_,_,h,_,_=>h
 | t :: ts,v :: vs,d :: ds,ps,hr,h,hlt,hsp=>by
   obtain ⟨p,q,h1,h2,rfl⟩:=h
   simp only [List.all_cons,Bool.and_eq_true,decide_eq_true_eq] at hr
   refine ⟨p,q,?_,trodAll_stays hl hb ts vs ds q hr.2 h2 (fun x hx=>hlt x (List.mem_append_right _ hx)) (fun x hx=>hsp x (List.mem_append_right _ hx)),rfl⟩
   exact WideElems.Trod_stays hl hr.1.1 hr.1.2 h1 (fun x hx=>hb.to.same (hlt x (List.mem_append_left _ hx))) (fun x hx=>hsp x (List.mem_append_left _ hx))
 | [],[],_ :: _,_,_,h,_,_=>h.elim
 | [],_ :: _,_,_,_,h,_,_=>h.elim
 | _ :: _,[],_,_,_,h,_,_=>h.elim
 | _ :: _,_ :: _,[],_,_,h,_,_=>h.elim
theorem open_flat {t : TypeId} {fs : Array Field} {ks : List TypeDesc} {α : Type} {en : α → List Value} {ok : α → Prop} {w : World} {base : Nat} {spare : Nat → Bool} {held : Bool} {v : Value} {d : DataW H} {p : List MemPlace} {r : Reach} {base2 : Nat}
 (ht : P.underlying t = some (.struct fs)) (hl : lay P 100 t = some ks) (hk : P.cellsOf t = ks.length) (dec : ∀ vs,fits ks vs = true → (∀ v ∈ vs,wfv v = true) → ∃ x : α,en x = vs ∧ ok x)
 (h : DataW.Trod enc P w base spare held t v d p) (hv : Value.okWide P w r base2 t v) : ∃ x : α,v = .agg (en x).toArray ∧ ok x:=by
 obtain ⟨cs,rfl,_⟩:=okWide_struct ht hv
 obtain ⟨fuel,hf⟩:=h
 obtain ⟨h1,h2⟩:=trod_flat 100 t ks hl hk fuel _ _ hf
 obtain ⟨x,hx,hok⟩:=dec _ h1 h2
 exact ⟨x,by rw [hx];simp [Value.cells],hok⟩
end
end Go.Proofs.YtmjljoaakdocaaaGreatDoor.Mem
