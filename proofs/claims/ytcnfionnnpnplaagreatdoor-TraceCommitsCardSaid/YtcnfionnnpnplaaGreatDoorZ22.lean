import Derived.Test.YtcnfionnnpnplaaGreatDoorZ01
import Derived.Test.YtcnfionnnpnplaaGreatDoorZ04
/- A heap of rows by their keys, plain: what up and down do, and that what comes is in order. -/
namespace Go.Proofs.YtcnfionnnpnplaaGreatDoor
open Go.RowKit Reg Mem
open List (set_cons_succ set_cons_zero setIfInBounds_toArray cons_append nil_append)
abbrev Thing:=Event
structure Row where
 key : Key
 v : Thing
def foundR (s : List Row) (k : Key) : Option Row:=s.find? (fun x=>x.key = k)
def xch (rows : List Row) (i j : Nat) (r r' : Row) : List Row:=(rows.set i r').set j r
def posMap (rows : List Row) (k : Key) : Option Value:=(rows.findIdx? fun r=>r.key = k).map fun i=>.int .i64 (i : Int)
theorem posMap_some {rows : List Row} (hd : (rows.map (·.key)).Nodup) {i : Nat} {r : Row} (h : rows[i]? = some r) : posMap rows r.key = some (.int .i64 i):=by
 unfold posMap
 have : rows.findIdx? (fun x=>x.key = r.key) = some i:=by
  rw [List.findIdx?_eq_some_iff_getElem]
  obtain ⟨hi,he⟩:=List.getElem?_eq_some_iff.1 h
  refine ⟨hi,by simp [he],fun j hj=>?_⟩
  simp only [decide_eq_true_eq]
  intro e
  have h1 : (rows.map (·.key))[j]'(by simp;omega) = (rows.map (·.key))[i]'(by simpa using hi):=by simp [e,he]
  exact List.pairwise_iff_getElem.1 hd j i (by simp;omega) (by simpa using hi) hj h1
 rw [this];rfl
theorem posMap_none {rows : List Row} {k : Key} (h : k ∉ rows.map (·.key)) : posMap rows k = none:=by
 unfold posMap
 have : rows.findIdx? (fun x=>x.key = k) = none:=by
  rw [List.findIdx?_eq_none_iff]
  intro r hr
  simp only [decide_eq_false_iff_not]
  exact fun e=>h (List.mem_map.2 ⟨r,hr,e⟩)
 rw [this];rfl
theorem posMap_elim {rows : List Row} {k : Key} {v : Value} (h : posMap rows k = some v) : ∃ (i : Nat) (r : Row),rows[i]? = some r ∧ r.key = k ∧ v = .int .i64 i:=by
 unfold posMap at h
 cases hf : rows.findIdx? (fun x=>x.key = k) with
 | none=>rw [hf] at h;cases h
 | some i=>
   rw [hf] at h
   cases h
   obtain ⟨hi,hp,_⟩:=List.findIdx?_eq_some_iff_getElem.1 hf
   exact ⟨i,rows[i],List.getElem?_eq_getElem hi,by simpa using hp,rfl⟩
theorem xch_length (rows : List Row) (i j : Nat) (r r' : Row) : (xch rows i j r r').length = rows.length:=by simp [xch]
theorem xch_get {rows : List Row} {i j : Nat} {r r' : Row} (hi : rows[i]? = some r) (hj : rows[j]? = some r') (n : Nat) : (xch rows i j r r')[n]? = if n = j then some r else if n = i then some r' else rows[n]?:=by
 unfold xch
 have hi1:=(List.getElem?_eq_some_iff.1 hi).1
 have hj1:=(List.getElem?_eq_some_iff.1 hj).1
 rw [List.getElem?_set]
 by_cases h1 : j = n
 · subst h1;simp [hj1]
 · rw [if_neg h1,if_neg (fun e=>h1 e.symm),List.getElem?_set]
   by_cases h2 : i = n
   · subst h2;simp [hi1]
   · rw [if_neg h2,if_neg (fun e=>h2 e.symm)]
theorem xch_perm {rows : List Row} {i j : Nat} {r r' : Row} (hi : rows[i]? = some r) (hj : rows[j]? = some r') : (xch rows i j r r').Perm rows:=by
 obtain ⟨hi1,rfl⟩:=List.getElem?_eq_some_iff.1 hi
 obtain ⟨hj1,rfl⟩:=List.getElem?_eq_some_iff.1 hj
 have h:=(Array.swap_perm (xs:=rows.toArray) (i:=i) (j:=j) (by simpa using hi1) (by simpa using hj1)).toList
 have e : (rows.toArray.swap i j (by simpa using hi1) (by simpa using hj1)).toList = xch rows i j rows[i] rows[j]:=by
  simp [Array.swap,xch]
 rw [e] at h
 simpa using h
theorem posMap_xch {rows : List Row} (hd : (rows.map (·.key)).Nodup) {i j : Nat} {r r' : Row} (hi : rows[i]? = some r) (hj : rows[j]? = some r') (hp : (xch rows i j r r').Perm rows) :
 (fun k=>if k = r.key then some (.int .i64 j) else if k = r'.key then some (.int .i64 i) else posMap rows k) = posMap (xch rows i j r r'):=by
 have hd' : ((xch rows i j r r').map (·.key)).Nodup:=((hp.map (·.key)).nodup_iff).2 hd
 funext k
 by_cases h1 : k = r.key
 · subst h1;rw [if_pos rfl,posMap_some hd' (i:=j) (by rw [xch_get hi hj,if_pos rfl])]
 · rw [if_neg h1]
   by_cases h2 : k = r'.key
   · subst h2
     rw [if_pos rfl]
     by_cases hij : i = j
     · subst hij;rw [hi] at hj;cases hj;exact absurd rfl h1
     · rw [posMap_some hd' (i:=i) (by rw [xch_get hi hj,if_neg hij,if_pos rfl])]
   · rw [if_neg h2]
     cases hp2 : posMap rows k with
     | none=>
       rw [posMap_none]
       intro hk
       have hk2:=(hp.map (·.key)).mem_iff.1 hk
       obtain ⟨r0,hr0,hk0⟩:=List.mem_map.1 hk2
       obtain ⟨n,hn,he⟩:=List.mem_iff_getElem.1 hr0
       have:=posMap_some hd (i:=n) (r:=r0) (by rw [List.getElem?_eq_getElem hn,he])
       rw [hk0,hp2] at this;cases this
     | some v=>
       obtain ⟨n,r0,hn,hk0,rfl⟩:=posMap_elim hp2
       subst hk0
       have e : (xch rows i j r r')[n]? = some r0:=by
        rw [xch_get hi hj,if_neg,if_neg,hn]
        · intro e;subst e;rw [hn] at hi;cases hi;exact h1 rfl
        · intro e;subst e;rw [hn] at hj;cases hj;exact h2 rfl
       rw [posMap_some hd' e]
def hup : Nat → List Row → Nat → List Row
 | 0,rs,_=>rs
 | f + 1,rs,i=>
   if 0 < i then
    match rs[i]?,rs[(i - 1) / 2]? with
    | some r,some p=>if Key.cmp r.key p.key < 0 then hup f (xch rs i ((i - 1) / 2) r p) ((i - 1) / 2) else rs
    | _,_=>rs
   else rs
theorem hup_stop {f : Nat} {rs : List Row} {i : Nat} {r p : Row} (hi : rs[i]? = some r) (hp : rs[(i - 1) / 2]? = some p) (h : i = 0 ∨ ¬ Key.cmp r.key p.key < 0) : hup f rs i = rs:=by
 cases f with
 | zero=>rfl
 | succ f=>
   simp only [hup,hi,hp]
   rcases h with h | h
   · simp [h]
   · simp [h]
theorem hup_go {f : Nat} {rs : List Row} {i : Nat} {r p : Row} (hi : rs[i]? = some r) (hp : rs[(i - 1) / 2]? = some p) (h0 : 0 < i) (h : Key.cmp r.key p.key < 0) (hf : 0 < f) : hup f rs i = hup (f - 1) (xch rs i ((i - 1) / 2) r p) ((i - 1) / 2):=by
 obtain ⟨g,rfl⟩ : ∃ g,f = g + 1:=⟨f - 1,by omega⟩
 simp [hup,hi,hp,h,h0]
def hcand (rs : List Row) (c j : Nat) : Nat:=match rs[j]?,rs[c]? with | some x,some y=>if Key.cmp x.key y.key < 0 then j else c | _,_=>c
def stage (rs : List Row) (i : Nat) : Nat → Nat
 | 0=>i
 | t + 1=>hcand rs (stage rs i t) (2 * i + 1 + t)
def hdown : Nat → List Row → Nat → List Row
 | 0,rs,_=>rs
 | f + 1,rs,i=>
   let c:=stage rs i 2
   if c = i then rs else match rs[i]?,rs[c]? with
    | some r,some p=>hdown f (xch rs i c r p) c
    | _,_=>rs
theorem hcand_lt {rs : List Row} {c j : Nat} (hc : c < rs.length) : hcand rs c j < rs.length:=by
 unfold hcand
 split
 · rename_i x y hx hy;split;exact (List.getElem?_eq_some_iff.1 hx).1;exact hc
 · exact hc
theorem stage_lt {rs : List Row} {i : Nat} (hi : i < rs.length) : ∀ t,stage rs i t < rs.length
 | 0=>hi
 | t + 1=>hcand_lt (stage_lt hi t)
theorem stage_or {rs : List Row} {i : Nat} : ∀ t,stage rs i t = i ∨ i < stage rs i t
 | 0=>.inl rfl
 | t + 1=>by
   have:=stage_or (rs:=rs) (i:=i) t
   simp only [stage]
   unfold hcand
   split
   · split
     · right;omega
     · exact this
   · exact this
theorem stage_beyond {rs : List Row} {i t : Nat} (h : rs.length ≤ 2 * i + 1 + t) : stage rs i (t + 1) = stage rs i t:=by
 simp only [stage,hcand,List.getElem?_eq_none h]
theorem stage_done {rs : List Row} {i t : Nat} (ht : t ≤ 2) (h : t = 2 ∨ rs.length ≤ 2 * i + 1 + t) : stage rs i t = stage rs i 2:=by
 rcases h with rfl | h
 · rfl
 · match t,ht with
   | 0,_=>rw [stage_beyond (t:=1) (by omega),stage_beyond (t:=0) (by omega)]
   | 1,_=>rw [stage_beyond (t:=1) (by omega)]
   | 2,_=>rfl
theorem hdown_stop {f : Nat} {rs : List Row} {i : Nat} (h : stage rs i 2 = i) : hdown f rs i = rs:=by
 cases f with
 | zero=>rfl
 | succ f=>simp only [hdown,h,if_true]
theorem hdown_go {f : Nat} {rs : List Row} {i : Nat} {r p : Row} (h : stage rs i 2 ≠ i) (hi : rs[i]? = some r) (hp : rs[stage rs i 2]? = some p) (hf : 0 < f) : hdown f rs i = hdown (f - 1) (xch rs i (stage rs i 2) r p) (stage rs i 2):=by
 obtain ⟨g,rfl⟩ : ∃ g,f = g + 1:=⟨f - 1,by omega⟩
 simp [hdown,h,hi,hp]
theorem posMap_push {rows : List Row} {r : Row} (h : r.key ∉ rows.map (·.key)) (hd : (rows.map (·.key)).Nodup) : (fun k=>if k = r.key then some (.int .i64 (rows.length : Int)) else posMap rows k) = posMap (rows ++ [r]):=by
 have hd' : ((rows ++ [r]).map (·.key)).Nodup:=by
  rw [List.map_append,List.nodup_append]
  exact ⟨hd,by simp,fun a ha b hb=>by simp at hb;subst hb;exact fun e=>h (e ▸ ha)⟩
 funext k
 by_cases h1 : k = r.key
 · subst h1;rw [if_pos rfl,posMap_some hd' (i:=rows.length) (by simp)]
 · rw [if_neg h1]
   cases hp : posMap rows k with
   | none=>
     rw [posMap_none]
     rw [List.map_append,List.mem_append]
     rintro (hk | hk)
     · obtain ⟨r0,hr0,hk0⟩:=List.mem_map.1 hk
       obtain ⟨n,hn,he⟩:=List.mem_iff_getElem.1 hr0
       have:=posMap_some hd (i:=n) (r:=r0) (by rw [List.getElem?_eq_getElem hn,he])
       rw [hk0,hp] at this;cases this
     · simp at hk;exact h1 hk
   | some v=>
     obtain ⟨n,r0,hn,hk0,rfl⟩:=posMap_elim hp
     subst hk0
     rw [posMap_some hd' (i:=n) (by rw [List.getElem?_append_left (List.getElem?_eq_some_iff.1 hn).1];exact hn)]
theorem posMap_eq {rs : List Row} (hd : (rs.map (·.key)).Nodup) {m : Key → Option Value} (h1 : ∀ (i : Nat) r,rs[i]? = some r → m r.key = some (.int .i64 i)) (h2 : ∀ k,k ∉ rs.map (·.key) → m k = none) : m = posMap rs:=by
 funext k
 by_cases hk : k ∈ rs.map (·.key)
 · obtain ⟨r,hr,rfl⟩:=List.mem_map.1 hk
   obtain ⟨n,hn,he⟩:=List.mem_iff_getElem.1 hr
   have hg : rs[n]? = some r:=by rw [List.getElem?_eq_getElem hn,he]
   rw [h1 n r hg,posMap_some hd hg]
 · rw [h2 k hk,posMap_none hk]
def cutRow (rows : List Row) (i : Nat) : List Row:=
 match rows[rows.length - 1]? with
 | some l=>if i + 1 = rows.length then rows.take (rows.length - 1) else (rows.take (rows.length - 1)).set i l
 | none=>rows
def hpull (rows : List Row) (i : Nat) : List Row:=
 if i + 1 = rows.length then cutRow rows i else hup i (hdown (rows.length - 1) (cutRow rows i) i) i
theorem hup_perm : ∀ (f : Nat) (rs : List Row) (i : Nat),(hup f rs i).Perm rs
 | 0,rs,_=>.refl _
 | f + 1,rs,i=>by
   unfold hup
   split
   · split
     · rename_i r p hr hp
       split
       · exact (hup_perm f _ _).trans (xch_perm hr hp)
       · exact .refl _
     · exact .refl _
   · exact .refl _
theorem hdown_perm : ∀ (f : Nat) (rs : List Row) (i : Nat),(hdown f rs i).Perm rs
 | 0,rs,_=>.refl _
 | f + 1,rs,i=>by
   unfold hdown
   simp only
   split
   · exact .refl _
   · split
     · rename_i r p hr hp
       exact (hdown_perm f _ _).trans (xch_perm hr hp)
     · exact .refl _
theorem take_last {rows : List Row} {m : Nat} {l : Row} (hm : rows.length = m + 1) (hl : rows[m]? = some l) : rows = rows.take m ++ [l]:=by
 obtain ⟨h1,h2⟩:=List.getElem?_eq_some_iff.1 hl
 rw [← h2]
 have h3:=List.take_append_getElem h1
 rw [← hm,List.take_length] at h3
 exact h3.symm
theorem cutRow_last {rows : List Row} {m : Nat} (hm : rows.length = m + 1) : cutRow rows m = rows.take m:=by
 have hl : rows[rows.length - 1]? = some (rows[rows.length - 1]'(by omega)):=List.getElem?_eq_getElem (by omega)
 unfold cutRow
 rw [hl]
 simp [hm]
theorem cutRow_set {rows : List Row} {m i : Nat} {l : Row} (hm : rows.length = m + 1) (hl : rows[m]? = some l) (hi : i ≠ m) : cutRow rows i = (rows.take m).set i l:=by
 unfold cutRow
 rw [show rows.length - 1 = m by omega,hl]
 simp only
 rw [if_neg (by omega)]
theorem cutRow_perm {rows : List Row} {i : Nat} {r : Row} (hi : rows[i]? = some r) : (cutRow rows i ++ [r]).Perm rows:=by
 have hi1:=(List.getElem?_eq_some_iff.1 hi).1
 obtain ⟨m,hm⟩ : ∃ m,rows.length = m + 1:=⟨rows.length - 1,by omega⟩
 obtain ⟨l,hl⟩ : ∃ l,rows[m]? = some l:=⟨_,List.getElem?_eq_getElem (by omega)⟩
 by_cases him : i = m
 · subst him
   rw [hi] at hl;cases hl
   rw [cutRow_last hm,← take_last hm hi]
 · rw [cutRow_set hm hl him]
   have h:=xch_perm hi hl
   refine (List.Perm.of_eq ?_).trans h
   unfold xch
   have hlt : (rows.take m).length = m:=by rw [List.length_take];omega
   conv=>rhs;rw [take_last hm hl]
   rw [List.set_append_left (h:=by omega),List.set_append_right (h:=by rw [List.length_set];omega)]
   rw [List.length_set,hlt,Nat.sub_self]
   rfl
theorem cutRow_nodup {rows : List Row} {i : Nat} {r : Row} (hi : rows[i]? = some r) (hd : (rows.map (·.key)).Nodup) : ((cutRow rows i).map (·.key)).Nodup ∧ r.key ∉ (cutRow rows i).map (·.key):=by
 have h:=(((cutRow_perm hi).map (·.key)).nodup_iff).2 hd
 rw [List.map_append,List.nodup_append] at h
 exact ⟨h.1,fun hk=>h.2.2 _ hk _ (by simp) rfl⟩
theorem cutRow_length {rows : List Row} {i : Nat} {r : Row} (hi : rows[i]? = some r) : (cutRow rows i).length + 1 = rows.length:=by
 have:=(cutRow_perm hi).length_eq
 simpa using this
theorem posMap_cut {rows : List Row} {i m : Nat} {r l : Row} (hd : (rows.map (·.key)).Nodup) (hm : rows.length = m + 1) (hi : rows[i]? = some r) (hl : rows[m]? = some l) (him : i ≠ m) :
 (fun k=>if k = l.key then some (.int .i64 (i : Int)) else if k = r.key then none else posMap rows k) = posMap (cutRow rows i):=by
 have hc:=cutRow_set hm hl him
 have hi1:=(List.getElem?_eq_some_iff.1 hi).1
 obtain ⟨hd',hr'⟩:=cutRow_nodup hi hd
 refine posMap_eq hd' ?_ ?_
 · intro n r0 hn
   rw [hc,List.getElem?_set] at hn
   by_cases h1 : i = n
   · subst h1
     rw [if_pos rfl,if_pos (by rw [List.length_take];omega)] at hn
     cases hn
     simp
   · rw [if_neg h1] at hn
     obtain ⟨hn1,hn2⟩:=List.getElem?_eq_some_iff.1 hn
     rw [List.length_take] at hn1
     rw [List.getElem?_take,if_pos (by omega)] at hn
     have hne : ∀ (j : Nat) (x : Row),rows[j]? = some x → j ≠ n → r0.key ≠ x.key:=by
      intro j x hj hjn e
      have h1:=posMap_some hd hn
      have h2:=posMap_some hd hj
      rw [e,h2] at h1
      simp only [Option.some.injEq,Value.int.injEq,true_and] at h1
      omega
     rw [if_neg (hne m l hl (by omega)),if_neg (hne i r hi h1)]
     exact posMap_some hd hn
 · intro k hk
   have hl' : k ≠ l.key:=by
    rintro rfl
    refine hk (List.mem_map.2 ⟨l,?_,rfl⟩)
    rw [hc]
    exact List.mem_of_getElem? (i:=i) (by rw [List.getElem?_set,if_pos rfl,if_pos (by rw [List.length_take];omega)])
   rw [if_neg hl']
   by_cases h2 : k = r.key
   · rw [if_pos h2]
   · rw [if_neg h2]
     refine posMap_none fun hk2=>?_
     have:=((cutRow_perm hi).map (·.key)).mem_iff.2 hk2
     rw [List.map_append,List.mem_append] at this
     rcases this with h | h
     · exact hk h
     · simp at h;exact h2 h
theorem posMap_cut_last {rows : List Row} {m : Nat} {r : Row} (hd : (rows.map (·.key)).Nodup) (hm : rows.length = m + 1) (hi : rows[m]? = some r) :
 (fun k=>if k = r.key then none else posMap rows k) = posMap (rows.take m):=by
 have hc:=cutRow_last hm
 obtain ⟨hd',hr'⟩:=cutRow_nodup hi hd
 rw [hc] at hd' hr'
 refine posMap_eq hd' ?_ ?_
 · intro n r0 hn
   obtain ⟨hn1,hn2⟩:=List.getElem?_eq_some_iff.1 hn
   have hk : r0.key ∈ (rows.take m).map (·.key):=List.mem_map.2 ⟨r0,List.mem_of_getElem? hn,rfl⟩
   rw [if_neg (fun e=>hr' (by rw [← e];exact hk))]
   rw [List.length_take] at hn1
   rw [List.getElem?_take,if_pos (by omega)] at hn
   exact posMap_some hd hn
 · intro k hk
   by_cases h2 : k = r.key
   · rw [if_pos h2]
   · rw [if_neg h2]
     refine posMap_none fun hk2=>?_
     rw [take_last hm hi,List.map_append,List.mem_append] at hk2
     rcases hk2 with h | h
     · exact hk h
     · simp at h;exact h2 h
def Key.ltP (k l : Key) : Prop:=k.at_ < l.at_ ∨ (k.at_ = l.at_ ∧ (k.src < l.src ∨ (k.src = l.src ∧ (k.sent < l.sent ∨ (k.sent = l.sent ∧ k.no < l.no)))))
theorem Key.lt_iffP (k l : Key) : k.lt l = true ↔ k.ltP l:=by
 unfold Key.lt Key.ltP
 split
 · simp only [decide_eq_true_eq];omega
 · split
   · simp only [decide_eq_true_eq];omega
   · split
     · simp only [decide_eq_true_eq];omega
     · simp only [decide_eq_true_eq];omega
def Row.lt (a b : Row) : Prop:=a.key.lt b.key = true
theorem Row.lt_irrefl (a : Row) : ¬ Row.lt a a:=by unfold Row.lt;rw [Key.lt_iffP];unfold Key.ltP;omega
theorem Row.lt_trans {a b c : Row} (h : Row.lt a b) (k : Row.lt b c) : Row.lt a c:=by
 unfold Row.lt at *;rw [Key.lt_iffP] at *;unfold Key.ltP at *;omega
theorem Row.lt_asymm {a b : Row} (h : Row.lt a b) : ¬ Row.lt b a:=fun k=>Row.lt_irrefl _ (Row.lt_trans h k)
theorem Row.nlt_trans {a b c : Row} (h : ¬ Row.lt a b) (k : ¬ Row.lt b c) : ¬ Row.lt a c:=by
 unfold Row.lt at *;rw [Key.lt_iffP] at *;unfold Key.ltP at *;omega
theorem Row.lt_of_nlt {a b : Row} (h : ¬ Row.lt a b) (hk : a.key ≠ b.key) : Row.lt b a:=by
 unfold Row.lt at *;rw [Key.lt_iffP] at *
 obtain ⟨⟨a1,a2,a3,a4⟩,x⟩:=a
 obtain ⟨⟨b1,b2,b3,b4⟩,y⟩:=b
 simp only [ne_eq,Key.mk.injEq] at hk
 unfold Key.ltP at *
 simp only at *
 omega
theorem Row.lt_ne {a b : Row} (h : Row.lt a b) : a.key ≠ b.key:=fun e=>by unfold Row.lt at h;rw [e] at h;exact Row.lt_irrefl b h
theorem hcmp_neg {a b : Key} : Key.cmp a b < 0 ↔ a.lt b = true:=by
 unfold Key.cmp
 split
 · simp [*]
 · split <;> simp [*]
def Ordered (rs : List Row) : Prop:=∀ (i : Nat) r p,0 < i → rs[i]? = some r → rs[(i - 1) / 2]? = some p → ¬ Row.lt r p
def UpInv (rs : List Row) (k : Nat) : Prop:=
 (∀ (i : Nat) r p,0 < i → i ≠ k → rs[i]? = some r → rs[(i - 1) / 2]? = some p → ¬ Row.lt r p) ∧
 (∀ (c : Nat) r p,0 < c → 0 < k → (c - 1) / 2 = k → rs[c]? = some r → rs[(k - 1) / 2]? = some p → ¬ Row.lt r p)
def DownInv (rs : List Row) (k : Nat) : Prop:=
 (∀ (i : Nat) r p,0 < i → (i - 1) / 2 ≠ k → rs[i]? = some r → rs[(i - 1) / 2]? = some p → ¬ Row.lt r p) ∧
 (∀ (c : Nat) r p,0 < c → 0 < k → (c - 1) / 2 = k → rs[c]? = some r → rs[(k - 1) / 2]? = some p → ¬ Row.lt r p)
theorem hup_ordered : ∀ (f : Nat) (rs : List Row) (k : Nat),k ≤ f → k < rs.length → UpInv rs k → Ordered (hup f rs k):=by
 intro f
 induction f with
 | zero=>
   intro rs k hk hlt h
   obtain rfl : k = 0:=by omega
   intro i r p hi hr hp
   exact h.1 i r p hi (by omega) hr hp
 | succ f ih=>
   intro rs k hk hlt h
   by_cases h0 : 0 < k
   · obtain ⟨r,hr⟩ : ∃ r,rs[k]? = some r:=⟨_,List.getElem?_eq_getElem hlt⟩
     obtain ⟨p,hp⟩ : ∃ r,rs[(k - 1) / 2]? = some r:=⟨_,List.getElem?_eq_getElem (by omega)⟩
     by_cases hl : Key.cmp r.key p.key < 0
     · rw [hup_go hr hp h0 hl (by omega)]
       have hrp : Row.lt r p:=hcmp_neg.1 hl
       refine ih _ _ (by omega) (by rw [xch_length];omega) ⟨?_,?_⟩
       · intro i x y hi hne hx hy
         rw [xch_get hr hp] at hx hy
         rw [if_neg hne] at hx
         by_cases hik : i = k
         · rw [if_pos hik] at hx
           subst hik
           rw [if_pos rfl] at hy
           cases hx;cases hy
           exact Row.lt_asymm hrp
         · rw [if_neg hik] at hx
           by_cases h1 : (i - 1) / 2 = (k - 1) / 2
           · rw [if_pos h1] at hy
             cases hy
             have h2:=h.1 i x p hi hik hx (by rw [h1];exact hp)
             exact fun h3=>h2 (Row.lt_trans h3 hrp)
           · rw [if_neg h1] at hy
             by_cases h2 : (i - 1) / 2 = k
             · rw [if_pos h2] at hy
               cases hy
               exact h.2 i x p hi h0 h2 hx hp
             · rw [if_neg h2] at hy
               exact h.1 i x y hi hik hx hy
       · intro c x y hc hpos hcp hx hy
         rw [xch_get hr hp] at hx hy
         rw [if_neg (by omega),if_neg (by omega)] at hy
         rw [if_neg (by omega)] at hx
         have hpy:=h.1 ((k - 1) / 2) p y hpos (by omega) hp hy
         by_cases hck : c = k
         · rw [if_pos hck] at hx
           cases hx
           exact hpy
         · rw [if_neg hck] at hx
           exact Row.nlt_trans (h.1 c x p hc hck hx (by rw [hcp];exact hp)) hpy
     · rw [hup_stop hr hp (.inr hl)]
       intro i x y hi hx hy
       by_cases hik : i = k
       · subst hik
         rw [hr] at hx;rw [hp] at hy
         cases hx;cases hy
         exact fun h3=>hl (hcmp_neg.2 h3)
       · exact h.1 i x y hi hik hx hy
   · obtain rfl : k = 0:=by omega
     have : hup (f + 1) rs 0 = rs:=by simp [hup]
     rw [this]
     intro i r p hi hr hp
     exact h.1 i r p hi (by omega) hr hp
theorem hcand_get {rs : List Row} {c j : Nat} {x : Row} (hc : rs[c]? = some x) : ∃ z,rs[hcand rs c j]? = some z ∧ ¬ Row.lt x z ∧ (∀ y,rs[j]? = some y → ¬ Row.lt y z) ∧ (hcand rs c j = c ∨ (hcand rs c j = j ∧ Row.lt z x)):=by
 unfold hcand
 rw [hc]
 cases hj : rs[j]? with
 | none=>exact ⟨x,hc,Row.lt_irrefl x,fun y h=>(by cases h),.inl rfl⟩
 | some y=>
   simp only
   by_cases hl : Key.cmp y.key x.key < 0
   · rw [if_pos hl]
     have hyx : Row.lt y x:=hcmp_neg.1 hl
     exact ⟨y,hj,Row.lt_asymm hyx,fun z hz=>by cases hz;exact Row.lt_irrefl y,.inr ⟨rfl,hyx⟩⟩
   · rw [if_neg hl]
     exact ⟨x,hc,Row.lt_irrefl x,fun z hz=>by cases hz;exact fun h=>hl (hcmp_neg.2 h),.inl rfl⟩
theorem stage_min {rs : List Row} {k : Nat} {r : Row} (hk : rs[k]? = some r) : ∃ z,rs[stage rs k 2]? = some z ∧ ¬ Row.lt r z ∧ (∀ (i : Nat) y,0 < i → (i - 1) / 2 = k → rs[i]? = some y → ¬ Row.lt y z) ∧
 (stage rs k 2 = k ∨ (0 < stage rs k 2 ∧ (stage rs k 2 - 1) / 2 = k ∧ Row.lt z r)):=by
 obtain ⟨z1,h1,h2,h3,h4⟩:=hcand_get (j:=2 * k + 1) hk
 obtain ⟨z2,g1,g2,g3,g4⟩:=hcand_get (j:=2 * k + 2) h1
 have e : stage rs k 2 = hcand rs (hcand rs k (2 * k + 1)) (2 * k + 2):=rfl
 rw [e]
 refine ⟨z2,g1,Row.nlt_trans h2 g2,?_,?_⟩
 · intro i y hi hik hy
   rcases (show i = 2 * k + 1 ∨ i = 2 * k + 2 by omega) with rfl | rfl
   · exact Row.nlt_trans (h3 y hy) g2
   · exact g3 y hy
 · rcases g4 with g4 | ⟨g4,g5⟩
   · rw [g4]
     rw [g4] at g1
     rw [g1] at h1
     cases h1
     rcases h4 with h4 | ⟨h4,h5⟩
     · exact .inl h4
     · right;rw [h4];exact ⟨by omega,by omega,h5⟩
   · right
     rw [g4]
     refine ⟨by omega,by omega,?_⟩
     rcases h4 with h4 | ⟨h4,h5⟩
     · rw [h4,hk] at h1;cases h1;exact g5
     · exact Row.lt_trans g5 h5
theorem hdown_ordered : ∀ (f : Nat) (rs : List Row) (k : Nat),rs.length ≤ k + f → k < rs.length → DownInv rs k → Ordered (hdown f rs k):=by
 intro f
 induction f with
 | zero=>intro rs k h1 h2;omega
 | succ f ih=>
   intro rs k hf hlt h
   obtain ⟨r,hr⟩ : ∃ r,rs[k]? = some r:=⟨_,List.getElem?_eq_getElem hlt⟩
   obtain ⟨z,hz,hrz,hmin,hcase⟩:=stage_min hr
   by_cases hs : stage rs k 2 = k
   · rw [hdown_stop hs]
     rw [hs,hr] at hz
     cases hz
     intro i x y hi hx hy
     by_cases hik : (i - 1) / 2 = k
     · rw [hik,hr] at hy
       cases hy
       exact hmin i x hi hik hx
     · exact h.1 i x y hi hik hx hy
   · obtain ⟨hs0,hsp,hzr⟩:=hcase.resolve_left hs
     rw [hdown_go hs hr hz (by omega)]
     generalize stage rs k 2 = s at *
     have hsl:=(List.getElem?_eq_some_iff.1 hz).1
     refine ih _ _ (by rw [xch_length];omega) (by rw [xch_length];exact hsl) ⟨?_,?_⟩
     · intro i x y hi hne hx hy
       rw [xch_get hr hz] at hx hy
       rw [if_neg hne] at hy
       by_cases hik : (i - 1) / 2 = k
       · rw [if_pos hik] at hy
         cases hy
         by_cases his : i = s
         · rw [if_pos his] at hx;cases hx;exact Row.lt_asymm hzr
         · rw [if_neg his,if_neg (by omega)] at hx
           exact hmin i x hi hik hx
       · rw [if_neg hik] at hy
         rw [if_neg (by rintro rfl;exact hik hsp)] at hx
         by_cases h2 : i = k
         · rw [if_pos h2] at hx
           cases hx
           subst h2
           exact h.2 s z y hs0 hi hsp hz hy
         · rw [if_neg h2] at hx
           exact h.1 i x y hi hik hx hy
     · intro c x y hc hs1 hcs hx hy
       rw [xch_get hr hz] at hx hy
       rw [if_neg (by omega),if_pos hsp] at hy
       rw [if_neg (by omega),if_neg (by omega)] at hx
       cases hy
       exact h.1 c x z hc (by omega) hx (by rw [hcs];exact hz)
theorem ordered_min {rs : List Row} (h : Ordered rs) {m : Row} (h0 : rs[0]? = some m) : ∀ (i : Nat) r,rs[i]? = some r → ¬ Row.lt r m:=by
 intro i
 induction i using Nat.strongRecOn with
 | ind i ih=>
   intro r hr
   by_cases hi : i = 0
   · subst hi;rw [h0] at hr;cases hr;exact Row.lt_irrefl _
   · obtain ⟨p,hp⟩ : ∃ p,rs[(i - 1) / 2]? = some p:=⟨_,List.getElem?_eq_getElem (by have:=(List.getElem?_eq_some_iff.1 hr).1;omega)⟩
     exact Row.nlt_trans (h i r p (by omega) hr hp) (ih _ (by omega) p hp)
theorem push_ordered {rs : List Row} (h : Ordered rs) (r : Row) : Ordered (hup rs.length (rs ++ [r]) rs.length):=by
 refine hup_ordered _ _ _ (Nat.le_refl _) (by simp) ⟨?_,?_⟩
 · intro i x p hi hne hx hp
   have hil : i < rs.length:=by have:=(List.getElem?_eq_some_iff.1 hx).1;simp at this;omega
   rw [List.getElem?_append_left hil] at hx
   rw [List.getElem?_append_left (by omega)] at hp
   exact h i x p hi hx hp
 · intro c x p hc hk hcp hx hp
   have:=(List.getElem?_eq_some_iff.1 hx).1
   simp at this
   omega
theorem pull_ordered {rs : List Row} (h : Ordered rs) {i : Nat} (hi : i < rs.length) : Ordered (hpull rs i):=by
 obtain ⟨m,hm⟩ : ∃ m,rs.length = m + 1:=⟨rs.length - 1,by omega⟩
 obtain ⟨l,hl⟩ : ∃ l,rs[m]? = some l:=⟨_,List.getElem?_eq_getElem (by omega)⟩
 have hget : ∀ (j : Nat),j < m → (rs.take m)[j]? = rs[j]?:=fun j hj=>by rw [List.getElem?_take,if_pos hj]
 unfold hpull
 by_cases him : i = m
 · rw [if_pos (by omega),him,cutRow_last hm]
   intro j x p hj hx hp
   have:=(List.getElem?_eq_some_iff.1 hx).1
   rw [List.length_take] at this
   rw [hget j (by omega)] at hx
   rw [hget _ (by omega)] at hp
   exact h j x p hj hx hp
 · rw [if_neg (by omega),cutRow_set hm hl him,show rs.length - 1 = m by omega]
   have hlen : ((rs.take m).set i l).length = m:=by rw [List.length_set,List.length_take];omega
   have hg : ∀ (j : Nat),j < m → ((rs.take m).set i l)[j]? = if j = i then some l else rs[j]?:=fun j hj=>by
    rw [List.getElem?_set]
    by_cases e : i = j
    · rw [if_pos e,if_pos e.symm,if_pos (by rw [List.length_take];omega)]
    · rw [if_neg e,if_neg (fun h=>e h.symm),hget j hj]
   generalize (rs.take m).set i l = cs at hlen hg
   have hb : ∀ (j : Nat) x,cs[j]? = some x → j < m:=fun j x hx=>by have:=(List.getElem?_eq_some_iff.1 hx).1;omega
   have old : ∀ (j : Nat) x p,0 < j → j ≠ i → (j - 1) / 2 ≠ i → cs[j]? = some x → cs[(j - 1) / 2]? = some p → ¬ Row.lt x p:=by
    intro j x p hj h1 h2 hx hp
    rw [hg j (hb j x hx),if_neg h1] at hx
    rw [hg _ (hb _ p hp),if_neg h2] at hp
    exact h j x p hj hx hp
   have grand : ∀ (c : Nat) x p,0 < c → 0 < i → (c - 1) / 2 = i → cs[c]? = some x → cs[(i - 1) / 2]? = some p → ¬ Row.lt x p:=by
    intro c x p hc hi0 hci hx hp
    rw [hg c (hb c x hx),if_neg (by omega)] at hx
    rw [hg _ (hb _ p hp),if_neg (by omega)] at hp
    obtain ⟨q,hq⟩ : ∃ q,rs[i]? = some q:=⟨_,List.getElem?_eq_getElem hi⟩
    exact Row.nlt_trans (h c x q hc hx (by rw [hci];exact hq)) (h i q p hi0 hq hp)
   have hci : cs[i]? = some l:=by rw [hg i (by omega),if_pos rfl]
   by_cases hA : 0 < i ∧ ∃ p,cs[(i - 1) / 2]? = some p ∧ Row.lt l p
   · obtain ⟨hi0,p,hp,hlp⟩:=hA
     have hstop : stage cs i 2 = i:=by
      obtain ⟨z,hz,_,_,hcase⟩:=stage_min hci
      refine hcase.resolve_right ?_
      rintro ⟨h1,h2,h3⟩
      exact grand _ z p h1 hi0 h2 hz hp (Row.lt_trans h3 hlp)
     rw [hdown_stop hstop]
     refine hup_ordered _ _ _ (Nat.le_refl _) (by omega) ⟨?_,grand⟩
     intro j x y hj hne hx hy
     by_cases h2 : (j - 1) / 2 = i
     · rw [h2,hci] at hy
       cases hy
       exact fun h3=>grand j x p hj hi0 h2 hx hp (Row.lt_trans h3 hlp)
     · exact old j x y hj hne h2 hx hy
   · have hord : Ordered (hdown m cs i):=by
      refine hdown_ordered _ _ _ (by omega) (by omega) ⟨?_,grand⟩
      intro j x y hj hne hx hy
      by_cases h1 : j = i
      · subst h1
        rw [hci] at hx
        cases hx
        exact fun h3=>hA ⟨hj,y,hy,h3⟩
      · exact old j x y hj h1 hne hx hy
     have hdl:=(hdown_perm m cs i).length_eq
     generalize hdown m cs i = ds at hord hdl
     obtain ⟨r,hr⟩ : ∃ r,ds[i]? = some r:=⟨_,List.getElem?_eq_getElem (by omega)⟩
     obtain ⟨p,hp⟩ : ∃ r,ds[(i - 1) / 2]? = some r:=⟨_,List.getElem?_eq_getElem (by omega)⟩
     rw [hup_stop hr hp ?_]
     · exact hord
     · by_cases h0 : i = 0
       · exact .inl h0
       · exact .inr fun h3=>hord i r p (by omega) hr hp (hcmp_neg.1 h3)
def HSorted (s : List Row) : Prop:=s.Pairwise Row.lt
theorem HSorted.nodup {s : List Row} (h : HSorted s) : (s.map (·.key)).Nodup:=by
 unfold HSorted at h
 rw [List.Nodup,List.pairwise_map]
 exact h.imp Row.lt_ne
def ins (r : Row) : List Row → List Row
 | []=>[r]
 | a :: l=>if r.key.lt a.key then r :: a :: l else a :: ins r l
theorem ins_perm (r : Row) : ∀ l,(ins r l).Perm (r :: l)
 | []=>.refl _
 | a :: l=>by
   unfold ins
   split
   · exact .refl _
   · exact ((ins_perm r l).cons a).trans (.swap _ _ _)
theorem ins_sorted (r : Row) : ∀ l,HSorted l → r.key ∉ l.map (·.key) → HSorted (ins r l)
 | [],_,_=>by simp [ins,HSorted]
 | a :: l,h,hk=>by
   unfold HSorted at *
   rw [List.pairwise_cons] at h
   simp only [List.map_cons,List.mem_cons,not_or] at hk
   unfold ins
   split
   · rename_i hl
     refine List.pairwise_cons.2 ⟨fun x hx=>?_,List.pairwise_cons.2 h⟩
     rcases List.mem_cons.1 hx with rfl | hx
     · exact hl
     · exact Row.lt_trans hl (h.1 x hx)
   · rename_i hl
     refine List.pairwise_cons.2 ⟨fun x hx=>?_,ins_sorted r l h.2 hk.2⟩
     rcases List.mem_cons.1 ((ins_perm r l).mem_iff.1 hx) with rfl | hx
     · exact Row.lt_of_nlt hl hk.1
     · exact h.1 x hx
theorem ins_length (r : Row) (l : List Row) : (ins r l).length = l.length + 1:=(ins_perm r l).length_eq
theorem filter_perm {r : Row} : ∀ {s : List Row},r ∈ s → (s.map (·.key)).Nodup → (s.filter (fun x=>x.key ≠ r.key) ++ [r]).Perm s
 | [],h,_=>by cases h
 | a :: l,h,hd=>by
   rw [List.map_cons,List.nodup_cons] at hd
   by_cases e : a.key = r.key
   · have ha : a = r:=by
      rcases List.mem_cons.1 h with h | h
      · exact h.symm
      · exact absurd (e ▸ List.mem_map.2 ⟨r,h,rfl⟩) hd.1
     subst ha
     have : (a :: l).filter (fun x=>decide (x.key ≠ a.key)) = l:=by
      rw [List.filter_cons_of_neg (by simp),List.filter_eq_self]
      intro x hx
      simp only [decide_eq_true_eq]
      exact fun e=>hd.1 (List.mem_map.2 ⟨x,hx,e⟩)
     rw [this]
     exact List.perm_append_singleton a l
   · have hr : r ∈ l:=by
      rcases List.mem_cons.1 h with h | h
      · exact absurd (by rw [h]) e
      · exact h
     rw [List.filter_cons_of_pos (by simpa using e),cons_append]
     exact (filter_perm hr hd.2).cons a
theorem HSorted.nodup_of {s rows : List Row} (h : HSorted s) (hp : rows.Perm s) : (rows.map (·.key)).Nodup:=((hp.map (·.key)).nodup_iff).2 h.nodup
theorem nodup_push {rows : List Row} {r : Row} (h : r.key ∉ rows.map (·.key)) (hd : (rows.map (·.key)).Nodup) : ((rows ++ [r]).map (·.key)).Nodup:=by
 rw [List.map_append,List.nodup_append]
 exact ⟨hd,by simp,fun y hy z hz=>by simp at hz;subst hz;exact fun e=>h (e ▸ hy)⟩
theorem key_perm {a b : List Row} (h : a.Perm b) (k : Key) : k ∈ a.map (·.key) ↔ k ∈ b.map (·.key):=(h.map (·.key)).mem_iff
def PushAns (s : List Row) (r : Row) : Int:=if r.key ∈ s.map (·.key) then 13 else 0
def pushed (s : List Row) (r : Row) : List Row:=if r.key ∈ s.map (·.key) then s else ins r s
theorem head_of {rows s : List Row} (ho : Ordered rows) (hp : rows.Perm s) (hs : HSorted s) {m : Row} (h0 : rows[0]? = some m) : s.head? = some m:=by
 cases s with
 | nil=>rw [hp.eq_nil] at h0;cases h0
 | cons r s'=>
   have hr : r ∈ rows:=hp.mem_iff.2 (by simp)
   obtain ⟨i,hi,he⟩:=List.mem_iff_getElem.1 hr
   have hm:=ordered_min ho h0 i r (by rw [List.getElem?_eq_getElem hi,he])
   have hms : m ∈ r :: s':=hp.mem_iff.1 (List.mem_of_getElem? h0)
   rcases List.mem_cons.1 hms with h | h
   · rw [h];rfl
   · exact absurd ((List.pairwise_cons.1 hs).1 m h) hm
theorem filter_sorted {s : List Row} (h : HSorted s) (p : Row → Bool) : HSorted (s.filter p):=List.Pairwise.filter p h
def pulled (s : List Row) (k : Key) : List Row:=s.filter (fun x=>x.key ≠ k)
theorem find_key {s : List Row} {r : Row} (hr : r ∈ s) (hd : (s.map (·.key)).Nodup) : s.find? (fun x=>x.key = r.key) = some r:=by
 induction s with
 | nil=>cases hr
 | cons a l ih=>
   rw [List.map_cons,List.nodup_cons] at hd
   rcases List.mem_cons.1 hr with h | h
   · subst h;simp
   · have hne : a.key ≠ r.key:=fun e=>hd.1 (e ▸ List.mem_map.2 ⟨r,h,rfl⟩)
     rw [List.find?_cons_of_neg (by simpa using hne)]
     exact ih h hd.2
theorem find_none {s : List Row} {k : Key} (h : k ∉ s.map (·.key)) : s.find? (fun x=>x.key = k) = none:=by
 rw [List.find?_eq_none]
 intro x hx
 simp only [decide_eq_true_eq]
 exact fun e=>h (List.mem_map.2 ⟨x,hx,e⟩)
theorem pulled_head {r : Row} {s : List Row} (hs : HSorted (r :: s)) : pulled (r :: s) r.key = s:=by
 unfold pulled
 have h:=List.pairwise_cons.1 hs
 rw [List.filter_cons_of_neg (by simp),List.filter_eq_self]
 intro x hx
 simp only [decide_eq_true_eq]
 exact fun e=>Row.lt_ne (h.1 x hx) e.symm
end Go.Proofs.YtcnfionnnpnplaaGreatDoor
