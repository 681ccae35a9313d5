/- boomeranglaw20.TraceCommits answers true for every configuration and every two lists of batches, and leaves its arguments as they were. Its conditions: none beyond the card's own (the table of ops is tied). -/
import Derived.Test.YtcnfionnnpnplaaGreatDoorZ06
import Derived.Test.YtcnfionnnpnplaaGreatDoorZ19
import Derived.Test.YtcnfionnnpnplaaGreatDoorZ36
set_option maxRecDepth 100000
namespace Go.Proofs.YtcnfionnnpnplaaGreatDoor
open Go Go.ChangeShapes Go.WideShapes Go.ChangeAt Go.RowKit Mem
theorem traceCommits_lifted (os : Os) (started : os.Started) (H : Type) (enc : TypeId × Value → H) :
 ReturnsInHanded {} Tryz.checked os 4 .any (fun w args=>(Rows.traceCommitsSpec.pre enc Tryz.prog Tryz.f4 [] false w args ∧ laidMetH Tryz.prog tabLaid w) ∧ sizedMet enc Tryz.prog Tryz.f4 (OpenSpec.ofChange Rows.traceCommitsSpec) false w args) (Rows.traceCommitsSpec.post enc Tryz.prog Tryz.f4 false true false false):=by
 refine returnsInHanded_of_change_and (C:=Tryz.checked) (X:=fun w _=>laidMetH Tryz.prog tabLaid w) (fun _ _ _ hh h=>h.of_heap hh) Tryz.own started (by kernel_rfl) Tryz.func4
  (ChangeSpec.witness_shaped (enc:=enc) (C:=Tryz.checked) (os:=os) (X:=fun w _=>laidMetH Tryz.prog tabLaid w) false (World.doorLaid Tryz.prog 59 os) #[.agg #[.slice none 0 0,.slice none 0 0,.slice none 0 0,.int .i64 0,.int .i64 0,.int .i64 0],.slice none 0 0,.slice none 0 0] 8 rfl (World.shaped_of_RefB (by kernel_rfl) (by kernel_rfl)) (by kernel_rfl) (by kernel_rfl) (by kernel_rfl) (door_met os _)) ?_
 intro W base args ds gs before hval0 hW _ hWt hL _
 have hval : ∀ (j : Nat) t v,Tryz.f4.params[j]? = some t → args[j]? = some v → Value.okWide Tryz.prog W .any base t v:=hval0
 have hW':=hW
 obtain ⟨p,q,hA0,hV,rfl,hfz,hnd⟩:=hW
 have hA : DataW.TrodAll enc Tryz.prog W 0 (fun _=>true) true Tryz.f4.params.toList args.toList ds p:=hA0
 obtain ⟨rfl,rfl⟩:=trodVars_none hV
 have hAk:=hA
 rw [Tryz.params4] at hA hval hWt
 simp only [List.append_nil] at hW'
 have hTab:=tab_of_laid hL
 have main : ((Rows.traceCommitsSpec.fn H ds).results = [.lit (.bool true)] ∧ (Rows.traceCommitsSpec.fn H ds).args = ds ∧ (Rows.traceCommitsSpec.fn H ds).vars = []) ∧ Calls Tryz.prog 4 args W fun e W'=>e = .returned (.bool true) ∧ Below W.heap.size W W':=by
  clear hAk hfz hnd hval0 hW' hA0 hL
  obtain ⟨v1,v2,v3,d1,d2,d3,p1,p2,p3,rfl,rfl,rfl,h1,h2,h3⟩:=trodAll_three hA
  refine ⟨⟨rfl,rfl,rfl⟩,?_⟩
  obtain ⟨vs,hs,c,rfl,hc,hw,hwb⟩:=open_cfgB h1 (hval 0 _ _ rfl rfl) (light_three hWt).1
  obtain ⟨ad,cp,la,rfl,a1,a2,a3,hn,hn2⟩:=open_bats h2 (hval 1 _ _ rfl rfl)
  obtain ⟨ad2,cp2,lb,rfl,b1,b2,b3,hm,hm2⟩:=open_bats h3 (hval 2 _ _ rfl rfl)
  exact traceCommits_calls vs hs c ad cp la ad2 cp2 lb W _ _ _ _ _ _ _ _ hc hw hwb a1 a2 a3 b1 b2 b3 (Nat.le_trans hn (by decide)) (fun x hx=>Nat.le_trans (hn2 x hx).1 (by decide)) (Nat.le_trans hm (by decide)) (fun x hx=>Nat.le_trans (hm2 x hx).1 (by decide)) hTab
 obtain ⟨⟨m1,m2,m3⟩,hc⟩:=main
 refine hc.mono fun e W' ⟨he,hb⟩=>?_
 subst he
 refine ⟨_,rfl,post_of_below (pa:=p) (pv:=[]) (by simpa using hW') (fun _ _ _=>?_) (fun sp hsp=>?_) (fun _ _=>?_) (by simp) hb (ok_one (by kernel_rfl) rfl (okWide_bool_mk Tryz.underlying4 true))⟩
 · simp only [List.append_nil];rw [m1];exact trodAll_mk1 (shut_bool Tryz.underlying4 true)
 · simp only [List.append_nil];rw [m2];exact trodAll_stays Tryz.laidOut hb Tryz.f4.params.toList _ _ p (by kernel_rfl) hAk (fun x hx=>hW'.lt x (by simpa using hx)) (fun x hx=>hsp x (by simpa using hx))
 · simp only [List.append_nil];rw [m3];exact rfl
theorem traceCommits_row : Rows.TraceCommitsSaid:=
 OpenClaim.holds_of_wide 4 Tryz.f4 rfl rfl rfl rfl rfl rfl rfl ⟨rfl,rfl,rfl,rfl,rfl⟩ rfl rfl rfl rfl rfl (by kernel_rfl) Tryz.func4 (by kernel_rfl)
  (of_decide_eq_true (by kernel_rfl)) (by unfold Func.isWrapper;first | (rw [if_pos (by decide +kernel)];kernel_rfl) | (rw [if_neg (by decide +kernel)];exact ⟨rfl,rfl⟩))
  (fun os started H enc _=>traceCommits_lifted os started H enc)
/-- The tied card. -/
theorem traceCommits_holds : Rows.TraceCommitsCardSaid:=
 Claim7.holds_tied_plain_at .later [] [.data] true (true, "7fe83b1d6d1ccb1597622994b3a2d49022f23364398c63ec948c52f776608756") false
  traceCommits_row (fun _ h=>by cases h) (by kernel_rfl) (fun _ h=>by cases h) traceCommits_row_tie rfl ⟨rfl,rfl⟩ (by kernel_rfl) rfl
  (fun f fn hf hfn=>by
    obtain rfl : f = 4 := Option.some.inj ((show Tryz.prog.funcNamed "boomerang/boomeranglaw20.TraceCommits" = some 4 by kernel_rfl).symm.trans hf) |>.symm
    obtain rfl : fn = Tryz.f4:=(Option.some.inj (Tryz.func4.symm.trans hfn)).symm
    exact ⟨by kernel_rfl,fun j t ht=>by
     rw [Tryz.params4] at ht
     have hm : t ∈ [26,27,27]:=by simpa using Array.mem_of_getElem? ht
     have hall : ([26,27,27].all fun u=>!Tryz.prog.wantsStandIn u) = true:=by kernel_rfl
     exact (show Tryz.prog.wantsStandIn t = false by simpa using List.all_eq_true.1 hall t hm)⟩)
  (by kernel_rfl)
#print axioms traceCommits_holds
end Go.Proofs.YtcnfionnnpnplaaGreatDoor
