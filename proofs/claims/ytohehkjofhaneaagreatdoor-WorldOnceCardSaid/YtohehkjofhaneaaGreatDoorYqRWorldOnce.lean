/- Proved: Rows.WorldOnceCardSaid, as given: for every input the law returns true. No condition. -/
import Derived.Test.YtohehkjofhaneaaGreatDoorRows
import Derived.Test.YtohehkjofhaneaaGreatDoorCards
import Derived.Test.YtohehkjofhaneaaGreatDoorTie
import Derived.WalkKit
import Derived.ProofKit
import Derived.OpenShut
import Derived.Handy
import Derived.Lay
import Derived.SevenTiedAt
import Derived.Test.YtohehkjofhaneaaGreatDoorQ2
set_option linter.unusedVariables false
namespace Go.Proofs.YtohehkjofhaneaaGreatDoor.worldOnce
open Go.ChangeShapes Go.WideShapes Go.ChangeAt Go.RowKit
theorem own:ownKnob Tryz.prog.godebug=none:=by kernel_rfl
theorem nr {W:World} (h:laidMetH Tryz.prog Rows.worldOnceRow.laid W):Yp.ly Tryz.prog (Yp.full W) :=
  Yp.TQ (g:=0) (t:=299) (e:=208) (by kernel_rfl) (by kernel_rfl) (by kernel_rfl) (by kernel_rfl) (by kernel_rfl) (by kernel_rfl) (by kernel_rfl) h
set_option maxRecDepth 100000 in
theorem lifted (os:Os) (started:os.Started) (H:Type) (enc:TypeId×Value→H) :
    ReturnsInHanded {} Tryz.checked os 5 .any (fun w args=>(Rows.worldOnceSpec.pre enc Tryz.prog Tryz.f5 [] false w args∧laidMetH Tryz.prog Rows.worldOnceRow.laid w)∧sizedMet enc Tryz.prog Tryz.f5 (OpenSpec.ofChange Rows.worldOnceSpec) false w args) (Rows.worldOnceSpec.post enc Tryz.prog Tryz.f5 false true false false):=by
  refine returnsInHanded_of_change_and (C:=Tryz.checked) (X:=fun w _=>laidMetH Tryz.prog Rows.worldOnceRow.laid w) (fun _ _ _ hh h=>h.of_heap hh) own started (by kernel_rfl) Tryz.func5
    (ChangeSpec.witness_shaped (enc:=enc) (C:=Tryz.checked) (os:=os) (X:=fun w _=>laidMetH Tryz.prog Rows.worldOnceRow.laid w) false (World.laidAll Tryz.prog os Rows.worldOnceRow.laid) #[.agg #[.int .u8 0, .int .u16 0, .int .u8 0, .int .u8 0]] 12 (World.laidAll_os _ _ _)
      (World.shaped_of_ZipB (by kernel_rfl) (by kernel_rfl)) (by kernel_rfl) (by kernel_rfl) (by kernel_rfl)
      (by rw [MakeChecks.laidMetH_plain _ _ _ (by kernel_rfl)];exact laidMet_laidAll _ (by kernel_rfl) (by kernel_rfl))) ?_
  intro W base args ds ls before hval0 hW _ _ hL _
  refine Yp.T0 (ts:=[.pair (.int .u8) (.pair (.int .u16) (.pair (.int .u8) (.pair (.int .u8) (.unit))))]) Yp.alh (by kernel_rfl) (by kernel_rfl) (by kernel_rfl) (bt:=4) (by kernel_rfl) (by kernel_rfl) rfl (fun hl => ?_) hval0 hW (nr hL) (fun x hx=>Yp.ai3 x hx)
  have hl:ds.length=1:=hl
  have hg:ls=[]:=by
    obtain ⟨_,_,_,hV,_⟩:=hW
    exact (trodVars_none hV).1
  subst hg
  match ds,hl with
  | [d0],_=>exact ⟨rfl,rfl,rfl⟩
set_option maxHeartbeats 20000000 in
set_option maxRecDepth 100000 in
theorem closed:joinedFacts Tryz.prog 5 Tryz.f5 Rows.worldOnceSpec Rows.worldOnceRow=true:=by
  unfold joinedFacts
  repeat with_reducible refine Yp.PS ?_ ?_
  all_goals (as_aux_lemma=>kernel_rfl)
set_option maxHeartbeats 20000000 in
theorem over:Rows.worldOnceRow.holds Tryz.pinned (OpenSpec.ofChange Rows.worldOnceSpec) :=
  OpenClaim.holds_of_wide 5 Tryz.f5 rfl rfl rfl rfl rfl rfl rfl ⟨rfl,rfl,rfl,rfl,rfl⟩ rfl rfl rfl rfl rfl (by as_aux_lemma=>kernel_rfl) Tryz.func5 closed
    (of_decide_eq_true (by kernel_rfl)) (by unfold Func.isWrapper;first | (rw [if_pos (by decide +kernel)];kernel_rfl) | (rw [if_neg (by decide +kernel)];exact ⟨rfl,rfl⟩))
    (fun os started H enc _=>lifted os started H enc)
set_option maxHeartbeats 20000000 in
theorem proved:Rows.WorldOnceCardSaid :=
  Claim7.holds_tied_plain_at .later [] [.data] true (true, "3b8e922239f879f43b23e5e4b33f7ac1f56a3a26718642269fa42bcad88d55e7") true over (fun _ h => by cases h) (by as_aux_lemma => kernel_rfl) (fun _ h => by cases h) worldOnce_row_tie rfl ⟨rfl, rfl⟩ (by as_aux_lemma => kernel_rfl) rfl
    (fun f fn hf hfn=>by
      obtain rfl : f = 5 := Option.some.inj ((show Tryz.prog.funcNamed "yett/yettlaw23.WorldOnce" = some 5 by as_aux_lemma => kernel_rfl).symm.trans hf) |>.symm
      obtain rfl:fn=Tryz.f5:=(Option.some.inj (Tryz.func5.symm.trans hfn)).symm
      exact ⟨by as_aux_lemma=>kernel_rfl,fun j t ht=>by
        have hp:Tryz.f5.params = #[79]:=by kernel_rfl
        rw [hp] at ht
        have hm:t∈[79]:=by simpa using Array.mem_of_getElem? ht
        have hall:([79].all fun u => !Tryz.prog.wantsStandIn u)=true:=by as_aux_lemma=>kernel_rfl
        exact (show Tryz.prog.wantsStandIn t=false by simpa using List.all_eq_true.1 hall t hm)⟩)
    (by as_aux_lemma=>kernel_rfl)
end Go.Proofs.YtohehkjofhaneaaGreatDoor.worldOnce

