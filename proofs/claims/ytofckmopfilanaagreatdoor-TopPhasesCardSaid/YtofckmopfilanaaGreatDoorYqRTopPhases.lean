/- Proved: Rows.TopPhasesCardSaid, as given: for every input the law returns true. No condition. -/
import Derived.Test.YtofckmopfilanaaGreatDoorRows
import Derived.Test.YtofckmopfilanaaGreatDoorCards
import Derived.Test.YtofckmopfilanaaGreatDoorTie
import Derived.WalkKit
import Derived.ProofKit
import Derived.OpenShut
import Derived.Handy
import Derived.Lay
import Derived.SevenTiedAt
import Derived.Test.YtofckmopfilanaaGreatDoorQ3
set_option linter.unusedVariables false
namespace Go.Proofs.YtofckmopfilanaaGreatDoor.topPhases
open Go.ChangeShapes Go.WideShapes Go.ChangeAt Go.RowKit
theorem own:ownKnob Tryz.prog.godebug=none:=by kernel_rfl
theorem qy {W:World} (h:laidMetH Tryz.prog Rows.topPhasesRow.laid W):Yp.mA Tryz.prog (Yp.full W) :=
  Yp.auI (g:=3) (t:=370) (e:=270) (by kernel_rfl) (by kernel_rfl) (by kernel_rfl) (by kernel_rfl) (by kernel_rfl) (by kernel_rfl) (by kernel_rfl) (Yp.auQ (by kernel_rfl) (by kernel_rfl) h)
set_option maxRecDepth 100000 in
theorem lifted (os:Os) (started:os.Started) (H:Type) (enc:TypeId×Value→H) :
    ReturnsInHanded {} Tryz.checked os 5 .any (fun w args=>(Rows.topPhasesSpec.pre enc Tryz.prog Tryz.f5 [] false w args∧laidMetH Tryz.prog Rows.topPhasesRow.laid w)∧sizedMet enc Tryz.prog Tryz.f5 (OpenSpec.ofChange Rows.topPhasesSpec) false w args) (Rows.topPhasesSpec.post enc Tryz.prog Tryz.f5 false true false false):=by
  refine returnsInHanded_of_change_and (C:=Tryz.checked) (X:=fun w _=>laidMetH Tryz.prog Rows.topPhasesRow.laid w) (fun _ _ _ hh h=>h.of_heap hh) own started (by kernel_rfl) Tryz.func5
    (ChangeSpec.witness_shaped (enc:=enc) (C:=Tryz.checked) (os:=os) (X:=fun w _=>laidMetH Tryz.prog Rows.topPhasesRow.laid w) false (World.laidAll Tryz.prog os Rows.topPhasesRow.laid) #[.slice none 0 0, .agg #[.int .i64 0, .int .i64 0, .int .i64 0, .int .i64 0, .slice none 0 0], .slice none 0 0] 12 (World.laidAll_os _ _ _)
      (World.shaped_of_ZipB (by kernel_rfl) (by kernel_rfl)) (by kernel_rfl) (by kernel_rfl) (by kernel_rfl)
      (by rw [MakeChecks.laidMetH_plain _ _ _ (by kernel_rfl)];exact laidMet_laidAll _ (by kernel_rfl) (by kernel_rfl))) ?_
  intro W base args ds ny before hval0 hW _ _ hL _
  refine Yp.auY (ts:=[.sl (.pair (.int .i64) (.pair (.int .i64) (.pair (.int .i64) (.pair (.int .i64) (.pair (.sl (.int .u8)) (.unit)))))), .pair (.int .i64) (.pair (.int .i64) (.pair (.int .i64) (.pair (.int .i64) (.pair (.sl (.int .u8)) (.unit))))), .sl (.int .u8)]) Yp.aow (by kernel_rfl) (by kernel_rfl) (by kernel_rfl) (bt:=4) (by kernel_rfl) (by kernel_rfl) rfl (fun hl => ?_) hval0 hW (qy hL) (fun x hx=>Yp.ajD x hx)
  have hl:ds.length=3:=hl
  have hg:ny=[]:=by
    obtain ⟨_,_,_,hV,_⟩:=hW
    exact (trodVars_none hV).1
  subst hg
  match ds,hl with
  | [d0,d1,d2],_=>exact ⟨rfl,rfl,rfl⟩
set_option maxHeartbeats 20000000 in
set_option maxRecDepth 100000 in
theorem closed:joinedFacts Tryz.prog 5 Tryz.f5 Rows.topPhasesSpec Rows.topPhasesRow=true:=by
  unfold joinedFacts
  repeat with_reducible refine Yp.akC ?_ ?_
  all_goals (as_aux_lemma=>kernel_rfl)
set_option maxHeartbeats 20000000 in
theorem over:Rows.topPhasesRow.holds Tryz.pinned (OpenSpec.ofChange Rows.topPhasesSpec) :=
  OpenClaim.holds_of_wide 5 Tryz.f5 rfl rfl rfl rfl rfl rfl rfl ⟨rfl,rfl,rfl,rfl,rfl⟩ rfl rfl rfl rfl rfl (by as_aux_lemma=>kernel_rfl) Tryz.func5 closed
    (of_decide_eq_true (by kernel_rfl)) (by unfold Func.isWrapper;first | (rw [if_pos (by decide +kernel)];kernel_rfl) | (rw [if_neg (by decide +kernel)];exact ⟨rfl,rfl⟩))
    (fun os started H enc _=>lifted os started H enc)
set_option maxHeartbeats 20000000 in
theorem proved:Rows.TopPhasesCardSaid :=
  Claim7.holds_tied_plain_at .later [] [.data, .data, .pinned] true (true, "fcefc86bdb1752b19e9e9f631c313305ae06a16bd8050a0a504128dbbf4ead15") true over (fun _ h => by cases h) (by as_aux_lemma => kernel_rfl) (fun _ h => by cases h) topPhases_row_tie rfl ⟨rfl, rfl⟩ (by as_aux_lemma => kernel_rfl) rfl
    (fun f fn hf hfn=>by
      obtain rfl : f = 5 := Option.some.inj ((show Tryz.prog.funcNamed "yett/yetttop.TopPhases" = some 5 by as_aux_lemma => kernel_rfl).symm.trans hf) |>.symm
      obtain rfl:fn=Tryz.f5:=(Option.some.inj (Tryz.func5.symm.trans hfn)).symm
      exact ⟨by as_aux_lemma=>kernel_rfl,fun j t ht=>by
        have hp:Tryz.f5.params = #[23,64,26]:=by kernel_rfl
        rw [hp] at ht
        have hm:t∈[23,64,26]:=by simpa using Array.mem_of_getElem? ht
        have hall:([23,64,26].all fun u => !Tryz.prog.wantsStandIn u)=true:=by as_aux_lemma=>kernel_rfl
        exact (show Tryz.prog.wantsStandIn t=false by simpa using List.all_eq_true.1 hall t hm)⟩)
    (by as_aux_lemma=>kernel_rfl)
end Go.Proofs.YtofckmopfilanaaGreatDoor.topPhases

