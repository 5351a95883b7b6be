/- Proved: Rows.ToolActsCardSaid, as given: for every input the law returns true. No condition. -/
import Derived.Test.YtifmobcdnjcpiaaGreatDoorRows
import Derived.Test.YtifmobcdnjcpiaaGreatDoorCards
import Derived.Test.YtifmobcdnjcpiaaGreatDoorTie
import Derived.WalkKit
import Derived.ProofKit
import Derived.OpenShut
import Derived.Handy
import Derived.Lay
import Derived.SevenTiedAt
import Derived.Test.YtifmobcdnjcpiaaGreatDoorQ2
set_option linter.unusedVariables false
namespace Go.Proofs.YtifmobcdnjcpiaaGreatDoor.toolActs
open Go.ChangeShapes Go.WideShapes Go.ChangeAt Go.RowKit
theorem own:ownKnob Tryz.prog.godebug=none:=by kernel_rfl
theorem pK {W:World} (h:laidMetH Tryz.prog Rows.toolActsRow.laid W):Yp.lM Tryz.prog (Yp.full W) :=
  Yp.aso (g:=3) (t:=337) (e:=22) (by kernel_rfl) (by kernel_rfl) (by kernel_rfl) (by kernel_rfl) (by kernel_rfl) (by kernel_rfl) (by kernel_rfl) (Yp.asr (by kernel_rfl) (by kernel_rfl) h)
set_option maxRecDepth 100000 in
theorem lifted (os:Os) (started:os.Started) (H:Type) (enc:TypeId×Value→H) :
    ReturnsInHanded {} Tryz.checked os 3 .any (fun w args=>(Rows.toolActsSpec.pre enc Tryz.prog Tryz.f3 [] false w args∧laidMetH Tryz.prog Rows.toolActsRow.laid w)∧sizedMet enc Tryz.prog Tryz.f3 (OpenSpec.ofChange Rows.toolActsSpec) false w args) (Rows.toolActsSpec.post enc Tryz.prog Tryz.f3 false true false false):=by
  refine returnsInHanded_of_change_and (C:=Tryz.checked) (X:=fun w _=>laidMetH Tryz.prog Rows.toolActsRow.laid w) (fun _ _ _ hh h=>h.of_heap hh) own started (by kernel_rfl) Tryz.func3
    (ChangeSpec.witness_shaped (enc:=enc) (C:=Tryz.checked) (os:=os) (X:=fun w _=>laidMetH Tryz.prog Rows.toolActsRow.laid w) false (World.laidAll Tryz.prog os Rows.toolActsRow.laid) #[.agg #[.int .u8 0, .bool false, .int .u32 0, .int .u32 0, .slice none 0 0]] 12 (World.laidAll_os _ _ _)
      (World.shaped_of_ZipB (by kernel_rfl) (by kernel_rfl)) (by kernel_rfl) (by kernel_rfl) (by kernel_rfl)
      (by rw [MakeChecks.laidMetH_plain _ _ _ (by kernel_rfl)];exact laidMet_laidAll _ (by kernel_rfl) (by kernel_rfl))) ?_
  intro W base args ds mI before hval0 hW _ _ hL _
  refine Yp.asz (ts:=[.pair (.int .u8) (.pair (.bool) (.pair (.int .u32) (.pair (.int .u32) (.pair (.sl (.int .u8)) (.unit)))))]) Yp.akP (by kernel_rfl) (by kernel_rfl) (by kernel_rfl) (bt:=4) (by kernel_rfl) (by kernel_rfl) rfl (fun hl => ?_) hval0 hW (pK hL) (fun x hx=>Yp.aiv x hx)
  have hl:ds.length=1:=hl
  have hg:mI=[]:=by
    obtain ⟨_,_,_,hV,_⟩:=hW
    exact (trodVars_none hV).1
  subst hg
  match ds,hl with
  | [d0],_=>exact ⟨rfl,rfl,rfl⟩
set_option maxHeartbeats 20000000 in
set_option maxRecDepth 100000 in
theorem closed:joinedFacts Tryz.prog 3 Tryz.f3 Rows.toolActsSpec Rows.toolActsRow=true:=by
  unfold joinedFacts
  repeat with_reducible refine Yp.aiQ ?_ ?_
  all_goals (as_aux_lemma=>kernel_rfl)
set_option maxHeartbeats 20000000 in
theorem inst:Tryz.f3.isInstance Tryz.prog Rows.toolActsRow.origin Rows.toolActsRow.targs:=of_decide_eq_true (by as_aux_lemma=>kernel_rfl)
theorem wrap:Tryz.f3.isWrapper Tryz.prog Rows.toolActsRow.wrapper Rows.toolActsRow.mainSum:=by unfold Func.isWrapper;first | (rw [if_pos (by decide +kernel)];kernel_rfl) | (rw [if_neg (by decide +kernel)];exact ⟨rfl,rfl⟩)
theorem named:Tryz.prog.funcNamed Rows.toolActsRow.func=some 3:=by kernel_rfl
set_option maxHeartbeats 20000000 in
theorem over:Rows.toolActsRow.holds Tryz.pinned (OpenSpec.ofChange Rows.toolActsSpec) :=
  OpenClaim.holds_of_wide 3 Tryz.f3 rfl rfl rfl rfl rfl rfl rfl ⟨rfl,rfl,rfl,rfl,rfl⟩ rfl rfl rfl rfl rfl named Tryz.func3 closed
    inst wrap
    (fun os started H enc _=>lifted os started H enc)
set_option maxHeartbeats 20000000 in
theorem proved:Rows.ToolActsCardSaid :=
  Claim7.holds_tied_plain_at .later [] [.data, .data, .pinned] true (true, "5a531c5726dcae2770c6130bb2d30f620b68301fb17c36d6fcfaa20478f2ffd4") true over (fun _ h => by cases h) (by as_aux_lemma => kernel_rfl) (fun _ h => by cases h) toolActs_row_tie rfl ⟨rfl, rfl⟩ (by as_aux_lemma => kernel_rfl) rfl
    (fun f fn hf hfn=>by
      obtain rfl:f=3:=Option.some.inj (named.symm.trans hf) |>.symm
      obtain rfl:fn=Tryz.f3:=(Option.some.inj (Tryz.func3.symm.trans hfn)).symm
      exact ⟨by as_aux_lemma=>kernel_rfl,fun j t ht=>by
        have hp:Tryz.f3.params = #[25]:=by as_aux_lemma=>kernel_rfl
        rw [hp] at ht
        have hm:t∈[25]:=by simpa using Array.mem_of_getElem? ht
        have hall:([25].all fun u => !Tryz.prog.wantsStandIn u)=true:=by as_aux_lemma=>kernel_rfl
        exact (show Tryz.prog.wantsStandIn t=false by simpa using List.all_eq_true.1 hall t hm)⟩)
    (by as_aux_lemma=>kernel_rfl)
end Go.Proofs.YtifmobcdnjcpiaaGreatDoor.toolActs

