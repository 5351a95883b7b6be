/- Proved: Rows.GateMeetsCardSaid, as given: for every input the law returns true. No condition. -/
import Derived.Test.YtbpaehkcjccplaaGreatDoorRows
import Derived.Test.YtbpaehkcjccplaaGreatDoorCards
import Derived.Test.YtbpaehkcjccplaaGreatDoorTie
import Derived.WalkKit
import Derived.ProofKit
import Derived.OpenShut
import Derived.Handy
import Derived.Lay
import Derived.SevenTiedAt
import Derived.Test.YtbpaehkcjccplaaGreatDoorQ2
set_option linter.unusedVariables false
namespace Go.Proofs.YtbpaehkcjccplaaGreatDoor.gateMeets
open Go.ChangeShapes Go.WideShapes Go.ChangeAt Go.RowKit
theorem own:ownKnob Tryz.prog.godebug=none:=by kernel_rfl
theorem qbQ {W:World} (h:laidMetH Tryz.prog Rows.gateMeetsRow.laid W):Yp.yO Tryz.prog (Yp.full W) :=
  Yp.qzB (g:=0) (t:=398) (e:=148) (by kernel_rfl) (by kernel_rfl) (by kernel_rfl) (by kernel_rfl) (by kernel_rfl) (by kernel_rfl) (by kernel_rfl) h
set_option maxRecDepth 100000 in
theorem lifted (os:Os) (started:os.Started) (H:Type) (enc:TypeId×Value→H) :
    ReturnsInHanded {} Tryz.checked os 20 .any (fun w args=>(Rows.gateMeetsSpec.pre enc Tryz.prog Tryz.f20 [] false w args∧laidMetH Tryz.prog Rows.gateMeetsRow.laid w)∧sizedMet enc Tryz.prog Tryz.f20 (OpenSpec.ofChange Rows.gateMeetsSpec) false w args) (Rows.gateMeetsSpec.post enc Tryz.prog Tryz.f20 false true false false):=by
  refine returnsInHanded_of_change_and (C:=Tryz.checked) (X:=fun w _=>laidMetH Tryz.prog Rows.gateMeetsRow.laid w) (fun _ _ _ hh h=>h.of_heap hh) own started (by kernel_rfl) Tryz.func20
    (ChangeSpec.witness_shaped (enc:=enc) (C:=Tryz.checked) (os:=os) (X:=fun w _=>laidMetH Tryz.prog Rows.gateMeetsRow.laid w) false (World.laidAll Tryz.prog os Rows.gateMeetsRow.laid) #[.int .u16 0, .int .u16 0, .int .u16 0] 12 (World.laidAll_os _ _ _)
      (World.shaped_of_ZipB (by kernel_rfl) (by kernel_rfl)) (by kernel_rfl) (by kernel_rfl) (by kernel_rfl)
      (by rw [MakeChecks.laidMetH_plain _ _ _ (by kernel_rfl)];exact laidMet_laidAll _ (by kernel_rfl) (by kernel_rfl))) ?_
  intro W base args ds gs before hval0 hW _ _ hL _
  refine Yp.qHN (ts:=[.int .u16, .int .u16, .int .u16]) Yp.qnD (by kernel_rfl) (by kernel_rfl) (by kernel_rfl) (bt:=4) (by kernel_rfl) (by kernel_rfl) rfl (fun hl => ?_) hval0 hW (qbQ hL) (fun x hx=>Yp.qxQ x hx)
  have hl:ds.length=3:=hl
  have hg:gs=[]:=by
    obtain ⟨_,_,_,hV,_⟩:=hW
    exact (trodVars_none hV).1
  subst hg
  match ds,hl with
  | [d0,d1,d2],_=>exact ⟨rfl,rfl,rfl⟩
set_option maxHeartbeats 20000000 in
set_option maxRecDepth 100000 in
theorem closed:joinedFacts Tryz.prog 20 Tryz.f20 Rows.gateMeetsSpec Rows.gateMeetsRow=true:=by
  unfold joinedFacts
  repeat with_reducible refine Yp.qLv ?_ ?_
  all_goals (as_aux_lemma=>kernel_rfl)
set_option maxHeartbeats 20000000 in
theorem over:Rows.gateMeetsRow.holds Tryz.pinned (OpenSpec.ofChange Rows.gateMeetsSpec) :=
  OpenClaim.holds_of_wide 20 Tryz.f20 rfl rfl rfl rfl rfl rfl rfl ⟨rfl,rfl,rfl,rfl,rfl⟩ rfl rfl rfl rfl rfl (by as_aux_lemma=>kernel_rfl) Tryz.func20 closed
    (of_decide_eq_true (by kernel_rfl)) (by unfold Func.isWrapper;first | (rw [if_pos (by decide +kernel)];kernel_rfl) | (rw [if_neg (by decide +kernel)];exact ⟨rfl,rfl⟩))
    (fun os started H enc _=>lifted os started H enc)
set_option maxHeartbeats 20000000 in
theorem proved:Rows.GateMeetsCardSaid :=
  Claim7.holds_tied_plain_at .later [] [.data] true (true, "3cb31a1aabac6100acadba78b4e78ab63778e8251ebb80431c2835cb5a6a3392") false over (fun _ h => by cases h) (by as_aux_lemma => kernel_rfl) (fun _ h => by cases h) gateMeets_row_tie rfl ⟨rfl, rfl⟩ (by as_aux_lemma => kernel_rfl) rfl
    (fun f fn hf hfn=>by
      obtain rfl : f = 20 := Option.some.inj ((show Tryz.prog.funcNamed "yett/yettlaw21.GateMeets" = some 20 by as_aux_lemma => kernel_rfl).symm.trans hf) |>.symm
      obtain rfl:fn=Tryz.f20:=(Option.some.inj (Tryz.func20.symm.trans hfn)).symm
      exact ⟨by as_aux_lemma=>kernel_rfl,fun j t ht=>by
        have hp:Tryz.f20.params = #[121,121,121]:=by kernel_rfl
        rw [hp] at ht
        have hm:t∈[121,121,121]:=by simpa using Array.mem_of_getElem? ht
        have hall:([121,121,121].all fun u => !Tryz.prog.wantsStandIn u)=true:=by as_aux_lemma=>kernel_rfl
        exact (show Tryz.prog.wantsStandIn t=false by simpa using List.all_eq_true.1 hall t hm)⟩)
    (by as_aux_lemma=>kernel_rfl)
end Go.Proofs.YtbpaehkcjccplaaGreatDoor.gateMeets

