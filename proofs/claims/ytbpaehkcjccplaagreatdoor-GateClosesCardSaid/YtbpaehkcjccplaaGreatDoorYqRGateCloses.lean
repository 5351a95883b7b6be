/- Proved: Rows.GateClosesCardSaid, as given: for every input the law returns true. No condition. -/
import Derived.Test.YtbpaehkcjccplaaGreatDoorRows
import Derived.Test.YtbpaehkcjccplaaGreatDoorCards
import Derived.Test.YtbpaehkcjccplaaGreatDoorTie
import Derived.WalkKit
import Derived.ProofKit
import Derived.OpenShut
import Derived.Handy
import Derived.Lay
import Derived.SevenTiedAt
import Derived.Test.YtbpaehkcjccplaaGreatDoorQ2
set_option linter.unusedVariables false
namespace Go.Proofs.YtbpaehkcjccplaaGreatDoor.gateCloses
open Go.ChangeShapes Go.WideShapes Go.ChangeAt Go.RowKit
theorem own:ownKnob Tryz.prog.godebug=none:=by kernel_rfl
theorem y3 {W:World} (h:laidMetH Tryz.prog Rows.gateClosesRow.laid W):Yp.kU Tryz.prog (Yp.full W) :=
  Yp.qgR (g:=0) (t:=398) (e:=148) (by kernel_rfl) (by kernel_rfl) (by kernel_rfl) (by kernel_rfl) (by kernel_rfl) (by kernel_rfl) (by kernel_rfl) h
set_option maxRecDepth 100000 in
theorem lifted (os:Os) (started:os.Started) (H:Type) (enc:TypeId×Value→H) :
    ReturnsInHanded {} Tryz.checked os 19 .any (fun w args=>(Rows.gateClosesSpec.pre enc Tryz.prog Tryz.f19 [] false w args∧laidMetH Tryz.prog Rows.gateClosesRow.laid w)∧sizedMet enc Tryz.prog Tryz.f19 (OpenSpec.ofChange Rows.gateClosesSpec) false w args) (Rows.gateClosesSpec.post enc Tryz.prog Tryz.f19 false true false false):=by
  refine returnsInHanded_of_change_and (C:=Tryz.checked) (X:=fun w _=>laidMetH Tryz.prog Rows.gateClosesRow.laid w) (fun _ _ _ hh h=>h.of_heap hh) own started (by kernel_rfl) Tryz.func19
    (ChangeSpec.witness_shaped (enc:=enc) (C:=Tryz.checked) (os:=os) (X:=fun w _=>laidMetH Tryz.prog Rows.gateClosesRow.laid w) false (World.laidAll Tryz.prog os Rows.gateClosesRow.laid) #[.int .u16 0, .int .u32 0, .bool false] 12 (World.laidAll_os _ _ _)
      (World.shaped_of_ZipB (by kernel_rfl) (by kernel_rfl)) (by kernel_rfl) (by kernel_rfl) (by kernel_rfl)
      (by rw [MakeChecks.laidMetH_plain _ _ _ (by kernel_rfl)];exact laidMet_laidAll _ (by kernel_rfl) (by kernel_rfl))) ?_
  intro W base args ds gs before hval0 hW _ _ hL _
  refine Yp.qvM (ts:=[.int .u16, .int .u32, .bool]) Yp.qlT (by kernel_rfl) (by kernel_rfl) (by kernel_rfl) (bt:=4) (by kernel_rfl) (by kernel_rfl) rfl (fun hl => ?_) hval0 hW (y3 hL) (fun x hx=>Yp.qtM x hx)
  have hl:ds.length=3:=hl
  have hg:gs=[]:=by
    obtain ⟨_,_,_,hV,_⟩:=hW
    exact (trodVars_none hV).1
  subst hg
  match ds,hl with
  | [d0,d1,d2],_=>exact ⟨rfl,rfl,rfl⟩
set_option maxHeartbeats 20000000 in
set_option maxRecDepth 100000 in
theorem closed:joinedFacts Tryz.prog 19 Tryz.f19 Rows.gateClosesSpec Rows.gateClosesRow=true:=by
  unfold joinedFacts
  repeat with_reducible refine Yp.qGI ?_ ?_
  all_goals (as_aux_lemma=>kernel_rfl)
set_option maxHeartbeats 20000000 in
theorem over:Rows.gateClosesRow.holds Tryz.pinned (OpenSpec.ofChange Rows.gateClosesSpec) :=
  OpenClaim.holds_of_wide 19 Tryz.f19 rfl rfl rfl rfl rfl rfl rfl ⟨rfl,rfl,rfl,rfl,rfl⟩ rfl rfl rfl rfl rfl (by as_aux_lemma=>kernel_rfl) Tryz.func19 closed
    (of_decide_eq_true (by kernel_rfl)) (by unfold Func.isWrapper;first | (rw [if_pos (by decide +kernel)];kernel_rfl) | (rw [if_neg (by decide +kernel)];exact ⟨rfl,rfl⟩))
    (fun os started H enc _=>lifted os started H enc)
set_option maxHeartbeats 20000000 in
theorem proved:Rows.GateClosesCardSaid :=
  Claim7.holds_tied_plain_at .later [] [.data] true (true, "3cb31a1aabac6100acadba78b4e78ab63778e8251ebb80431c2835cb5a6a3392") false over (fun _ h => by cases h) (by as_aux_lemma => kernel_rfl) (fun _ h => by cases h) gateCloses_row_tie rfl ⟨rfl, rfl⟩ (by as_aux_lemma => kernel_rfl) rfl
    (fun f fn hf hfn=>by
      obtain rfl : f = 19 := Option.some.inj ((show Tryz.prog.funcNamed "yett/yettlaw21.GateCloses" = some 19 by as_aux_lemma => kernel_rfl).symm.trans hf) |>.symm
      obtain rfl:fn=Tryz.f19:=(Option.some.inj (Tryz.func19.symm.trans hfn)).symm
      exact ⟨by as_aux_lemma=>kernel_rfl,fun j t ht=>by
        have hp:Tryz.f19.params = #[121,148,4]:=by kernel_rfl
        rw [hp] at ht
        have hm:t∈[121,148,4]:=by simpa using Array.mem_of_getElem? ht
        have hall:([121,148,4].all fun u => !Tryz.prog.wantsStandIn u)=true:=by as_aux_lemma=>kernel_rfl
        exact (show Tryz.prog.wantsStandIn t=false by simpa using List.all_eq_true.1 hall t hm)⟩)
    (by as_aux_lemma=>kernel_rfl)
end Go.Proofs.YtbpaehkcjccplaaGreatDoor.gateCloses

