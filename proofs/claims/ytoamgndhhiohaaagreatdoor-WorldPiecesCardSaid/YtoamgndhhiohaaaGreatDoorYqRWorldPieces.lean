/- Proved: Rows.WorldPiecesCardSaid, as given: for every input the law returns true. No condition. -/
import Derived.Test.YtoamgndhhiohaaaGreatDoorRows
import Derived.Test.YtoamgndhhiohaaaGreatDoorCards
import Derived.Test.YtoamgndhhiohaaaGreatDoorTie
import Derived.WalkKit
import Derived.ProofKit
import Derived.OpenShut
import Derived.Handy
import Derived.Lay
import Derived.SevenTiedAt
import Derived.Test.YtoamgndhhiohaaaGreatDoorQ3
set_option linter.unusedVariables false
namespace Go.Proofs.YtoamgndhhiohaaaGreatDoor.worldPieces
open Go.ChangeShapes Go.WideShapes Go.ChangeAt Go.RowKit
theorem own:ownKnob Tryz.prog.godebug=none:=by kernel_rfl
theorem sd {W:World} (h:laidMetH Tryz.prog Rows.worldPiecesRow.laid W):Yp.na Tryz.prog (Yp.full W) :=
  Yp.aAO (g:=0) (t:=413) (e:=240) (by kernel_rfl) (by kernel_rfl) (by kernel_rfl) (by kernel_rfl) (by kernel_rfl) (by kernel_rfl) (by kernel_rfl) h
set_option maxRecDepth 100000 in
theorem lifted (os:Os) (started:os.Started) (H:Type) (enc:TypeId×Value→H) :
    ReturnsInHanded {} Tryz.checked os 4 .any (fun w args=>(Rows.worldPiecesSpec.pre enc Tryz.prog Tryz.f4 [] false w args∧laidMetH Tryz.prog Rows.worldPiecesRow.laid w)∧sizedMet enc Tryz.prog Tryz.f4 (OpenSpec.ofChange Rows.worldPiecesSpec) false w args) (Rows.worldPiecesSpec.post enc Tryz.prog Tryz.f4 false true false false):=by
  refine returnsInHanded_of_change_and (C:=Tryz.checked) (X:=fun w _=>laidMetH Tryz.prog Rows.worldPiecesRow.laid w) (fun _ _ _ hh h=>h.of_heap hh) own started (by kernel_rfl) Tryz.func4
    (ChangeSpec.witness_shaped (enc:=enc) (C:=Tryz.checked) (os:=os) (X:=fun w _=>laidMetH Tryz.prog Rows.worldPiecesRow.laid w) false (World.laidAll Tryz.prog os Rows.worldPiecesRow.laid) #[.slice none 0 0, .int .u8 0, .int .u16 0] 12 (World.laidAll_os _ _ _)
      (World.shaped_of_ZipB (by kernel_rfl) (by kernel_rfl)) (by kernel_rfl) (by kernel_rfl) (by kernel_rfl)
      (by rw [MakeChecks.laidMetH_plain _ _ _ (by kernel_rfl)];exact laidMet_laidAll _ (by kernel_rfl) (by kernel_rfl))) ?_
  intro W base args ds n9 before hval0 hW _ _ hL _
  refine Yp.aAY (ts:=[.sl (.pair (.int .i64) (.pair (.int .i64) (.pair (.int .i64) (.pair (.int .i64) (.pair (.sl (.int .u8)) (.unit)))))), .int .u8, .int .u16]) Yp.aJ9 (by kernel_rfl) (by kernel_rfl) (by kernel_rfl) (bt:=4) (by kernel_rfl) (by kernel_rfl) rfl (fun hl => ?_) hval0 hW (sd hL) (fun x hx=>Yp.aJZ x hx)
  have hl:ds.length=3:=hl
  have hg:n9=[]:=by
    obtain ⟨_,_,_,hV,_⟩:=hW
    exact (trodVars_none hV).1
  subst hg
  match ds,hl with
  | [d0,d1,d2],_=>exact ⟨rfl,rfl,rfl⟩
set_option maxHeartbeats 20000000 in
set_option maxRecDepth 100000 in
theorem closed:joinedFacts Tryz.prog 4 Tryz.f4 Rows.worldPiecesSpec Rows.worldPiecesRow=true:=by
  unfold joinedFacts
  repeat with_reducible refine Yp.ap9 ?_ ?_
  all_goals (as_aux_lemma=>kernel_rfl)
theorem goesNo {P:Go.Program} (h:P.funcs.toList.any Go.Func.goes=false) (f:Go.FuncId):P.goes f=false:=by
  have k:∀ g:Go.FuncId,(P.funcs[g]?).any Go.Func.goes=false:=fun g=>by
    cases e:P.funcs[g]? with
    | none=>rfl
    | some x=>simpa using List.any_eq_false.1 h x (Array.mem_toList_iff.2 (Array.mem_of_getElem? e))
  unfold Go.Program.goes
  rw [← Array.any_toList,h,Bool.and_false,Bool.or_false]
  simp [k]
theorem goesBy_no {c:Go.OpenClaim} {P:Go.Program} (hs:c.start = .entering) (h:P.funcs.toList.any Go.Func.goes=false):false=c.goesBy P:=by
  unfold Go.OpenClaim.goesBy Go.Program.goesAt Go.Program.goesFrom
  rw [hs]
  cases P.funcNamed c.func with
  | none=>rfl
  | some f=>simp [goesNo h]
set_option maxHeartbeats 20000000 in
theorem inst:Tryz.f4.isInstance Tryz.prog Rows.worldPiecesRow.origin Rows.worldPiecesRow.targs:=of_decide_eq_true (by as_aux_lemma=>kernel_rfl)
theorem wrap:Tryz.f4.isWrapper Tryz.prog Rows.worldPiecesRow.wrapper Rows.worldPiecesRow.mainSum:=by unfold Func.isWrapper;first | (rw [if_pos (by decide +kernel)];kernel_rfl) | (rw [if_neg (by decide +kernel)];exact ⟨rfl,rfl⟩)
theorem named:Tryz.prog.funcNamed Rows.worldPiecesRow.func=some 4:=by kernel_rfl
set_option maxHeartbeats 20000000 in
theorem over:Rows.worldPiecesRow.holds Tryz.pinned (OpenSpec.ofChange Rows.worldPiecesSpec) :=
  OpenClaim.holds_of_wide 4 Tryz.f4 (by as_aux_lemma=>kernel_rfl) (by as_aux_lemma=>kernel_rfl) (by as_aux_lemma=>kernel_rfl) (by as_aux_lemma=>kernel_rfl) (by as_aux_lemma=>kernel_rfl) (by as_aux_lemma=>kernel_rfl) (by as_aux_lemma=>kernel_rfl) ⟨by as_aux_lemma=>kernel_rfl,by as_aux_lemma=>kernel_rfl,by as_aux_lemma=>kernel_rfl,by as_aux_lemma=>kernel_rfl,by as_aux_lemma=>kernel_rfl⟩ (by as_aux_lemma=>kernel_rfl) (by as_aux_lemma=>kernel_rfl) (by as_aux_lemma=>kernel_rfl) (by as_aux_lemma=>kernel_rfl) (by as_aux_lemma=>kernel_rfl) named Tryz.func4 closed
    inst wrap
    (fun os started H enc _=>lifted os started H enc)
set_option maxHeartbeats 20000000 in
theorem proved:Rows.WorldPiecesCardSaid :=
  Claim7.holds_tied_plain_at .later [] [.data] true (true, "67e2f6aa0ff1c40c20a74c4bd38f3acd18f2a9a209512139adf5bdd1f29eb4ea") true over (fun _ h => by cases h) (by as_aux_lemma => kernel_rfl) (fun _ h => by cases h) worldPieces_row_tie (by as_aux_lemma => kernel_rfl) ⟨by as_aux_lemma => kernel_rfl, by as_aux_lemma => kernel_rfl⟩ (by as_aux_lemma => kernel_rfl) (by as_aux_lemma => kernel_rfl)
    (fun f fn hf hfn=>by
      obtain rfl:f=4:=Option.some.inj (named.symm.trans hf) |>.symm
      obtain rfl:fn=Tryz.f4:=(Option.some.inj (Tryz.func4.symm.trans hfn)).symm
      exact ⟨by as_aux_lemma=>kernel_rfl,fun j t ht=>by
        have hp:Tryz.f4.params = #[22,5,71]:=by as_aux_lemma=>kernel_rfl
        rw [hp] at ht
        have hm:t∈[22,5,71]:=by simpa using Array.mem_of_getElem? ht
        have hall:([22,5,71].all fun u => !Tryz.prog.wantsStandIn u)=true:=by as_aux_lemma=>kernel_rfl
        exact (show Tryz.prog.wantsStandIn t=false by simpa using List.all_eq_true.1 hall t hm)⟩)
    (goesBy_no (by as_aux_lemma=>kernel_rfl) (by as_aux_lemma=>kernel_rfl))
end Go.Proofs.YtoamgndhhiohaaaGreatDoor.worldPieces

