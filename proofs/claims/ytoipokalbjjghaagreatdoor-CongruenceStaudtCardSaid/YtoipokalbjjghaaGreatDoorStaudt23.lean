/- Part 23 of the texts for the claim. -/
import Derived.Test.YtoipokalbjjghaaGreatDoorStaudt22
import Derived.Test.YtoipokalbjjghaaGreatDoorRows
import Derived.SevenTiedAt
set_option linter.unusedVariables false
set_option linter.unusedSimpArgs false
namespace Go.Proofs.YtoipokalbjjghaaGreatDoor
set_option linter.unusedVariables false
set_option linter.unusedSimpArgs false
open Go Go.Proofs
set_option maxRecDepth 100000
theorem j3_h1 : Rows.congruenceStaudtRow.wf (OpenSpec.ofChange Rows.congruenceStaudtSpec) = true := by kernel_rfl
theorem j3_h4 : (Tryz.f3.params.all (Tryz.prog.readableRec ·) && namedTie Tryz.prog Rows.congruenceStaudtRow.named Rows.congruenceStaudtSpec.vars && (Rows.congruenceStaudtRow.stops == []) && (Tryz.prog.stops == []) && (Rows.congruenceStaudtRow.knobs == []) && (Tryz.prog.stopKnobs == [])) = true := by kernel_rfl
theorem j3_h9 : ((Rows.congruenceStaudtRow.maps == (Tryz.f3.params.toList ++ Rows.congruenceStaudtSpec.plain.varTypes Tryz.prog).any (Tryz.prog.mapsRec ·)) && (Rows.congruenceStaudtRow.ifaces == (Tryz.f3.params.toList ++ Rows.congruenceStaudtSpec.plain.varTypes Tryz.prog).any (Tryz.prog.ifacesRec ·)) && (Rows.congruenceStaudtRow.mapsOut == Tryz.prog.mapsAmong Tryz.f3.resultTypes.toList) && (Rows.congruenceStaudtRow.loops == (Tryz.f3.params.toList ++ Rows.congruenceStaudtSpec.plain.varTypes Tryz.prog).any (Tryz.prog.loopsFrom ·)) && (Rows.congruenceStaudtRow.wideKeys == (Tryz.f3.params.toList ++ Rows.congruenceStaudtSpec.plain.varTypes Tryz.prog ++ Tryz.f3.resultTypes.toList).any (Tryz.prog.wideKeysFrom ·))) = true := by kernel_rfl
theorem j3_h10 : (Rows.congruenceStaudtSpec.vars.all (Tryz.prog.varReadable ·) && Tryz.f3.resultTypes.all (fun t => Tryz.prog.readableRec t && decide (t < Tryz.prog.types.size)) && (Rows.congruenceStaudtRow.ifacesOut == Tryz.f3.resultTypes.toList.any (Tryz.prog.ifacesRec ·)) && (Rows.congruenceStaudtRow.loopsOut == Tryz.f3.resultTypes.toList.any (Tryz.prog.loopsFrom ·))) = true := by kernel_rfl
theorem j3_h14 : (Rows.congruenceStaudtRow.lifted == Tryz.prog.liftsFinal && (Tryz.prog.make == some Rows.congruenceStaudtRow.make)) = true := by kernel_rfl
theorem j3_h15 : ((Rows.congruenceStaudtRow.kinds == (if Rows.congruenceStaudtRow.domain.isEmpty then [] else Tryz.f3.params.toList.map fun t => match Tryz.prog.underlying t with | some (.int k) => some k | _ => none)) && (Rows.congruenceStaudtRow.pinned == Rows.congruenceStaudtRow.pinnedBy)) = true := by kernel_rfl
theorem j3_h16 : ((Rows.congruenceStaudtRow.veiled == (Tryz.f3.params.toList ++ Rows.congruenceStaudtSpec.plain.varTypes Tryz.prog ++ Tryz.f3.resultTypes.toList).any (Tryz.prog.veiledRec ·)) && Rows.congruenceStaudtRow.veiledFits Tryz.prog Tryz.f3.params.toList (Tryz.f3.params.toList ++ Rows.congruenceStaudtSpec.plain.varTypes Tryz.prog ++ Tryz.f3.resultTypes.toList)) = true := by kernel_rfl
theorem joint3 : joinedFacts Tryz.prog 3 Tryz.f3 Rows.congruenceStaudtSpec Rows.congruenceStaudtRow = true :=
  Go.Joint.joined j3_h1 laidOut57 mapsRowed57 j3_h4 inPl3 unf3 rec3 named3 j3_h9 j3_h10 keys57 (by rw [heard57]; rfl) enter57 j3_h14 j3_h15 j3_h16
end Go.Proofs.YtoipokalbjjghaaGreatDoor
namespace Go.Proofs.YtoipokalbjjghaaGreatDoor
set_option linter.unusedVariables false
set_option linter.unusedSimpArgs false
open Go Go.Proofs Go.Wf Go.Ev Go.RowKit Go.ChangeShapes Go.WideShapes Go.ChangeAt
set_option maxRecDepth 100000
theorem noInit3 : Tryz.prog.inits.idxOf? 3 = none := by kernel_rfl
def wArgs3 : Array Value := #[.int .i64 0]
theorem wOk3 (os : Os) : Input.okWideB Tryz.prog ((World.laidAll Tryz.prog os laidL).forCall (fun _ _ => 0) ⟨#[], wArgs3, []⟩) 3 ⟨#[], wArgs3, []⟩ = true := by kernel_rfl
theorem wPre3 (os : Os) (H : Type) (enc : TypeId × Value → H) : Rows.congruenceStaudtSpec.preB enc Tryz.prog Tryz.f3 [] false ((World.laidAll Tryz.prog os laidL).forCall (fun _ _ => 0) ⟨#[], wArgs3, []⟩).memory wArgs3 8 = true := by kernel_rfl
theorem wSized3 (os : Os) (H : Type) (enc : TypeId × Value → H) : Rows.congruenceStaudtSpec.sizedB enc Tryz.prog Tryz.f3 false ((World.laidAll Tryz.prog os laidL).forCall (fun _ _ => 0) ⟨#[], wArgs3, []⟩).memory wArgs3 8 = true := by kernel_rfl
theorem read3 : Tryz.prog.readableRec 3 = true := by kernel_rfl
theorem lt3 : 3 < Tryz.prog.types.size := of_decide_eq_true (by kernel_rfl)
set_option linter.unusedVariables false in
theorem lifted3 (os : Os) (started : os.Started) (H : Type) (enc : TypeId × Value → H) :
    ReturnsInHanded {} Tryz.checked os 3 .any (fun w args => (Rows.congruenceStaudtSpec.pre enc Tryz.prog Tryz.f3 [] false w args ∧ laidMetH Tryz.prog laidL w) ∧ sizedMet enc Tryz.prog Tryz.f3 (OpenSpec.ofChange Rows.congruenceStaudtSpec) false w args)
      (Rows.congruenceStaudtSpec.post enc Tryz.prog Tryz.f3 false true false false) := by
  refine returnsInHanded_of_change_and (C := Tryz.checked) (X := fun w _ => laidMetH Tryz.prog laidL w) (fun _ _ _ hh h => h.of_heap hh) own57 started noInit3 Tryz.func3
    (ChangeSpec.witness_shaped (enc := enc) (C := Tryz.checked) (os := os) (X := fun w _ => laidMetH Tryz.prog laidL w) false (World.laidAll Tryz.prog os laidL) wArgs3 8 (World.laidAll_os _ _ _)
      (World.shaped_of_ZipB (wZip os _) (wRest os _)) (wOk3 os) (wPre3 os H enc) (wSized3 os H enc)
      (by rw [MakeChecks.laidMetH_plain _ _ _ plainL]; exact laidMet_laidAll _ (wFits os) (wIfaces os))) ?_
  intro W base args ds gs before hval0 hW _ _ hL _
  have hval : ∀ (j : Nat) t v, Tryz.f3.params[j]? = some t → args[j]? = some v → Value.okWide Tryz.prog W .any base t v := hval0
  have hW' := hW
  obtain ⟨p, q, hA0, hV, rfl, _, _⟩ := hW
  have hA : DataW.TrodAll enc Tryz.prog W 0 (fun _ => true) true Tryz.f3.params.toList args.toList ds p := hA0
  rw [Tryz.params3] at hA hval
  obtain ⟨v0, d0, rfl, rfl, h0⟩ := trodAll_one hA
  obtain ⟨rfl, rfl⟩ := trodVars_none hV
  obtain ⟨x, rfl, rfl, rfl, _⟩ := open_int und3 (hval 0 3 v0 rfl rfl) h0
  refine (staudt_c (X := fun _ => False) (fun _ h => h.elim) (tabs57 hL)).mono fun e W' hr => ?_
  cases e with
  | returned v =>
    obtain ⟨rfl, hb⟩ := hr
    exact ⟨_, rfl, _, _, _, [], [], [], hW', trodAll_mk1 (shut_bool und4 _), trodAll_mk1 (Below.trod laidOut57 read3 lt3 h0 hb (fun x hx => by cases hx)), rfl, hb.frame _, fun h => by cases h⟩
  | panicked ch => exact hr.elim
  | outgrown => exact hr.elim
theorem named3f : Tryz.prog.funcNamed "halfplane/halfplanelaw57.CongruenceStaudt" = some 3 := by kernel_rfl
theorem inst3 : Tryz.f3.isInstance Tryz.prog Rows.congruenceStaudtRow.origin Rows.congruenceStaudtRow.targs := of_decide_eq_true (by kernel_rfl)
theorem staudtSaid : Rows.CongruenceStaudtSaid :=
  OpenClaim.holds_of_wide 3 Tryz.f3 rfl rfl rfl rfl rfl rfl rfl ⟨rfl, rfl, rfl, rfl, rfl⟩ rfl rfl rfl rfl rfl named3f Tryz.func3 joint3
    inst3 (by unfold Func.isWrapper; first | (rw [if_pos (by decide +kernel)]; kernel_rfl) | (rw [if_neg (by decide +kernel)]; exact ⟨rfl, rfl⟩))
    (fun os started H enc _ => lifted3 os started H enc)
end Go.Proofs.YtoipokalbjjghaaGreatDoor
