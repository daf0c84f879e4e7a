/- KvNil: the closed facts of its row, one declaration each. -/
import Derived.Test.YtcjfijmbdoiaiaaGreatDoorRows
import Derived.Test.YtcjfijmbdoiaiaaGreatDoorTie
import Derived.ProofKit
import Derived.Stop.Joined
set_option linter.unusedSimpArgs false
set_option linter.unusedVariables false
namespace Go.Proofs.YtcjfijmbdoiaiaaGreatDoor
open Go Go.ChangeShapes Go.WideShapes Go.ChangeAt Go.RowKit

theorem am {a b : Bool} (h : a = true) (k : b = true) : (a && b) = true := by rw [h, k]; rfl
theorem jn0 : (Rows.kvNilRow.wf (OpenSpec.ofChange Rows.kvNilSpec)) = true := by kernel_rfl
theorem jn1 : (laidOutB Tryz.prog) = true := by kernel_rfl
theorem jn2 : (mapsRowed Tryz.prog) = true := by kernel_rfl
theorem jn3 : (Tryz.f4.params.all (Tryz.prog.readableRec ·)) = true := by kernel_rfl
theorem jn4 : (namedTie Tryz.prog Rows.kvNilRow.named Rows.kvNilSpec.vars) = true := by kernel_rfl
theorem jn5 : ((Rows.kvNilRow.stops == [])) = true := by kernel_rfl
theorem jn6 : ((Tryz.prog.stops == [])) = true := by kernel_rfl
theorem jn7 : ((Rows.kvNilRow.knobs == [])) = true := by kernel_rfl
theorem jn8 : ((Tryz.prog.stopKnobs == [])) = true := by kernel_rfl
theorem jn9 : ((Rows.kvNilRow.inPlace == Tryz.prog.inPlace 4)) = true := by kernel_rfl
theorem jn10 : ((Rows.kvNilRow.unfollowed == Tryz.prog.unfollowed 4)) = true := by kernel_rfl
theorem jn11 : ((Rows.kvNilRow.recurses == Tryz.prog.recurses 4)) = true := by kernel_rfl
theorem jn12 : ((Rows.kvNilRow.named == Tryz.prog.varsNamed 4)) = true := by kernel_rfl
theorem jn13 : ((Rows.kvNilRow.maps == (Tryz.f4.params.toList ++ Rows.kvNilSpec.plain.varTypes Tryz.prog).any (Tryz.prog.mapsRec ·))) = true := by kernel_rfl
theorem jn14 : ((Rows.kvNilRow.ifaces == (Tryz.f4.params.toList ++ Rows.kvNilSpec.plain.varTypes Tryz.prog).any (Tryz.prog.ifacesRec ·))) = true := by kernel_rfl
theorem jn15 : ((Rows.kvNilRow.mapsOut == Tryz.prog.mapsAmong Tryz.f4.resultTypes.toList)) = true := by kernel_rfl
theorem jn16 : ((Rows.kvNilRow.loops == (Tryz.f4.params.toList ++ Rows.kvNilSpec.plain.varTypes Tryz.prog).any (Tryz.prog.loopsFrom ·))) = true := by kernel_rfl
theorem jn17 : ((Rows.kvNilRow.wideKeys == (Tryz.f4.params.toList ++ Rows.kvNilSpec.plain.varTypes Tryz.prog ++ Tryz.f4.resultTypes.toList).any (Tryz.prog.wideKeysFrom ·))) = true := by kernel_rfl
theorem jn18 : (Rows.kvNilSpec.vars.all (Tryz.prog.varReadable ·)) = true := by kernel_rfl
theorem jn19 : (Tryz.f4.resultTypes.all (fun t => Tryz.prog.readableRec t && decide (t < Tryz.prog.types.size))) = true := by kernel_rfl
theorem jn20 : ((Rows.kvNilRow.ifacesOut == Tryz.f4.resultTypes.toList.any (Tryz.prog.ifacesRec ·))) = true := by kernel_rfl
theorem jn21 : ((Rows.kvNilRow.loopsOut == Tryz.f4.resultTypes.toList.any (Tryz.prog.loopsFrom ·))) = true := by kernel_rfl
theorem jn22 : ((Rows.kvNilRow.plainKeys == Tryz.prog.plainKeys)) = true := by kernel_rfl
theorem jn23 : (Rows.kvNilRow.shortTexts.isNone) = true := by kernel_rfl
theorem jn24 : (Tryz.prog.stopsHeard) = true := by kernel_rfl
theorem jn25 : (Tryz.prog.mayEnter) = true := by kernel_rfl
theorem jn26 : ((Rows.kvNilRow.lifted == Tryz.prog.liftsFinal)) = true := by kernel_rfl
theorem jn27 : ((Tryz.prog.make == some Rows.kvNilRow.make)) = true := by kernel_rfl
theorem jn28 : ((Rows.kvNilRow.kinds == (if Rows.kvNilRow.domain.isEmpty then [] else Tryz.f4.params.toList.map fun t => match Tryz.prog.underlying t with | some (.int k) => some k | _ => none))) = true := by kernel_rfl
theorem jn29 : ((Rows.kvNilRow.pinned == Rows.kvNilRow.pinnedBy)) = true := by kernel_rfl
theorem jn30 : ((Rows.kvNilRow.veiled == (Tryz.f4.params.toList ++ Rows.kvNilSpec.plain.varTypes Tryz.prog ++ Tryz.f4.resultTypes.toList).any (Tryz.prog.veiledRec ·))) = true := by kernel_rfl
theorem jn31 : (Rows.kvNilRow.veiledFits Tryz.prog Tryz.f4.params.toList (Tryz.f4.params.toList ++ Rows.kvNilSpec.plain.varTypes Tryz.prog ++ Tryz.f4.resultTypes.toList)) = true := by kernel_rfl
end Go.Proofs.YtcjfijmbdoiaiaaGreatDoor
