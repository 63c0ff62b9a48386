/- What the judge's form asks of the program, once for all laws: the words of its cut. -/
import Derived.Test.YtollfjfcdofbaaaGreatRows
import Derived.WalkKit
import Derived.ProofKit
namespace Go.Proofs.YtollfjfcdofbaaaGreat
open Go Go.Proofs Go.ChangeShapes Go.WideShapes Go.ChangeAt Go.RowKit
set_option linter.unusedSimpArgs false
set_option linter.unusedVariables false
set_option maxRecDepth 100000
theorem lawRowed : mapsRowed Tryz.prog = true := by kernel_rfl
theorem lawLater : Tryz.prog.laysLater = false := by kernel_rfl
theorem lawRefl : Tryz.prog.bearsReflect = false := by kernel_rfl
theorem lawDoor : Tryz.prog.doorFits [] = true := by kernel_rfl
theorem lawHeard : Tryz.prog.stopsHeard = true := by kernel_rfl
theorem lawWord0 : (behindMainWord (wordsSigns Tryz.prog.initOrder.toList)).head? = some "cut".toList := by kernel_rfl
theorem lawWord : ∃ rest, behindMainWord (wordsSigns Tryz.prog.initOrder.toList) = "cut".toList :: rest := by
  have h := lawWord0
  cases hx : behindMainWord (wordsSigns Tryz.prog.initOrder.toList) with
  | nil => rw [hx] at h; cases h
  | cons a r => rw [hx] at h; injection h with h; exact ⟨r, by rw [h]⟩
theorem lawStrip (rest : List (List Char)) : stripLifts liftWords ("cut".toList :: rest) = ([], "cut".toList :: rest) := by kernel_rfl
theorem lawEnter : Tryz.prog.mayEnter = true := by
  obtain ⟨rest, hr⟩ := lawWord
  unfold Program.mayEnter
  rw [hr]
  simp only [lawStrip, lawLater, lawRefl, lawDoor]
  kernel_rfl
theorem lawHead : Tryz.prog.headLifts = [] := by
  obtain ⟨rest, hr⟩ := lawWord
  unfold Program.headLifts
  rw [hr]
  simp only [lawStrip]
  kernel_rfl
theorem lawFinal : Tryz.prog.liftsFinal = false := by
  obtain ⟨rest, hr⟩ := lawWord
  unfold Program.liftsFinal
  rw [hr, lawHead]
  kernel_rfl
theorem lawMake : Tryz.prog.make = some .cut := by
  obtain ⟨rest, hr⟩ := lawWord
  unfold Program.make
  rw [hr, lawHead]
  kernel_rfl
end Go.Proofs.YtollfjfcdofbaaaGreat
