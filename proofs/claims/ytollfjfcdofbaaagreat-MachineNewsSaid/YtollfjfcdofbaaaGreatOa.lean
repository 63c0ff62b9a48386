/- MachineNews: whatever the input, the law returns true, and the input reads as it did. -/
import Derived.Test.YtollfjfcdofbaaaGreatFx
import Derived.Test.YtollfjfcdofbaaaGreatFy
import Derived.Test.YtollfjfcdofbaaaGreatNb
namespace Go.Proofs.YtollfjfcdofbaaaGreat
open Go Go.Proofs Go.ChangeShapes Go.WideShapes Go.ChangeAt Go.RowKit Go.Proofs.YtollfjfcdofbaaaGreat
set_option linter.unusedSimpArgs false
set_option linter.unusedVariables false
set_option maxRecDepth 100000

theorem machineNews_lifted (os : Os) (started : os.Started) (H : Type) (enc : TypeId × Value → H) :
    ReturnsInHanded {} Tryz.checked os 10 .any (Rows.machineNewsSpec.pre6 enc Tryz.prog Tryz.f10 Rows.machineNewsRow.domain false) (Rows.machineNewsSpec.post enc Tryz.prog Tryz.f10 false true false false) := by
  refine returnsInHanded_of_change (C := Tryz.checked) lawOwn started (by kernel_rfl) Tryz.func10
    (ChangeSpec.witness6 (enc := enc) (C := Tryz.checked) false ⟨#[], #[Cf.val ⟨0, [], 0, 0, 0, 0, 0, 0⟩ none 0], []⟩ 8 (by kernel_rfl) (by kernel_rfl) (by kernel_rfl) (by kernel_rfl)) ?_
  intro W base args ds gs before hval0 hW hcnd _
  have hval : ∀ (j : Nat) t v, Tryz.f10.params[j]? = some t → args[j]? = some v → Value.okWide Tryz.prog W .any base t v := hval0
  have hW' := hW
  obtain ⟨p, q, hA0, hV, e, hfz, hnd⟩ := hW
  have hA : DataW.TrodAll enc Tryz.prog W 0 (fun _ => true) true Tryz.f10.params.toList args.toList ds p := hA0
  rw [Tryz.params10] at hA hval
  obtain ⟨v0, vs0, d0, ds0, p0, q0, hargs, e1, e2, h0, r0⟩ := trodAll_cons hA
  obtain ⟨rfl, rfl, rfl⟩ := trodAll_nil r0
  obtain rfl : args = #[v0] := by cases args; simp_all
  obtain ⟨c, pt, cap, rfl, hr⟩ := open_cf (hval 0 _ v0 rfl rfl) h0
  refine (machineNews c pt cap W hr).mono fun e w' ⟨he, hu⟩ => ⟨.bool true, he, ?_⟩
  obtain ⟨e3, e4⟩ := trodVars_none hV
  subst e3 e1
  exact law_post (s := Rows.machineNewsSpec) hW' rfl hu rfl (by kernel_rfl) rfl

theorem machineNews_inPlace : Tryz.prog.inPlace 10 = Rows.machineNewsRow.inPlace := by kernel_rfl
theorem machineNews_unfollowed : Tryz.prog.unfollowed 10 = Rows.machineNewsRow.unfollowed := by kernel_rfl
theorem machineNews_recurses : Tryz.prog.recurses 10 = Rows.machineNewsRow.recurses := by kernel_rfl
theorem machineNews_varsNamed : Tryz.prog.varsNamed 10 = Rows.machineNewsRow.named := by kernel_rfl
theorem machineNews_closed : joinedFacts Tryz.prog 10 Tryz.f10 Rows.machineNewsSpec Rows.machineNewsRow = true := by
  unfold joinedFacts
  rw [lawLaid, lawRowed, lawEnter, lawFinal, lawMake, machineNews_inPlace, machineNews_unfollowed, machineNews_recurses, machineNews_varsNamed]
  kernel_rfl
theorem machineNews_named : Tryz.checked.prog.funcNamed "weighlock/weighlocklaw18.MachineNews" = some 10 := by kernel_rfl
theorem machineNews_isWrap : Tryz.f10.isWrapper Tryz.prog Rows.machineNewsRow.wrapper Rows.machineNewsRow.mainSum := by
  unfold Func.isWrapper; first | (rw [if_pos (by decide +kernel)]; kernel_rfl) | (rw [if_neg (by decide +kernel)]; exact ⟨rfl, rfl⟩)
theorem machineNews_said : Rows.MachineNewsSaid :=
  OpenClaim.holds_of_wide 10 Tryz.f10 rfl rfl rfl rfl rfl rfl rfl ⟨rfl, rfl, rfl, rfl, rfl⟩ rfl rfl rfl rfl rfl machineNews_named Tryz.func10 machineNews_closed
    (of_decide_eq_true (by kernel_rfl)) machineNews_isWrap
    (fun os started H enc _ => machineNews_lifted os started H enc)
#print axioms machineNews_said
end Go.Proofs.YtollfjfcdofbaaaGreat
