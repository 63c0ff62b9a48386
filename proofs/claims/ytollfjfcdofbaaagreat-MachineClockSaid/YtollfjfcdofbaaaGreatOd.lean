/- MachineClock: whatever the input, the law returns true, and the input reads as it did. -/
import Derived.Test.YtollfjfcdofbaaaGreatFx
import Derived.Test.YtollfjfcdofbaaaGreatFy
import Derived.Test.YtollfjfcdofbaaaGreatPc
namespace Go.Proofs.YtollfjfcdofbaaaGreat
open Go Go.Proofs Go.ChangeShapes Go.WideShapes Go.ChangeAt Go.RowKit
set_option linter.unusedSimpArgs false
set_option linter.unusedVariables false
set_option maxRecDepth 100000

theorem open_ev {H : Type} {enc : TypeId × Value → H} {W : World} {fuel : Nat} {cs : List Value} {x : DataW H × List MemPlace} (h : DataW.trod enc Tryz.prog W 0 (fun _ => true) true fuel 107 cs = some x) :
    ∃ e : MS.Ev, cs = evRow e := by
  obtain ⟨xs, n, _, _, hl, hx, hfs⟩ := DataW.trod_struct Tryz.underlying107 h
  have hlen : cs.length = 3 := by rw [hl]; kernel_rfl
  match cs, hlen with
  | [v0, v1, v2], _ =>
    have hx3 : xs.length = 3 := by rw [hx]; rfl
    match xs, hx3 with
    | [x0, x1, x2], _ =>
      have h0 : DataW.trod enc Tryz.prog W 0 (fun _ => true) true n 3 (List.take (Tryz.prog.cellsOf 3) (List.drop 0 [v0, v1, v2])) = some x0 := hfs 0 _ rfl
      have h1 : DataW.trod enc Tryz.prog W 0 (fun _ => true) true n 3 (List.take (Tryz.prog.cellsOf 3) (List.drop 1 [v0, v1, v2])) = some x1 := hfs 1 _ rfl
      have h2 : DataW.trod enc Tryz.prog W 0 (fun _ => true) true n 3 (List.take (Tryz.prog.cellsOf 3) (List.drop 2 [v0, v1, v2])) = some x2 := hfs 2 _ rfl
      have c3 : Tryz.prog.cellsOf 3 = 1 := by kernel_rfl
      rw [c3] at h0 h1 h2
      obtain ⟨n0, e0, _⟩ := open_int64 h0
      obtain ⟨n1, e1, _⟩ := open_int64 h1
      obtain ⟨n2, e2, _⟩ := open_int64 h2
      simp at e0 e1 e2
      subst e0 e1 e2
      exact ⟨(n0, n1, n2), rfl⟩
theorem open_evs {H : Type} {enc : TypeId × Value → H} {W : World} {fuel : Nat} {cs : List Value} {x : DataW H × List MemPlace} (h : DataW.trod enc Tryz.prog W 0 (fun _ => true) true fuel 101 cs = some x) :
    ∃ (q : Option Addr) (l : List MS.Ev) (cap : Nat), cs = [.slice q l.length cap] ∧ RO W [] q (l.flatMap evRow) := by
  rcases DataW.trod_slice Tryz.underlying101 h with ⟨rfl, _⟩ | ⟨a, len, cap, elems, rest, n, _, rfl, _, _, hl, hm, hlen, hel, _, _⟩
  · exact ⟨none, [], 0, rfl, ⟨fun j v hv => by simp at hv⟩⟩
  · have c3 : Tryz.prog.cellsOf 107 = 3 := by kernel_rfl
    rw [c3] at hel
    have each : ∀ i, ∃ e : MS.Ev, i < len → W.cells? 0 (a.add (i * 3)) 3 = some (evRow e) := by
      intro i
      by_cases hi : i < len
      · have h1 := hel i hi
        have : ∃ y, elems[i]? = some y := ⟨_, List.getElem?_eq_getElem (by omega)⟩
        obtain ⟨y, hy⟩ := this
        rw [hy] at h1
        cases hcs : W.cells? 0 (a.add (i * 3)) 3 with
        | none => rw [hcs] at h1; cases h1
        | some cs =>
          rw [hcs] at h1
          obtain ⟨e, he⟩ := open_ev h1
          exact ⟨e, fun _ => by rw [he]⟩
      · exact ⟨(0, 0, 0), fun h => absurd h hi⟩
    obtain ⟨f, hf⟩ : ∃ f : Nat → MS.Ev, ∀ i, i < len → W.cells? 0 (a.add (i * 3)) 3 = some (evRow (f i)) := ⟨fun i => Classical.choose (each i), fun i => Classical.choose_spec (each i)⟩
    refine ⟨some a, (List.range len).map f, cap, by simp, ⟨fun j v hv => ?_⟩⟩
    have hjl : j < (((List.range len).map f).flatMap evRow).length := (List.getElem?_eq_some_iff.1 hv).1
    rw [rowsA_len (f := evRow) (s := 3) (fun _ => rfl)] at hjl
    simp only [List.length_map, List.length_range] at hjl
    have hi : j / 3 < len := by omega
    have hc := cells_get (hf (j / 3) hi)
    have hv2 : (evRow (f (j / 3)))[j % 3]? = some v := by
      rw [← hv]
      have := rowsA_getL (f := evRow) (s := 3) (fun _ => rfl) ((List.range len).map f) (j / 3) (j % 3) (f (j / 3)) (by simp [hi]) (by omega)
      rw [← this]
      congr 1; omega
    have hcell := hc.2 (j % 3) v hv2
    have h00 := (cells_get (hf 0 (by omega))).2 0 _ rfl
    obtain ⟨b, o, sp⟩ := a
    have hs : sp = none := by
      have := World.cell?_spot h00
      simpa [Addr.add] using this
    subst hs
    rw [Addr.add_lit, Addr.add_lit] at hcell
    refine ⟨b, o, rfl, ?_, by simp, ?_⟩
    · exact World.cells?_block (cells?_one (base := 0) (Nat.zero_le _) hcell) (by decide)
    · rw [show o + j = o + j / 3 * 3 + j % 3 by omega]
      exact hcell
theorem machineClock_lifted (os : Os) (started : os.Started) (H : Type) (enc : TypeId × Value → H) :
    ReturnsInHanded {} Tryz.checked os 9 .any (Rows.machineClockSpec.pre6 enc Tryz.prog Tryz.f9 Rows.machineClockRow.domain false) (Rows.machineClockSpec.post enc Tryz.prog Tryz.f9 false true false false) := by
  refine returnsInHanded_of_change (C := Tryz.checked) lawOwn started (by kernel_rfl) Tryz.func9
    (ChangeSpec.witness6 (enc := enc) (C := Tryz.checked) false ⟨#[], #[Cf.val ⟨0, [], 0, 0, 0, 0, 0, 0⟩ none 0, .slice none 0 0], []⟩ 8 (by kernel_rfl) (by kernel_rfl) (by kernel_rfl) (by kernel_rfl)) ?_
  intro W base args ds gs before hval0 hW hcnd _
  have hval : ∀ (j : Nat) t v, Tryz.f9.params[j]? = some t → args[j]? = some v → Value.okWide Tryz.prog W .any base t v := hval0
  have hW' := hW
  obtain ⟨p, q, hA0, hV, e, hfz, hnd⟩ := hW
  have hA : DataW.TrodAll enc Tryz.prog W 0 (fun _ => true) true Tryz.f9.params.toList args.toList ds p := hA0
  rw [Tryz.params9] at hA hval
  obtain ⟨v0, vs0, d0, ds0, p0, q0, hargs, e0a, e0b, h0, r0⟩ := trodAll_cons hA
  obtain ⟨v1, vs1, d1, ds1, p1, q1, g1, e1a, e1b, h1, r1⟩ := trodAll_cons r0
  subst g1
  obtain ⟨rfl, rfl, rfl⟩ := trodAll_nil r1
  obtain rfl : args = #[v0, v1] := by cases args; simp_all
  obtain ⟨c0, pt0, cap0, rfl, hr0⟩ := open_cf (hval 0 _ v0 rfl rfl) h0
  obtain ⟨sa1, sl1, sc1, rfl⟩ := okWide_slice Tryz.underlying101 (hval 1 _ v1 rfl rfl)
  obtain ⟨fuel1, hf1⟩ := h1
  obtain ⟨qa1, l1, qc1, hv1, hr1⟩ := open_evs hf1
  have hv1' : Value.slice sa1 sl1 sc1 = .slice qa1 l1.length qc1 := by simpa [Value.cells] using hv1
  rw [hv1'] at hW' ⊢
  refine (machineClock c0 pt0 cap0 qa1 l1 qc1 W hr0 hr1).mono fun e w' ⟨he, hu⟩ => ⟨.bool true, he, ?_⟩
  obtain ⟨e3, e4⟩ := trodVars_none hV
  subst e3 e1a e0a
  exact law_post (s := Rows.machineClockSpec) hW' rfl hu rfl (by kernel_rfl) rfl

theorem machineClock_inPlace : Tryz.prog.inPlace 9 = Rows.machineClockRow.inPlace := by kernel_rfl
theorem machineClock_unfollowed : Tryz.prog.unfollowed 9 = Rows.machineClockRow.unfollowed := by kernel_rfl
theorem machineClock_recurses : Tryz.prog.recurses 9 = Rows.machineClockRow.recurses := by kernel_rfl
theorem machineClock_varsNamed : Tryz.prog.varsNamed 9 = Rows.machineClockRow.named := by kernel_rfl
theorem machineClock_closed : joinedFacts Tryz.prog 9 Tryz.f9 Rows.machineClockSpec Rows.machineClockRow = true := by
  unfold joinedFacts
  rw [lawLaid, lawRowed, lawEnter, lawFinal, lawMake, machineClock_inPlace, machineClock_unfollowed, machineClock_recurses, machineClock_varsNamed]
  kernel_rfl
theorem machineClock_named : Tryz.checked.prog.funcNamed "weighlock/weighlocklaw18.MachineClock" = some 9 := by kernel_rfl
theorem machineClock_isWrap : Tryz.f9.isWrapper Tryz.prog Rows.machineClockRow.wrapper Rows.machineClockRow.mainSum := by
  unfold Func.isWrapper; first | (rw [if_pos (by decide +kernel)]; kernel_rfl) | (rw [if_neg (by decide +kernel)]; exact ⟨rfl, rfl⟩)
theorem machineClock_said : Rows.MachineClockSaid :=
  OpenClaim.holds_of_wide 9 Tryz.f9 rfl rfl rfl rfl rfl rfl rfl ⟨rfl, rfl, rfl, rfl, rfl⟩ rfl rfl rfl rfl rfl machineClock_named Tryz.func9 machineClock_closed
    (of_decide_eq_true (by kernel_rfl)) machineClock_isWrap
    (fun os started H enc _ => machineClock_lifted os started H enc)
#print axioms machineClock_said
end Go.Proofs.YtollfjfcdofbaaaGreat
