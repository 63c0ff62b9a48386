/- The frame of a law: it returns true, and nothing of what was there has turned; the arguments opened. -/
import Derived.Test.YtollfjfcdofbaaaGreatNa
import Derived.Test.YtollfjfcdofbaaaGreatRows
import Derived.WalkKit
import Derived.ProofKit
import Derived.OpenShut
import Derived.Carry
import Derived.Deep.Slices
namespace Go.Proofs.YtollfjfcdofbaaaGreat
open Go Go.Proofs Go.ChangeShapes Go.WideShapes Go.ChangeAt Go.RowKit
set_option linter.unusedSimpArgs false
set_option linter.unusedVariables false
set_option maxRecDepth 100000

theorem lawOwn : ownKnob Tryz.prog.godebug = none := by kernel_rfl
theorem lawLaid : laidOutB Tryz.prog = true := by kernel_rfl
theorem trodAll_below {P : Program} (hl : laidOutB P = true) {H : Type} {enc : TypeId × Value → H} {W W' : World} (hb : Below W.heap.size W W') :
    ∀ {ts : List TypeId} {vs : List Value} {ds : List (DataW H)} {ps : List MemPlace}, (∀ t ∈ ts, P.readableRec t = true ∧ t < P.types.size) →
    DataW.TrodAll enc P W 0 (fun _ => true) true ts vs ds ps → (∀ x ∈ ps, x.block < W.heap.size) → DataW.TrodAll enc P W' 0 (fun b => decide (b < W.heap.size)) true ts vs ds ps := by
  intro ts
  induction ts with
  | nil =>
    intro vs ds ps _ h _
    obtain ⟨rfl, rfl, rfl⟩ := trodAll_nil h
    exact rfl
  | cons t ts ih =>
    intro vs ds ps hr h hlt
    obtain ⟨v, vs', d, ds', p, q, rfl, rfl, rfl, h1, h2⟩ := trodAll_cons h
    exact ⟨p, q, Below.trod hl (hr t (by simp)).1 (hr t (by simp)).2 h1 hb (fun x hx => hlt x (by simp [hx])), ih (fun u hu => hr u (by simp [hu])) h2 (fun x hx => hlt x (by simp [hx])), rfl⟩
theorem all_types {P : Program} {ts : List TypeId} (h : (ts.all fun t => P.readableRec t && decide (t < P.types.size)) = true) : ∀ t ∈ ts, P.readableRec t = true ∧ t < P.types.size := by
  intro t ht
  have := List.all_eq_true.1 h t ht
  simp only [Bool.and_eq_true, decide_eq_true_eq] at this
  exact this
theorem law_post {H : Type} {enc : TypeId × Value → H} {f : Func} {s : ChangeSpec} {W W' : World} {args : Array Value} {ds gs : List (DataW H)} {before : List MemPlace}
    (hW : DataW.Whole enc Tryz.prog f.params.toList s.vars false W args.toList ds gs before) (hv : s.vars = []) (hu : Upd [] W W') (hres : f.resultTypes = #[4])
    (hr : (f.params.toList.all fun t => Tryz.prog.readableRec t && decide (t < Tryz.prog.types.size)) = true) (hfn : s.fn H (ds ++ gs) = { results := [.lit (.bool true)], args := ds }) :
    s.post enc Tryz.prog f false true false false W args (.bool true) W' := by
  have hb : Below W.heap.size W W' := hu.below (Nat.le_refl _) (by simp)
  have hW' := hW
  obtain ⟨p, q, hA, hV, e, hfz, hnd⟩ := hW'
  rw [hv] at hV
  obtain ⟨e1, e2⟩ := trodVars_none hV
  subst e1 e2
  have e3 : before = p := by simpa using e
  subst e3
  refine ⟨ds, [], before, [], before, [], hW, ?_, ?_, ?_, World.keptBut_mono (fun x hx => ⟨hx, Or.inr (Or.inl hx)⟩) (hb.frame _), fun h => by cases h⟩
  · rw [hfn, hres]
    exact trodAll_mk1 (shut_bool (by kernel_rfl : Tryz.prog.underlying 4 = some .bool) true)
  · rw [hfn]
    exact trodAll_below lawLaid hb (all_types hr) hA (fun x hx => hW.lt x hx)
  · rw [hfn, hv]; exact rfl
/-! ## the arguments, opened -/
theorem cells_get {W : World} {a : Addr} {n : Nat} {cs : List Value} (h : W.cells? 0 a n = some cs) : cs.length = n ∧ ∀ j v, cs[j]? = some v → W.cell? (a.add j) = some v := by
  obtain ⟨h1, h2, h3⟩ := World.cells?_some h
  refine ⟨h2, fun j v hv => ?_⟩
  rw [h3 j (by rw [← h2]; exact (List.getElem?_eq_some_iff.1 hv).1)]; exact hv
theorem open_homes {H : Type} {enc : TypeId × Value → H} {W : World} {fuel : Nat} {cs : List Value} {x : DataW H × List MemPlace} (h : DataW.trod enc Tryz.prog W 0 (fun _ => true) true fuel 22 cs = some x) :
    ∃ (p : Option Addr) (xs : List Int) (cap : Nat), cs = [.slice p xs.length cap] ∧ ROi W [] p xs := by
  rcases open_ints (by kernel_rfl : Tryz.prog.underlying 22 = some (.slice 3)) (by kernel_rfl : Tryz.prog.underlying 3 = some (.int .i64)) (by kernel_rfl) h with ⟨rfl, _⟩ | ⟨a, len, cap, zs, rfl, _, hl, hm, hz, _, hcell, _⟩
  · exact ⟨none, [], 0, rfl, ⟨fun j v hv => by simp at hv⟩⟩
  · simp only [if_true] at hz
    refine ⟨some a, zs.take len, cap, by simp; omega, ⟨fun j v hv => ?_⟩⟩
    have hj : j < (zs.take len).length := by have := (List.getElem?_eq_some_iff.1 hv).1; simpa using this
    rw [List.length_take] at hj
    have hc := hcell j (by omega)
    have hsp : (a.add 0).spot = none := World.cell?_spot (hcell 0 (by omega))
    obtain ⟨b, o, sp⟩ := a
    have : sp = none := by simpa [Addr.add] using hsp
    subst this
    rw [Addr.add_lit] at hc
    refine ⟨b, o, rfl, ?_, by simp, ?_⟩
    · exact World.cells?_block (cells?_one (base := 0) (Nat.zero_le _) hc) (by decide)
    · rw [hc]
      rw [List.getElem?_map, List.getElem?_take] at hv
      rw [if_pos (by omega)] at hv
      have : zs[j]? = some (zs.getD j 0) := getD_lt (by omega)
      rw [this] at hv
      exact hv
theorem open_int64 {H : Type} {enc : TypeId × Value → H} {W : World} {fuel : Nat} {cs : List Value} {x : DataW H × List MemPlace} (h : DataW.trod enc Tryz.prog W 0 (fun _ => true) true fuel 3 cs = some x) : ∃ n : Int, cs = [i64 n] ∧ (Lit.int .i64 n).wf = true := by
  obtain ⟨n, h1, _, h3⟩ := DataW.trod_int (by kernel_rfl : Tryz.prog.underlying 3 = some (.int .i64)) h
  exact ⟨n, h1, h3⟩
theorem open_u32 {H : Type} {enc : TypeId × Value → H} {W : World} {fuel : Nat} {cs : List Value} {x : DataW H × List MemPlace} (h : DataW.trod enc Tryz.prog W 0 (fun _ => true) true fuel 29 cs = some x) : ∃ n : Int, cs = [u32 n] ∧ (Lit.int .u32 n).wf = true := by
  obtain ⟨n, h1, _, h3⟩ := DataW.trod_int (by kernel_rfl : Tryz.prog.underlying 29 = some (.int .u32)) h
  exact ⟨n, h1, h3⟩
end Go.Proofs.YtollfjfcdofbaaaGreat
