/- The lock of locks, made. -/
import Derived.Test.YtollfjfcdofbaaaGreatLh
namespace Go.Proofs.YtollfjfcdofbaaaGreat
open Go Go.Proofs
set_option linter.unusedSimpArgs false
set_option linter.unusedVariables false
set_option maxRecDepth 100000
set_option maxHeartbeats 4000000
-- NB 4

/-- the local locks of the nodes 0 .. k-1, from an address on; the address behind -/
def locF (kind : Int) (xs : List Int) (base : Int) : Nat → List (Option LI) × Int
  | 0 => ([], base)
  | k + 1 => if xs.count ((k : Nat) : Int) = 0 then ((locF kind xs base k).1 ++ [none], (locF kind xs base k).2)
      else ((locF kind xs base k).1 ++ [some (LI.first kind (xs.count ((k : Nat) : Int)) (locF kind xs base k).2)], (locF kind xs base k).2 + (innerH kind (List.replicate (xs.count ((k : Nat) : Int)) ((k : Nat) : Int))).length)
def locH (kind : Int) (xs : List Int) : Nat → List Int
  | 0 => []
  | k + 1 => locH kind xs k ++ (if xs.count ((k : Nat) : Int) = 0 then [] else innerH kind (List.replicate (xs.count ((k : Nat) : Int)) ((k : Nat) : Int)))
def locW (kind : Int) (xs : List Int) : Nat → List Int
  | 0 => []
  | k + 1 => locW kind xs k ++ (if xs.count ((k : Nat) : Int) = 0 then [] else innerW kind (xs.count ((k : Nat) : Int)))
theorem locF_len (kind : Int) (xs : List Int) (base : Int) : ∀ k, (locF kind xs base k).1.length = k
  | 0 => rfl
  | k + 1 => by unfold locF; split <;> simp [locF_len kind xs base k]
theorem locF_at (kind : Int) (xs : List Int) (base : Int) : ∀ k, (locF kind xs base k).2 = base + (locH kind xs k).length
  | 0 => by simp [locF, locH]
  | k + 1 => by
    unfold locF locH
    split
    · simp [locF_at kind xs base k]
    · simp only [List.length_append, locF_at kind xs base k]; omega
theorem locF_some (kind : Int) (xs : List Int) (base : Int) : ∀ k c, c < k → (xs.count ((c : Nat) : Int) ≠ 0) → ∃ x, (locF kind xs base k).1[c]? = some (some x)
  | k + 1, c, h, hn => by
    by_cases hc : c = k
    · subst hc
      unfold locF
      rw [if_neg hn, List.getElem?_append_right (by rw [locF_len]; omega), locF_len, Nat.sub_self]
      exact ⟨_, rfl⟩
    · obtain ⟨x, hx⟩ := locF_some kind xs base k c (by omega) hn
      refine ⟨x, ?_⟩
      unfold locF
      split
      · rw [List.getElem?_append_left (by rw [locF_len]; omega)]; exact hx
      · rw [List.getElem?_append_left (by rw [locF_len]; omega)]; exact hx
def coPl (xs : List Int) (k : Nat) : List CPl := (List.range k).map fun t => ⟨xs.getD t 0, ((xs.take t).count (xs.getD t 0) : Nat), 0, 0⟩
theorem coPl_succ (xs : List Int) (k : Nat) : coPl xs (k + 1) = coPl xs k ++ [⟨xs.getD k 0, ((xs.take k).count (xs.getD k 0) : Nat), 0, 0⟩] := by simp [coPl, List.range_succ]
def CS.first (xs : List Int) (g l b at_ : Int) : CS :=
  ⟨seats0 xs.length false false, at_, IntKind.u32.wrap b, LI.first g 8 (at_ + 8), (locF l xs (at_ + 8 + (innerH g (upTo 8)).length) 8).1, coPl xs xs.length⟩
def cohOk (g l b : Int) : Prop := (g = 1 ∨ g = 4) ∧ (l = 1 ∨ l = 3 ∨ l = 4) ∧ 1 ≤ b ∧ b ≤ 1000
def cohH (xs : List Int) (g l : Int) : List Int := upTo 8 ++ innerH g (upTo 8) ++ locH l xs 8
def cohW (xs : List Int) (g l : Int) : List Int := List.replicate 8 0 ++ innerW g 8 ++ locW l xs 8
theorem cohTells : Tells Tryz.prog (.func (.func 88) #[] #[]) badHome := tells_of (fun _ _ _ => rfl) (fun x w R h => by
  refine callsCohortNew1 _ _ _ ?_
  unfold preCohortNew1
  by_cases h1 : x < 0
  · refine Br_t h1 ?_
    have e : badHome x = true := by simp [badHome, h1]
    rw [e] at h; exact h
  · refine Br_f h1 ?_
    have e : badHome x = decide (x ≥ 8) := by simp [badHome, h1]
    rw [e] at h; exact h)
theorem made_coRow (n : Nat) : (madeCells #[.int .i64 0, .int .i64 0, .nilFunc, .int .u32 0] (n * 4)).toList = rows coRow (List.replicate n default) := by
  have := madeCells_rows coRow default n (by simp)
  have e : (coRow default).toArray = #[.int .i64 0, .int .i64 0, .nilFunc, .int .u32 0] := rfl
  rw [e] at this
  rw [show n * 4 = n * (coRow default).length from rfl, this]
  simp [rowsA, rows]
/-! ## slices of slices: of each home who has it -/
abbrev Own := Option Nat × List Int × Nat
abbrev ownV (x : Own) : Value := .slice (slA x.1) x.2.2 x.2.1.length
def ownL (l : List Own) : Blocks := l.flatMap fun x => slB iRow x.1 x.2.1
theorem own_at : ∀ {l : List Own} {c : Nat} {x : Own}, l[c]? = some x → ∃ X Y, ∀ y, ownL (l.set c y) = X ++ (slB iRow y.1 y.2.1 ++ Y)
  | z :: l, 0, x, h => ⟨[], ownL l, fun y => rfl⟩
  | z :: l, c + 1, x, h => by
    obtain ⟨X, Y, hX⟩ := own_at (l := l) (c := c) (by simpa using h)
    exact ⟨slB iRow z.1 z.2.1 ++ X, Y, fun y => by simp only [List.set_cons_succ, ownL, List.flatMap_cons, List.append_assoc]; rw [← hX y]; rfl⟩
structure OwnI (xs : List Int) (own : List Own) : Prop where
  len : own.length = 8
  at_ : ∀ (c : Nat) (x : Own), own[c]? = some x → x.2.2 = xs.count ((c : Nat) : Int) ∧ x.2.2 ≤ x.2.1.length ∧ (x.1 = none → x.2.1 = []) ∧ x.2.1.take x.2.2 = List.replicate x.2.2 ((c : Nat) : Int)
theorem OwnI.start : OwnI [] (List.replicate 8 (none, [], 0)) := by
  refine ⟨by simp, fun c x hx => ?_⟩
  rw [List.getElem?_replicate] at hx
  split at hx
  · cases hx; exact ⟨by simp, by simp, fun _ => rfl, by simp⟩
  · cases hx
theorem OwnI.step {xs : List Int} {own : List Own} (h : OwnI xs own) {c : Nat} {x : Own} (hx : own[c]? = some x) {p' : Nat} {all' : List Int}
    (t1 : all'.take (x.2.2 + 1) = x.2.1.take x.2.2 ++ [((c : Nat) : Int)]) (l1 : x.2.2 + 1 ≤ all'.length) : OwnI (xs ++ [((c : Nat) : Int)]) (own.set c (some p', all', x.2.2 + 1)) := by
  refine ⟨by simp [h.len], fun c' y hy => ?_⟩
  obtain ⟨k1, k2, k3, k4⟩ := h.at_ c x hx
  rw [List.getElem?_set] at hy
  split at hy
  · rename_i hc
    subst hc
    split at hy
    · cases hy
      refine ⟨?_, l1, fun e => (by cases e), ?_⟩
      · simp only [List.count_append, List.count_cons_self, List.count_nil, k1]
      · rw [t1, k4, ← List.replicate_succ']
    · cases hy
  · rename_i hc
    obtain ⟨j1, j2, j3, j4⟩ := h.at_ c' y hy
    refine ⟨?_, j2, j3, j4⟩
    rw [List.count_append, j1]
    have : List.count ((c' : Nat) : Int) [((c : Nat) : Int)] = 0 := by
      rw [List.count_eq_zero]
      simp
      omega
    omega
theorem newOk_rep {c n : Nat} (hc : c < 8) (h1 : 1 ≤ n) (h2 : n ≤ 64) : newOk (List.replicate n ((c : Nat) : Int)) := by
  refine ⟨by simpa using ⟨h1, h2⟩, ?_⟩
  unfold anyBad
  rw [List.any_eq_false]
  intro x hx
  rw [List.eq_of_mem_replicate hx]
  simp [badHome]; omega
theorem newOk_up : newOk (upTo 8) := ⟨by simp [upTo], by decide⟩
theorem anyBad_get {xs : List Int} (h : anyBad xs = false) {i : Nat} (hi : i < xs.length) : 0 ≤ xs.getD i 0 ∧ xs.getD i 0 < 8 := by
  unfold anyBad at h
  rw [List.any_eq_false] at h
  have := h (xs[i]) (List.getElem_mem hi)
  simp only [badHome, decide_eq_true_eq, not_or] at this
  rw [List.getD_eq_getElem?_getD, List.getElem?_eq_getElem hi]
  simp only [Option.getD_some]
  omega
theorem innerH_few (kind : Int) (xs : List Int) : (innerH kind xs).length ≤ 2 + 2 * xs.length := by
  have fl : ∀ ys : List Int, (ys.flatMap fun h => [h, h]).length = 2 * ys.length := by intro ys; induction ys with | nil => rfl | cons y ys ih => simp only [List.flatMap_cons, List.length_append, ih, List.length_cons, List.length_nil]; omega
  unfold innerH
  split
  · simp
  · split
    · simp; omega
    · rw [List.length_cons, fl]; omega
theorem locH_few (kind : Int) (xs : List Int) (h : xs.length ≤ 64) : ∀ k, (locH kind xs k).length ≤ 130 * k
  | 0 => by simp [locH]
  | k + 1 => by
    unfold locH
    rw [List.length_append]
    have h1 := locH_few kind xs h k
    split
    · simp; omega
    · have h2 := innerH_few kind (List.replicate (xs.count ((k : Nat) : Int)) ((k : Nat) : Int))
      have h3 := List.count_le_length (a := ((k : Nat) : Int)) (l := xs)
      simp at h2; omega
end Go.Proofs.YtollfjfcdofbaaaGreat
