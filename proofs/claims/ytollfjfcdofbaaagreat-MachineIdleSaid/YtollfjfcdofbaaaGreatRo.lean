/- Slices that are read alone; contracts beside them; news of slices. -/
import Derived.Test.YtollfjfcdofbaaaGreatKn
namespace Go.Proofs.YtollfjfcdofbaaaGreat
open Go Go.Proofs
set_option linter.unusedSimpArgs false
set_option linter.unusedVariables false
set_option maxRecDepth 100000
set_option maxHeartbeats 4000000
-- NB 5

/-- where p leads lie the cells vs, in blocks that S hasn't -/
structure RO (w : World) (S : List Nat) (p : Option Addr) (vs : List Value) : Prop where
  at_ : ∀ j v, vs[j]? = some v → ∃ b o, p = some ⟨b, o, none⟩ ∧ b < w.heap.size ∧ b ∉ S ∧ w.cell? ⟨b, o + j, none⟩ = some v
theorem cell_same {w w' : World} {b o : Nat} (h : w'.heap[b]? = w.heap[b]?) : w'.cell? ⟨b, o, none⟩ = w.cell? ⟨b, o, none⟩ := by simp [World.cell?, h]
theorem RO.read {w0 w : World} {S : List Nat} {L : Blocks} {p : Option Addr} {vs : List Value} (h : RO w0 S p vs) (H : St w0 S w L) {j : Nat} {v : Value} (hv : vs[j]? = some v) :
    ∃ b o, p = some ⟨b, o, none⟩ ∧ w.cell? ⟨b, o + j, none⟩ = some v := by
  obtain ⟨b, o, rfl, h1, h2, h3⟩ := h.at_ j v hv
  exact ⟨b, o, rfl, by rw [cell_same (H.upd.block b h1 h2)]; exact h3⟩
/-- the same, for one who begins at w with fewer blocks -/
theorem RO.sub {w0 w : World} {S S' : List Nat} {L : Blocks} {p : Option Addr} {vs : List Value} (h : RO w0 S p vs) (H : St w0 S w L) (hs : ∀ k ∈ S', k ∈ S ∨ w0.heap.size ≤ k) : RO w S' p vs := by
  refine ⟨fun j v hv => ?_⟩
  obtain ⟨b, o, rfl, h1, h2, h3⟩ := h.at_ j v hv
  refine ⟨b, o, rfl, Nat.lt_of_lt_of_le h1 H.upd.size, fun hk => ?_, by rw [cell_same (H.upd.block b h1 h2)]; exact h3⟩
  rcases hs b hk with hk | hk
  · exact h2 hk
  · omega
theorem St.keys {w0 w : World} {S : List Nat} {L A : Blocks} (H : St w0 S w L) (hA : ∀ p ∈ A, p ∈ L) : ∀ k ∈ A.map (·.1), k ∈ S ∨ w0.heap.size ≤ k := by
  intro k hk
  obtain ⟨p, hp, rfl⟩ := List.mem_map.1 hk
  exact H.own p (hA p hp)
/-- a contract that reads besides -/
def SpR (P : Program) (f : FuncId) (args : Array Value) (ro : World → List Nat → Prop) (A : Blocks) (Q : Value → Blocks → Prop) : Prop :=
  ∀ (w0 : World) (S : List Nat) (w : World) (B : Blocks), ro w0 S → St w0 S w (A ++ B) → Calls P f args w fun e w' => ∃ r A', e = .returned r ∧ Q r A' ∧ St w0 S w' (A' ++ B)
theorem SpR.go {P : Program} {f : FuncId} {args : Array Value} {ro : World → List Nat → Prop} {A : Blocks} {Q : Value → Blocks → Prop} {w0 w : World} {S : List Nat} {L : Blocks} {K : Ending → World → Prop}
    (h : SpR P f args ro A Q) (H : St w0 S w L) (X B : Blocks) (hL : L = X ++ (A ++ B)) (hr : ro w (A.map (·.1))) (k : ∀ r A' w', Q r A' → St w0 S w' (X ++ (A' ++ B)) → K (.returned r) w') : Calls P f args w K := by
  subst hL
  have HA : St w (A.map (·.1)) w (A ++ []) := by
    rw [List.append_nil]
    exact St.start (by have := H.nd; simp only [List.map_append] at this; exact (List.nodup_append.1 (List.nodup_append.1 this).2.1).1) (fun p hp => H.bk p (by simp [hp]))
  refine (h w (A.map (·.1)) w [] hr HA).mono ?_
  rintro e w' ⟨r, A', rfl, hq, H'⟩
  rw [List.append_nil] at H'
  refine k r A' w' hq ?_
  have hnd := H.nd
  simp only [List.map_append] at hnd
  have d1 := List.nodup_append.1 hnd
  have d2 := List.nodup_append.1 d1.2.1
  have lt : ∀ p ∈ X ++ (A ++ B), p.1 < w.heap.size := fun p hp => (H.bk p hp).lt
  have oth : ∀ p ∈ X ++ B, p.1 ∉ A'.map (·.1) := by
    intro p hp hm
    obtain ⟨q, hq', e⟩ := List.mem_map.1 hm
    have hpl : p.1 < w.heap.size := lt p (by rcases List.mem_append.1 hp with h | h <;> simp [h])
    rcases H'.own q hq' with h1 | h1
    · rw [e] at h1
      simp only [List.mem_append] at hp
      rcases hp with hp | hp
      · exact d1.2.2 p.1 (List.mem_map_of_mem hp) p.1 (List.mem_append_left _ h1) rfl
      · exact d2.2.2 p.1 h1 p.1 (List.mem_map_of_mem hp) rfl
    · omega
  have oA : ∀ p ∈ X ++ B, p.1 ∉ A.map (·.1) := by
    intro p hp h1
    simp only [List.mem_append] at hp
    rcases hp with hp | hp
    · exact d1.2.2 p.1 (List.mem_map_of_mem hp) p.1 (List.mem_append_left _ h1) rfl
    · exact d2.2.2 p.1 h1 p.1 (List.mem_map_of_mem hp) rfl
  refine ⟨?_, ?_, ?_, ?_⟩
  · simp only [List.map_append]
    refine List.nodup_append.2 ⟨d1.1, List.nodup_append.2 ⟨H'.nd, d2.2.1, ?_⟩, ?_⟩
    · intro x hx y hy e
      subst e
      obtain ⟨q, hq', e⟩ := List.mem_map.1 hy
      exact oth q (by simp [hq']) (e ▸ hx)
    · intro x hx y hy e
      subst e
      obtain ⟨q, hq', e⟩ := List.mem_map.1 hx
      rcases List.mem_append.1 hy with hy | hy
      · exact oth q (by simp [hq']) (e ▸ hy)
      · exact d1.2.2 x hx x (List.mem_append_right _ hy) rfl
  · intro p hp
    simp only [List.mem_append] at hp
    rcases hp with hp | hp | hp
    · exact (H.bk p (by simp [hp])).upd H'.upd (oA p (by simp [hp]))
    · exact H'.bk p hp
    · exact (H.bk p (by simp [hp])).upd H'.upd (oA p (by simp [hp]))
  · exact H.upd.trans' H'.upd (fun x hx => by
      obtain ⟨q, hq', rfl⟩ := List.mem_map.1 hx
      exact H.own q (by simp [hq']))
  · intro p hp
    simp only [List.mem_append] at hp
    rcases hp with hp | hp | hp
    · exact H.own p (by simp [hp])
    · rcases H'.own p hp with h1 | h1
      · obtain ⟨q, hq', e⟩ := List.mem_map.1 h1
        rw [← e]; exact H.own q (by simp [hq'])
      · exact Or.inr (Nat.le_trans H.upd.size h1)
    · exact H.own p (by simp [hp])
/-- a slice of whole numbers that is read -/
abbrev ROi (w : World) (S : List Nat) (p : Option Addr) (xs : List Int) : Prop := RO w S p (xs.map (Value.int .i64))
theorem ROi.read {w0 w : World} {S : List Nat} {L : Blocks} {p : Option Addr} {xs : List Int} (h : ROi w0 S p xs) (H : St w0 S w L) {j : Nat} (hj : j < xs.length) :
    ∃ b o, p = some ⟨b, o, none⟩ ∧ w.cell? ⟨b, o + j, none⟩ = some (.int .i64 (xs.getD j 0)) := RO.read h H (by simp [hj])
/-- a block that is owned, but not handed on, can be read -/
theorem RO.own {w0 w : World} {S S' : List Nat} {L : Blocks} (H : St w0 S w L) {b o : Nat} {cs vs : List Value} (i : Nat) (hi : L[i]? = some (b, cs)) (hb : b ∉ S') (hv : ∀ j v, vs[j]? = some v → cs[o + j]? = some v) : RO w S' (some ⟨b, o, none⟩) vs :=
  ⟨fun j v h => ⟨b, o, rfl, (H.bkAt i hi).lt, hb, (H.bkAt i hi).cell (hv j v h)⟩⟩

/-! ## Homes that may be -/
def badHome (h : Int) : Bool := decide (h < 0 ∨ 8 ≤ h)
def anyBad (xs : List Int) : Bool := xs.any badHome
/-- what a closure of a whole number tells -/
def Tells (P : Program) (v : Value) (g : Int → Bool) : Prop := ∀ (x : Int) (w : World) (R : Ending → World → Prop), R (.returned (.bool (g x))) w → CallV P v [.int .i64 x] R w
def idxOf (g : Int → Bool) : List Int → Nat → Int
  | [], _ => -1
  | x :: xs, i => if g x = true then (i : Int) else idxOf g xs (i + 1)
theorem idxOf_nonneg (g : Int → Bool) : ∀ (xs : List Int) (i : Nat), (0 ≤ idxOf g xs i) ↔ xs.any g = true
  | [], i => by simp [idxOf]
  | x :: xs, i => by
    unfold idxOf
    cases h : g x
    · simp only [Bool.false_eq_true, if_false, List.any_cons, h, Bool.false_or]; exact idxOf_nonneg g xs (i + 1)
    · simp [h]
theorem idxOf_drop (g : Int → Bool) (xs : List Int) (i : Nat) (h : i < xs.length) : idxOf g (xs.drop i) i = if g (xs.getD i 0) = true then (i : Int) else idxOf g (xs.drop (i + 1)) (i + 1) := by
  rw [List.drop_eq_getElem_cons h]
  simp [idxOf, h]
theorem indexFunc (p : Option Addr) (xs : List Int) (c : Nat) (v : Value) (g : Int → Bool) (hg : Tells Tryz.prog v g) (hl : xs.length ≤ 1000000) :
    SpR Tryz.prog 141 #[.slice p xs.length c, v] (fun w S => ROi w S p xs) [] (fun r A => r = i64 (idxOf g xs 0) ∧ A = []) := by
  intro w0 S w B hr H
  refine callsSlicesIndexFuncIntInt _ _ _ _ _ _ ?_
  unfold preSlicesIndexFuncIntInt
  refine ⟨fun _ i w' => (0 ≤ i ∧ i ≤ xs.length) ∧ idxOf g xs 0 = idxOf g (xs.drop i.toNat) i.toNat ∧ St w0 S w' ([] ++ B), fun _ i _ => (xs.length - i).toNat, ⟨⟨by omega, by omega⟩, by simp, H⟩, ?_⟩
  rintro _g w z i ⟨⟨h0, h1⟩, hi, H⟩
  by_cases c1 : i < xs.length
  · refine Br_t c1 ⟨⟨h0, c1⟩, ?_⟩
    obtain ⟨b, o, rfl, hc⟩ := hr.read H (j := i.toNat) (by omega)
    refine PtrSome_at (exInt hc (hg _ _ _ ⟨_, rfl, ?_⟩))
    rw [idxOf_drop g xs i.toNat (by omega)] at hi
    cases hb : g (xs.getD i.toNat 0)
    · simp only [Br_false]
      rw [hb] at hi
      rw [wrap_succ h0 (by omega)]
      refine ⟨⟨⟨by omega, by omega⟩, ?_, H⟩, show (xs.length - (i + 1)).toNat < (xs.length - i).toNat by omega⟩
      rw [hi, show (i + 1).toNat = i.toNat + 1 by omega]; rfl
    · simp only [Br_true]
      rw [hb] at hi
      refine ⟨_, [], rfl, ⟨?_, rfl⟩, H⟩
      simp only [if_true] at hi
      rw [hi, Int.toNat_of_nonneg h0]
  · refine Br_f c1 ⟨_, [], rfl, ⟨?_, rfl⟩, H⟩
    rw [hi, List.drop_eq_nil_of_le (by omega)]; rfl
theorem containsFunc (p : Option Addr) (xs : List Int) (c : Nat) (v : Value) (g : Int → Bool) (hg : Tells Tryz.prog v g) (hl : xs.length ≤ 1000000) :
    SpR Tryz.prog 87 #[.slice p xs.length c, v] (fun w S => ROi w S p xs) [] (fun r A => r = .bool (xs.any g) ∧ A = []) := by
  intro w0 S w B hr H
  refine callsSlicesContainsFuncIntInt _ _ _ _ _ _ ?_
  unfold preSlicesContainsFuncIntInt
  refine (indexFunc p xs c v g hg hl w0 S w B hr H).mono ?_
  rintro e w' ⟨r, A', rfl, ⟨rfl, rfl⟩, H⟩
  refine ⟨_, rfl, _, [], rfl, ⟨?_, rfl⟩, H⟩
  have := idxOf_nonneg g xs 0
  cases h : xs.any g
  · rw [h] at this; simp at this; simp; omega
  · rw [h] at this; simp at this; simp; omega
theorem indexInt (p : Option Addr) (xs : List Int) (c : Nat) (v : Int) (hl : xs.length ≤ 1000000) :
    SpR Tryz.prog 142 #[.slice p xs.length c, i64 v] (fun w S => ROi w S p xs) [] (fun r A => r = i64 (idxOf (fun x => v == x) xs 0) ∧ A = []) := by
  intro w0 S w B hr H
  refine callsSlicesIndexIntInt _ _ _ _ _ _ ?_
  unfold preSlicesIndexIntInt
  refine ⟨fun _ i w' => (0 ≤ i ∧ i ≤ xs.length) ∧ idxOf (fun x => v == x) xs 0 = idxOf (fun x => v == x) (xs.drop i.toNat) i.toNat ∧ St w0 S w' ([] ++ B), fun _ i _ => (xs.length - i).toNat, ⟨⟨by omega, by omega⟩, by simp, H⟩, ?_⟩
  rintro _g w z i ⟨⟨h0, h1⟩, hi, H⟩
  by_cases c1 : i < xs.length
  · refine Br_t c1 ⟨⟨h0, c1⟩, ?_⟩
    obtain ⟨b, o, rfl, hc⟩ := hr.read H (j := i.toNat) (by omega)
    refine PtrSome_at (exInt hc ?_)
    rw [idxOf_drop _ xs i.toNat (by omega)] at hi
    cases hb : (v == xs.getD i.toNat 0)
    · simp only [Br_false]
      rw [hb] at hi
      rw [wrap_succ h0 (by omega)]
      refine ⟨⟨⟨by omega, by omega⟩, ?_, H⟩, show (xs.length - (i + 1)).toNat < (xs.length - i).toNat by omega⟩
      rw [hi, show (i + 1).toNat = i.toNat + 1 by omega]; rfl
    · simp only [Br_true]
      rw [hb] at hi
      refine ⟨_, [], rfl, ⟨?_, rfl⟩, H⟩
      simp only [if_true] at hi
      rw [hi, Int.toNat_of_nonneg h0]
  · refine Br_f c1 ⟨_, [], rfl, ⟨?_, rfl⟩, H⟩
    rw [hi, List.drop_eq_nil_of_le (by omega)]; rfl
theorem containsInt (p : Option Addr) (xs : List Int) (c : Nat) (v : Int) (hl : xs.length ≤ 1000000) :
    SpR Tryz.prog 89 #[.slice p xs.length c, i64 v] (fun w S => ROi w S p xs) [] (fun r A => r = .bool (xs.any fun x => v == x) ∧ A = []) := by
  intro w0 S w B hr H
  refine callsSlicesContainsIntInt _ _ _ _ _ _ ?_
  unfold preSlicesContainsIntInt
  refine (indexInt p xs c v hl w0 S w B hr H).mono ?_
  rintro e w' ⟨r, A', rfl, ⟨rfl, rfl⟩, H⟩
  refine ⟨_, rfl, _, [], rfl, ⟨?_, rfl⟩, H⟩
  have := idxOf_nonneg (fun x => v == x) xs 0
  cases h : xs.any fun x => v == x
  · rw [h] at this; simp at this; simp; omega
  · rw [h] at this; simp at this; simp; omega
end Go.Proofs.YtollfjfcdofbaaaGreat
