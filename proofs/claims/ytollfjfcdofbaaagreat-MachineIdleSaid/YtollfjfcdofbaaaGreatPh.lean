/- MachineIdle: whatever the input, the law returns true, and the input reads as it did. -/
import Derived.Test.YtollfjfcdofbaaaGreatNa
import Derived.Test.YtollfjfcdofbaaaGreatFx
import Derived.Test.YtollfjfcdofbaaaGreatFy
namespace Go.Proofs.YtollfjfcdofbaaaGreat
open Go Go.Proofs
set_option linter.unusedSimpArgs false
set_option linter.unusedVariables false
set_option maxRecDepth 100000
set_option maxHeartbeats 4000000
def preWeighlocklaw18MachineIdle (a0_0 : Int) (a0_1p : Option Addr) (a0_1l a0_1c : Nat) (a0_2 a0_3 : Int) (a0_4 a0_5 : Int) (a0_6 a0_7 : Int) (a1p : Option Addr) (a1l a1c : Nat) (R : Ending → 
    World → Prop) (w : World) : Prop :=
  ∀ w0, w0 = w.alloc (.cells #[(.int .i64 a0_0), (.slice a0_1p a0_1l a0_1c), (.int .u32 a0_2), (.int .i64 a0_3), (.int .i64 a0_4), (.int .i64 a0_5), (.int .i64 a0_6), (.int .i64 a0_7)] 74) →
 (∃ n1, w0.cell? ⟨w.heap.size, 0, none⟩ = some (.int .i64 n1) ∧ (∃ p2 l3 c4, w0.cell? ⟨w.heap.size, 1, none⟩ = some (.slice p2 l3 c4) ∧
 (∃ n5, w0.cell? ⟨w.heap.size, 2, none⟩ = some (.int .u32 n5) ∧ (∃ n6, w0.cell? ⟨w.heap.size, 3, none⟩ = some (.int .i64 n6) ∧
 (∃ n7, w0.cell? ⟨w.heap.size, 4, none⟩ = some (.int .i64 n7) ∧ (∃ n8, w0.cell? ⟨w.heap.size, 5, none⟩ = some (.int .i64 n8) ∧
 (∃ n9, w0.cell? ⟨w.heap.size, 6, none⟩ = some (.int .i64 n9) ∧ (∃ n10, w0.cell? ⟨w.heap.size, 7, none⟩ = some (.int .i64 n10) ∧
 (Calls Tryz.prog 49 #[(.agg #[(.int .i64 n1), (.slice p2 l3 c4), (.int .u32 n5), (.int .i64 n6), (.int .i64 n7), (.int .i64 n8), (.int .i64 n9), (.int .i64 n10)]), (.slice a1p a1l a1c), (.int .i64 200)] w0 (fun e11 w12 =>
 ∃ b13, e11 = .returned (.bool b13) ∧ (Br (!b13) (Calls Tryz.prog 50 #[] w12 (fun e14 w15 =>
 ∃ b16, e14 = .returned (.bool b16) ∧ (R (.returned (.bool b16)) w15))) (∃ n17, w12.cell? ⟨w.heap.size, 0, none⟩ = some (.int .i64 n17) ∧
 (∃ p18 l19 c20, w12.cell? ⟨w.heap.size, 1, none⟩ = some (.slice p18 l19 c20) ∧
 (∃ n21, w12.cell? ⟨w.heap.size, 2, none⟩ = some (.int .u32 n21) ∧ (∃ n22, w12.cell? ⟨w.heap.size, 3, none⟩ = some (.int .i64 n22) ∧
 (∃ n23, w12.cell? ⟨w.heap.size, 4, none⟩ = some (.int .i64 n23) ∧ (∃ n24, w12.cell? ⟨w.heap.size, 5, none⟩ = some (.int .i64 n24) ∧
 (∃ n25, w12.cell? ⟨w.heap.size, 6, none⟩ = some (.int .i64 n25) ∧ (∃ n26, w12.cell? ⟨w.heap.size, 7, none⟩ = some (.int .i64 n26) ∧
 (Calls Tryz.prog 51 #[(.agg #[(.int .i64 n17), (.slice p18 l19 c20), (.int .u32 n21), (.int .i64 n22), (.int .i64 n23), (.int .i64 n24), (.int .i64 n25), (.int .i64 n26)])] w12 (fun e27 w28 =>
 ∃ p29 n30, e27 = .returned (.tuple #[(.pointer p29), (.int .i64 n30)]) ∧
 (Br (n30 != 0) (R (.returned (.bool false)) w28) (Br (Option.isNone p29) (R (.returned (.bool false)) w28) (∃ (I31 : Bool →
 Int → World → Prop) (μ32 : Bool → Int → World → Nat), I31 false 0 w28 ∧ ∀ (_g33 : Nat → Value) (w34 : World) (b35 : Bool) (n36 : Int), I31 b35 n36 w34 →
 (Br (decide (n36 < (((a1l : Nat) : Int)))) (((0 : Int) ≤ n36 ∧ n36 < ((a1l : Nat) : Int)) ∧ (PtrSome a1p (fun b37 o38 =>
 ∃ n39, w34.cell? ⟨b37, o38 + ((Int.toNat n36)) * 3, none⟩ = some (.int .i64 n39) ∧ (∃ n40, w34.cell? ⟨b37, o38 + ((Int.toNat n36)) * 3 + 1, none⟩ = some (.int .i64 n40) ∧
 (∃ n41, w34.cell? ⟨b37, o38 + ((Int.toNat n36)) * 3 + 2, none⟩ = some (.int .i64 n41) ∧ (∀ w42, w42 = w34.alloc (.cells #[(.int .i64 0), (.int .i64 0), (.int .i64 0)] 107) →
 (w42.there w34.heap.size 0 3 ∧ (∀ w43, w43 = w42.setCells w34.heap.size 0 [(.int .i64 n39), (.int .i64 n40), (.int .i64 n41)] →
 (∃ n44, w43.cell? ⟨w34.heap.size, 1, none⟩ = some (.int .i64 n44) ∧ (Calls Tryz.prog 54 #[(.pointer p29), (.int .i64 n44)] w43 (fun e45 w46 =>
 ∃ n47, e45 = .returned (.int .i64 n47) ∧ (PtrSome p29 (fun b48 o49 => ∃ p50, w46.cell? ⟨b48, o49, none⟩ = some (.pointer p50) ∧
 (PtrSome p50 (fun b51 o52 => ∃ p53, w46.cell? ⟨b51, o52, none⟩ = some (.pointer p53) ∧
 (Calls Tryz.prog 42 #[(.pointer p53)] w46 (fun e54 w55 => ∃ p56 l57 c58, e54 = .returned (.slice p56 l57 c58) ∧
 (Calls Tryz.prog 55 #[(.pointer p29)] w55 (fun e59 w60 => ∃ p61 l62 c63, e59 = .returned (.slice p61 l62 c63) ∧
 (Calls Tryz.prog 56 #[(.pointer p29)] w60 (fun e64 w65 => ∃ n66, e64 = .returned (.int .i64 n66) ∧
 (∃ n67, w65.cell? ⟨w34.heap.size, 0, none⟩ = some (.int .i64 n67) ∧ (∃ n68, w65.cell? ⟨w34.heap.size, 1, none⟩ = some (.int .i64 n68) ∧
 (∃ n69, w65.cell? ⟨w34.heap.size, 2, none⟩ = some (.int .i64 n69) ∧ (Calls Tryz.prog 52 #[(.pointer p29), (.agg #[(.int .i64 n67), (.int .i64 n68), (.int .i64 n69)])] w65 (fun e70 w71 =>
 ∃ b72, e70 = .returned (.bool b72) ∧ (Br b72 (∃ n73, w71.cell? ⟨w34.heap.size, 0, none⟩ = some (.int .i64 n73) ∧
 (Br (n73 == 4) (Br (!(n47 == 2)) (R (.returned (.bool false)) w71) (I31 b35 (IntKind.i64.wrap (n36 + 1)) w71 ∧
 μ32 b35 (IntKind.i64.wrap (n36 + 1)) w71 < μ32 b35 n36 w34)) (I31 b35 (IntKind.i64.wrap (n36 + 1)) w71 ∧
 μ32 b35 (IntKind.i64.wrap (n36 + 1)) w71 < μ32 b35 n36 w34))) (PtrSome p29 (fun b74 o75 => ∃ p76, w71.cell? ⟨b74, o75, none⟩ = some (.pointer p76) ∧
 (PtrSome p76 (fun b77 o78 => ∃ p79, w71.cell? ⟨b77, o78, none⟩ = some (.pointer p79) ∧
 (Calls Tryz.prog 42 #[(.pointer p79)] w71 (fun e80 w81 => ∃ p82 l83 c84, e80 = .returned (.slice p82 l83 c84) ∧
 (∃ (I85 : Bool → Int → World → Prop) (μ86 : Bool → Int → World → Nat), I85 b35 0 w81 ∧ ∀ (_g87 : Nat →
 Value) (w88 : World) (b89 : Bool) (n90 : Int), I85 b89 n90 w88 → (Br (decide (n90 < (((l57 : Nat) : Int)))) (∀ w91, w91 = w88.drew →
 (Br (decide (n90 ≥ (((l83 : Nat) : Int)))) (R (.returned (.bool false)) w91) (((0 : Int) ≤ n90 ∧
 n90 < ((l83 : Nat) : Int)) ∧ (PtrSome p82 (fun b92 o93 => ∃ n94, w91.cell? ⟨b92, o93 + (Int.toNat n90), none⟩ = some (.int .u32 n94) ∧
 (((0 : Int) ≤ n90 ∧ n90 < ((l57 : Nat) : Int)) ∧ (PtrSome p56 (fun b95 o96 => ∃ n97, w91.cell? ⟨b95, o96 + (Int.toNat n90), none⟩ = some (.int .u32 n97) ∧
 (Br (n94 != n97) (R (.returned (.bool false)) w91) (I85 b89 (IntKind.i64.wrap (n90 + 1)) w91 ∧
 μ86 b89 (IntKind.i64.wrap (n90 + 1)) w91 < μ86 b89 n90 w88)))))))))) (Calls Tryz.prog 55 #[(.pointer p29)] w88 (fun e98 w99 =>
 ∃ p100 l101 c102, e98 = .returned (.slice p100 l101 c102) ∧ (Br (((((l101 : Nat) : Int)) : Int) != (((l62 : Nat) : Int))) (R (.returned (.bool false)) w99) (Calls Tryz.prog 56 #[(.pointer p29)] w99 (fun e103 w104 =>
 ∃ n105, e103 = .returned (.int .i64 n105) ∧ (Br (n105 != n66) (R (.returned (.bool false)) w104) (I31 b89 (IntKind.i64.wrap (n36 + 1)) w104 ∧
 μ32 b89 (IntKind.i64.wrap (n36 + 1)) w104 < μ32 b35 n36 w34)))))))))))))))))))))))))))))))))))))))))) (Calls Tryz.prog 50 #[] w34 (fun e106 w107 =>
 ∃ b108, e106 = .returned (.bool b108) ∧ (R (.returned (.bool b108)) w107))))))))))))))))))))))))))))
theorem callsWeighlocklaw18MachineIdle (a0_0 : Int) (a0_1p : Option Addr) (a0_1l a0_1c : Nat) (a0_2 a0_3 : Int) (a0_4 a0_5 : Int) (a0_6 a0_7 : Int) (a1p : Option Addr) (a1l a1c : Nat) (R : Ending → 
    World → Prop) (w : World) (h : preWeighlocklaw18MachineIdle a0_0 a0_1p a0_1l a0_1c a0_2 a0_3 a0_4 a0_5 a0_6 a0_7 a1p a1l a1c R w) : Calls Tryz.prog 11 #[(.agg #[(.int .i64 a0_0), (.slice a0_1p a0_1l a0_1c), (.int .u32 a0_2), (.int .i64 a0_3), (.int .i64 a0_4), (.int .i64 a0_5), (.int .i64 a0_6), (.int .i64 a0_7)]), (.slice a1p a1l a1c)] w R :=
  calls_of_sym Tryz.func11 (c := bodyOf Tryz.f11) rfl (Eq.mpr (by kernel_rfl) h)

def preWeighlocklaw18Fine (a0_0 : Int) (a0_1p : Option Addr) (a0_1l a0_1c : Nat) (a0_2 a0_3 : Int) (a0_4 a0_5 : Int) (a0_6 a0_7 : Int) (a1p : Option Addr) (a1l a1c : Nat) (a2 : Int) (R : Ending → 
    World → Prop) (w : World) : Prop :=
  ∀ w0, w0 = w.alloc (.cells #[(.int .i64 a0_0), (.slice a0_1p a0_1l a0_1c), (.int .u32 a0_2), (.int .i64 a0_3), (.int .i64 a0_4), (.int .i64 a0_5), (.int .i64 a0_6), (.int .i64 a0_7)] 74) →
 (∃ p1 l2 c3, w0.cell? ⟨w.heap.size, 1, none⟩ = some (.slice p1 l2 c3) ∧ (Br (decide (((((l2 : Nat) : Int)) : Int) ≤ 8)) (∃ n4, w0.cell? ⟨w.heap.size, 0, none⟩ = some (.int .i64 n4) ∧
 (∃ p5 l6 c7, w0.cell? ⟨w.heap.size, 1, none⟩ = some (.slice p5 l6 c7) ∧ (∃ n8, w0.cell? ⟨w.heap.size, 2, none⟩ = some (.int .u32 n8) ∧
 (∃ n9, w0.cell? ⟨w.heap.size, 3, none⟩ = some (.int .i64 n9) ∧ (∃ n10, w0.cell? ⟨w.heap.size, 4, none⟩ = some (.int .i64 n10) ∧
 (∃ n11, w0.cell? ⟨w.heap.size, 5, none⟩ = some (.int .i64 n11) ∧ (∃ n12, w0.cell? ⟨w.heap.size, 6, none⟩ = some (.int .i64 n12) ∧
 (∃ n13, w0.cell? ⟨w.heap.size, 7, none⟩ = some (.int .i64 n13) ∧ (Calls Tryz.prog 39 #[(.agg #[(.int .i64 n4), (.slice p5 l6 c7), (.int .u32 n8), (.int .i64 n9), (.int .i64 n10), (.int .i64 n11), (.int .i64 n12), (.int .i64 n13)])] w0 (fun e14 w15 =>
 ∃ n16 p17 l18 c19 n20 n21 n22 n23 n24 n25, e14 = .returned (.agg #[(.int .i64 n16), (.slice p17 l18 c19), (.int .u32 n20), (.int .i64 n21), (.int .i64 n22), (.int .i64 n23), (.int .i64 n24), (.int .i64 n25)]) ∧
 (Calls Tryz.prog 38 #[(.agg #[(.int .i64 n16), (.slice p17 l18 c19), (.int .u32 n20), (.int .i64 n21), (.int .i64 n22), (.int .i64 n23), (.int .i64 n24), (.int .i64 n25)])] w15 (fun e26 w27 =>
 ∃ n28, e26 = .returned (.int .i64 n28) ∧ (Br (n28 == 0) (R (.returned (.bool (decide (((((a1l : Nat) : Int)) : Int) ≤ a2)))) w27) (R (.returned (.bool false)) w27)))))))))))))) (R (.returned (.bool false)) w0)))
theorem callsWeighlocklaw18Fine (a0_0 : Int) (a0_1p : Option Addr) (a0_1l a0_1c : Nat) (a0_2 a0_3 : Int) (a0_4 a0_5 : Int) (a0_6 a0_7 : Int) (a1p : Option Addr) (a1l a1c : Nat) (a2 : Int) (R : Ending → 
    World → Prop) (w : World) (h : preWeighlocklaw18Fine a0_0 a0_1p a0_1l a0_1c a0_2 a0_3 a0_4 a0_5 a0_6 a0_7 a1p a1l a1c a2 R w) : Calls Tryz.prog 49 #[(.agg #[(.int .i64 a0_0), (.slice a0_1p a0_1l a0_1c), (.int .u32 a0_2), (.int .i64 a0_3), (.int .i64 a0_4), (.int .i64 a0_5), (.int .i64 a0_6), (.int .i64 a0_7)]), (.slice a1p a1l a1c), (.int .i64 a2)] w R :=
  calls_of_sym Tryz.func49 (c := bodyOf Tryz.f49) rfl (Eq.mpr (by kernel_rfl) h)



namespace MS
theorem evs_at (d : Dd) (t now : Int) : ∀ x ∈ evs d t now, x.2.2.1 = now := by
  intro x hx
  unfold evs at hx
  simp only [List.mem_append] at hx
  rcases hx with (hx | hx) | hx
  all_goals
    revert hx
    repeat' split
    all_goals
      intro hx
      simp at hx
      try (subst hx; rfl)
theorem do1_tr (s : MS) (e : Ev) : ∃ more, (s.do1 e).tr = s.tr ++ more ∧ (∀ x ∈ more, x.2.2.1 = s.now) ∧ (e.1 = 2 → more = []) := by
  unfold do1
  by_cases c1 : e.1 = 1
  · rw [if_pos c1]; unfold step; split
    · exact ⟨_, rfl, evs_at _ _ _, fun h => by omega⟩
    · exact ⟨[], by simp, by simp, fun _ => rfl⟩
  rw [if_neg c1]
  by_cases c2 : e.1 = 2
  · rw [if_pos c2]; unfold tick; split <;> exact ⟨[], by simp, by simp, fun _ => rfl⟩
  rw [if_neg c2]
  by_cases c3 : e.1 = 3
  · rw [if_pos c3]; unfold call; split
    · exact ⟨_, rfl, by simp [enter], fun h => by omega⟩
    · exact ⟨[], by simp, by simp, fun _ => rfl⟩
  rw [if_neg c3]
  by_cases c4 : e.1 = 4
  · rw [if_pos c4]; unfold fin; split
    · exact ⟨_, rfl, by simp [enter], fun h => by omega⟩
    · exact ⟨[], by simp, by simp, fun _ => rfl⟩
  rw [if_neg c4]
  exact ⟨[], by simp, by simp, fun _ => rfl⟩
theorem do_tr (s : MS) (e : Ev) : ∃ more, (s.do_ e).tr = s.tr ++ more ∧ (∀ x ∈ more, x.2.2.1 = s.now) ∧ (e.1 = 2 → more = []) := by
  unfold do_; split <;> exact do1_tr s e
theorem do1_now (s : MS) (e : Ev) : (s.do1 e).now = if e.1 = 2 then s.tick.now else s.now := by
  unfold do1
  by_cases c1 : e.1 = 1
  · rw [if_pos c1, if_neg (by omega)]; unfold step; split <;> rfl
  rw [if_neg c1]
  by_cases c2 : e.1 = 2
  · rw [if_pos c2, if_pos c2]
  rw [if_neg c2, if_neg c2]
  by_cases c3 : e.1 = 3
  · rw [if_pos c3]; unfold call; split <;> rfl
  rw [if_neg c3]
  by_cases c4 : e.1 = 4
  · rw [if_pos c4]; unfold fin; split <;> rfl
  rw [if_neg c4]
theorem do_now (s : MS) (e : Ev) : (s.do_ e).now = if e.1 = 2 then s.tick.now else s.now := by
  unfold do_; split <;> exact do1_now s e
theorem tick_now (s : MS) (h : s.now < 1000000) (h0 : 0 ≤ s.now) : s.tick.now = s.now + 1 := by
  unfold tick
  rw [if_pos (by simp [tickB]; omega)]
  exact wrap_i64 (by omega) (by omega)
end MS
def fineB (c : Cf) (n : Nat) (most : Int) : Bool := decide (((c.homes.length : Nat) : Int) ≤ 8) && (c.err == 0 && decide (((n : Nat) : Int) ≤ most))
theorem fine18 (c : Cf) (p : Option Addr) (cap : Nat) (q : Option Addr) (n k : Nat) (most : Int) :
    SpR Tryz.prog 49 #[c.val p cap, .slice q n k, i64 most] (fun w S => ROi w S p c.homes) [] (fun r A => r = .bool (fineB c n most) ∧ A = []) := by
  intro w0 S w B hr H
  refine callsWeighlocklaw18Fine _ _ _ _ _ _ _ _ _ _ _ _ _ _ _ _ ?_
  unfold preWeighlocklaw18Fine
  refine H.allocK (fun w1 H => exSlice (H.cell 0 rfl rfl) ?_)
  by_cases h8 : ((c.homes.length : Nat) : Int) ≤ 8
  · refine Br_t h8 ?_
    refine exInt (H.cell 0 rfl rfl) (exSlice (H.cell 0 rfl rfl) (exInt (H.cell 0 rfl rfl) (exInt (H.cell 0 rfl rfl) (exInt (H.cell 0 rfl rfl) (exInt (H.cell 0 rfl rfl) (exInt (H.cell 0 rfl rfl) (exInt (H.cell 0 rfl rfl) ?_)))))))
    refine (law17Ref c p cap []).go H [] _ rfl (fun w3 H => ⟨_, _, _, _, _, _, _, _, _, _, rfl, ?_⟩)
    refine (refCheck c p cap (by omega)).go H [] _ rfl (hr.sub H (by simp)) (fun r A w4 hq H => ?_)
    obtain ⟨rfl, rfl⟩ := hq
    refine ⟨_, rfl, ?_⟩
    by_cases he : c.err = 0
    · refine Br_eq he ⟨_, [], rfl, ⟨?_, rfl⟩, H.tail⟩
      simp [fineB, h8, he]
    · refine Br_neq he ⟨_, [], rfl, ⟨?_, rfl⟩, H.tail⟩
      simp [fineB, he]
  · refine Br_f h8 ⟨_, [], rfl, ⟨?_, rfl⟩, H.tail⟩
    simp [fineB]; intro h; omega
theorem fineB_t {c : Cf} {n : Nat} {most : Int} (h : fineB c n most = true) : c.homes.length ≤ 8 ∧ c.err = 0 ∧ ((n : Nat) : Int) ≤ most := by
  unfold fineB at h
  simp only [Bool.and_eq_true, decide_eq_true_eq, beq_iff_eq] at h
  exact ⟨by omega, h.2.1, h.2.2⟩
def MS.at_ (c : Cf) (l : List MS.Ev) (k : Nat) : MS := (MS.first c).run (l.take k)
theorem MS.at_succ (c : Cf) (l : List MS.Ev) (k : Nat) (e : MS.Ev) (hk : k < l.length) (he : l.getD k default = e) : MS.at_ c l (k + 1) = (MS.at_ c l k).do_ e := by
  have htk : l.take (k + 1) = l.take k ++ [e] := by
    rw [List.take_add_one, List.getElem?_eq_getElem hk, ← he, List.getD_eq_getElem?_getD, List.getElem?_eq_getElem hk]; rfl
  unfold MS.at_; rw [htk, MS.run_snoc]
theorem MS.at_len (c : Cf) (l : List MS.Ev) (k : Nat) : (MS.at_ c l k).tr.length ≤ 3 * k := by
  have h := MS.run_len (MS.first c) (l.take k)
  rw [List.length_take] at h
  have h0 : (MS.first c).tr.length = 0 := by simp [MS.first]
  unfold MS.at_; omega
theorem MS.at_ok {la : LkA} {c : Cf} (h : MS.ok1 la (MS.first c)) (l : List MS.Ev) (k : Nat) : MS.ok1 la (MS.at_ c l k) := MS.ok1_run h _
theorem MS.at_now (c : Cf) (l : List MS.Ev) (k : Nat) (hk : k ≤ 1000) (hl : k ≤ l.length) : 0 ≤ (MS.at_ c l k).now ∧ (MS.at_ c l k).now ≤ k := by
  induction k with
  | zero => simp [MS.at_, MS.run, MS.first]
  | succ k ih =>
    have ih := ih (by omega) (by omega)
    rw [MS.at_succ c l k _ (by omega) rfl, MS.do_now]
    split
    · rw [MS.tick_now _ (by omega) ih.1]; omega
    · omega

theorem awake_true {W w : World} {L : Blocks} (H : St W [] w L) : Calls Tryz.prog 50 #[] w fun e4 w5 => ∃ b6, e4 = Ending.returned (.bool b6) ∧ True_ W (.returned (.bool b6)) w5 :=
  awake18.go H [] L (by simp) (fun w H => ⟨_, rfl, rfl, H.upd⟩)

theorem memWords (a : PA) (s : PS) (hl : s.words.length ≤ 1000000) : SpE Tryz.prog 42 #[ptr a.m] (memL a s) (fun r A => ∃ b : Nat, r = slv b s.words.length ∧ A = (b, ints .u32 s.words) :: memL a s) := by
  intro w0 S w B H
  refine callsMemMemWords _ _ _ ?_
  unfold preMemMemWords
  simp only [memL, List.cons_append, List.nil_append] at H
  refine exSlice (H.cell 0 rfl rfl) ⟨⟨by omega, by omega, by omega, by omega⟩, H.allocK (fun w1 H => ?_)⟩
  rw [made_ints] at H
  simp only [Int.toNat_natCast] at H ⊢
  generalize w.heap.size = nb at H ⊢
  refine ⟨fun i w' => (0 ≤ i ∧ i ≤ s.words.length) ∧ St w0 S w' ((nb, ints .u32 (s.words.take i.toNat ++ List.replicate (s.words.length - i.toNat) 0)) :: (a.m, [slv a.wb s.words.length, .slice (some ⟨a.hb, 0, none⟩) s.words.length a.hc]) :: (a.wb, ints .u32 s.words) :: (a.hb, ints .i64 (s.homes ++ a.more)) :: B),
    fun i _ => (s.words.length - i).toNat, ⟨⟨by omega, by omega⟩, H.to (by simp)⟩, ?_⟩
  rintro _g w i ⟨⟨h0, h1⟩, H⟩
  by_cases c1 : i < s.words.length
  · have hi : i.toNat < s.words.length := by omega
    refine Br_t c1 (exSlice (H.cell 1 rfl rfl) ⟨⟨h0, c1⟩, PtrSome_at ?_⟩)
    refine (uLoad (H.cell 2 rfl (ints_at0 hi))).mono ?_
    rintro e w' ⟨rfl, rfl⟩
    refine ⟨_, rfl, ⟨h0, c1⟩, H.can 0 rfl (by simp; omega), H.setK 0 rfl (fun w H => ?_)⟩
    rw [wrap_succ h0 (by omega)]
    simp only [List.set_cons_zero, ints_set0] at H
    refine ⟨⟨⟨by omega, by omega⟩, H.to ?_⟩, show (s.words.length - (i + 1)).toNat < (s.words.length - i).toNat by omega⟩
    rw [show (i + 1).toNat = i.toNat + 1 by omega, take_one hi]
    rw [List.set_append_right _ _ (by simp; omega)]
    have e1 : i.toNat - (s.words.take i.toNat).length = 0 := by simp; omega
    rw [e1, show s.words.length - i.toNat = (s.words.length - (i.toNat + 1)) + 1 by omega, List.replicate_succ, List.set_cons_zero, List.append_assoc]
    rfl
  · have ei : i.toNat = s.words.length := by omega
    rw [ei, List.take_length, Nat.sub_self, List.replicate_zero, List.append_nil] at H
    exact Br_f c1 ⟨_, _, rfl, ⟨nb, rfl, rfl⟩, H.to (by simp [memL])⟩


def PS.lg (n : Nat) (s : PS) : Prop := s.words.length = n
namespace PS
variable {n : Nat}
theorem touch_lg {s : PS} (h : s.lg n) (t a : Int) (write : Bool) : (s.touch t a write).lg n := h
theorem put_lg {s : PS} (h : s.lg n) (a v : Int) : (s.put a v).lg n := by simpa [put, lg] using h
theorem load_lg {s : PS} (h : s.lg n) (t a : Int) : (s.load t a).lg n := by unfold load; split; exact touch_lg h _ _ _; exact h
theorem store_lg {s : PS} (h : s.lg n) (t a v : Int) : (s.store t a v).lg n := by unfold store; split; exact put_lg (touch_lg h _ _ _) _ _; exact h
theorem cas_lg {s : PS} (h : s.lg n) (t a o v : Int) : (s.cas t a o v).lg n := by
  unfold cas; split
  · split; exact put_lg (touch_lg h _ _ _) _ _; exact touch_lg h _ _ _
  · exact h
theorem add_lg {s : PS} (h : s.lg n) (t a v : Int) : (s.add t a v).lg n := by unfold add; split; exact put_lg (touch_lg h _ _ _) _ _; exact h
end PS
variable {n : Nat}
theorem FS.stepP_lg {s : FS} {p : PS} (h : p.lg n) (t u : Int) : (s.stepP p t u).lg n := by
  unfold FS.stepP FS.lockP
  repeat' split
  all_goals first | exact h | exact PS.load_lg h _ _ | exact PS.store_lg h _ _ _ | exact PS.add_lg h _ _ _
theorem HS.stepP_lg {s : HS} {p : PS} (h : p.lg n) (t u : Int) : (s.stepP p t u).lg n := by
  unfold HS.stepP HS.lockP
  repeat' split
  all_goals first | exact h | exact PS.load_lg h _ _ | exact PS.store_lg h _ _ _ | exact PS.add_lg h _ _ _
theorem IS.stepP_lg {s : IS} {p : PS} (h : p.lg n) (t u : Int) : (s.stepP p t u).lg n := by
  unfold IS.stepP IS.lockP IS.unP
  repeat' split
  all_goals first | exact h | exact PS.load_lg h _ _ | exact PS.store_lg h _ _ _ | exact PS.cas_lg h _ _ _ _
theorem LI.stepP_lg {s : LI} {p : PS} (h : p.lg n) (t u : Int) : (s.stepP p t u).lg n := by
  cases s with
  | tic s => exact FS.stepP_lg h t u
  | clh s => exact HS.stepP_lg h t u
  | mcs s => exact IS.stepP_lg h t u
theorem CS.doP_lg {s : CS} {p : PS} (h : p.lg n) (t u : Int) (k : Nat) : (s.doP p t u k).lg n := by
  unfold CS.doP
  split
  all_goals first | exact h | exact LI.stepP_lg h _ _ | exact PS.load_lg h _ _ | exact PS.store_lg h _ _ _
theorem CS.stepP_lg {s : CS} {p : PS} (h : p.lg n) (t u : Int) : (s.stepP p t u).lg n := by
  unfold CS.stepP
  split
  · exact CS.doP_lg h _ _ _
  · exact h
theorem GS.stepP_lg {s : GS} {p : PS} (h : p.lg n) (t u : Int) : (s.stepP p t u).lg n := by
  unfold GS.stepP GS.lockP
  repeat' split
  all_goals first | exact h | exact PS.load_lg h _ _ | exact PS.store_lg h _ _ _ | exact PS.add_lg h _ _ _
theorem JS.stepP_lg {s : JS} {p : PS} (h : p.lg n) (t u : Int) : (s.stepP p t u).lg n := by
  unfold JS.stepP JS.lockP JS.unP
  repeat' split
  all_goals first | exact h | exact PS.load_lg h _ _ | exact PS.store_lg h _ _ _ | exact PS.cas_lg h _ _ _ _
theorem BS.stepP_lg {s : BS} {p : PS} (h : p.lg n) (t u : Int) (row : List Int) : (s.stepP p t u row).lg n := by
  unfold BS.stepP BS.lockP BS.unP
  repeat' split
  all_goals first | exact h | exact PS.load_lg h _ _ | exact PS.store_lg h _ _ _ | exact PS.cas_lg h _ _ _ _
theorem Lk.stepP_lg {s : Lk} {p : PS} (h : p.lg n) (t u now : Int) : (s.stepP p t u now).lg n := by
  cases s with
  | inn s => exact LI.stepP_lg h t u
  | slo s => exact GS.stepP_lg h t u
  | abo s e => exact BS.stepP_lg h t u _
  | hie s => exact JS.stepP_lg h t u
  | coh s => exact CS.stepP_lg h t u
namespace MS
theorem do1_lg {s : MS} (h : s.p.lg n) (e : Ev) : (s.do1 e).p.lg n := by
  unfold do1 step tick call fin
  repeat' split
  all_goals first | exact h | exact Lk.stepP_lg h _ _ _
theorem do_lg {s : MS} (h : s.p.lg n) (e : Ev) : (s.do_ e).p.lg n := by
  unfold do_; split <;> exact do1_lg h e
theorem run_lg {s : MS} (h : s.p.lg n) (l : List Ev) : (s.run l).p.lg n := by
  induction l generalizing s with
  | nil => exact h
  | cons e l ih => exact ih (do_lg h e)
theorem do1_idle {s : MS} {e : Ev} (h : s.doB e = false) : s.do1 e = s := by
  unfold doB at h
  unfold do1
  by_cases c1 : e.1 = 1
  · rw [if_pos c1] at h ⊢; unfold step; rw [if_neg (by simp [h])]
  rw [if_neg c1] at h ⊢
  by_cases c2 : e.1 = 2
  · rw [if_pos c2] at h ⊢; unfold tick; rw [if_neg (by simp [h])]
  rw [if_neg c2] at h ⊢
  by_cases c3 : e.1 = 3
  · rw [if_pos c3] at h ⊢; unfold call; rw [if_neg (by simpa [callB] using h)]
  rw [if_neg c3] at h ⊢
  by_cases c4 : e.1 = 4
  · rw [if_pos c4] at h ⊢; unfold fin; rw [if_neg (by simpa [finB] using h)]
  rw [if_neg c4]
theorem do_idle {s : MS} {e : Ev} (h : s.doB e = false) : s.do_ e = { s with idle := IntKind.i64.wrap (s.idle + 1) } := by
  unfold do_; rw [if_neg (by simp [h]), do1_idle h]
theorem end_holds {s : MS} {e : Ev} (hk : e.1 = 4) (h : s.doB e = true) : s.lk.ss.state e.2.1 = 2 := by
  unfold doB at h
  rw [if_neg (by omega), if_neg (by omega), if_neg (by omega), if_pos hk] at h
  simp only [finB, decide_eq_true_eq] at h
  unfold SS.holds at h
  unfold SS.state
  split at h
  · rename_i ht
    rw [if_pos ht]
    split at h
    · omega
    · split at h
      · assumption
      · omega
  · omega
end MS

theorem machWords (a : MA) (s : MS) (hl : s.p.words.length ≤ 1000000) : SpE Tryz.prog 42 #[ptr a.la.pa.m] (machL a s) (fun r A => ∃ b : Nat, r = slv b s.p.words.length ∧ A = (b, ints .u32 s.p.words) :: machL a s) := by
  intro w0 S w B H
  refine (memWords a.la.pa s.p hl).go H ((a.m, [ptr a.la.pa.p, a.la.v, .slice (slA a.tp) s.tr.length (s.tr ++ a.tm).length, i64 s.now, i64 s.idle, slv a.sb s.steps.length]) :: (a.sb, ints .i64 s.steps) :: (slB enRow a.tp (s.tr ++ a.tm) ++ (Lk.blk a.la s.lk ++ [(a.la.pa.p, [ptr a.la.pa.m, ptr a.la.pa.c, slv a.la.pa.ab s.p.acc.length]), (a.la.pa.ab, rows accRow s.p.acc)])))
    (cacL a.la.pa s.p ++ B) (by simp [machL, portL]) (fun r A w' hq H => ?_)
  obtain ⟨b, rfl, rfl⟩ := hq
  exact ⟨_, _, rfl, ⟨b, rfl, rfl⟩, (H.perm List.perm_middle).to (by simp [machL, portL])⟩
theorem machPort {w0 w : World} {S : List Nat} {a : MA} {s : MS} {X B : Blocks} (H : St w0 S w (X ++ (machL a s ++ B))) : Bk w a.la.pa.p [ptr a.la.pa.m, ptr a.la.pa.c, slv a.la.pa.ab s.p.acc.length] :=
  H.bk (a.la.pa.p, _) (by simp [machL, portL])
theorem first_words {c : Cf} (he : c.err = 0) : (MS.first c).p.lg c.ww.length ∧ c.ww.length ≤ 1000000 := by
  obtain ⟨b1, b2, b3⟩ := wh_good he
  have := wh_ww_len he
  exact ⟨rfl, by omega⟩
theorem machineIdle (c : Cf) (p : Option Addr) (cap : Nat) (q : Option Addr) (l : List MS.Ev) (qc : Nat) (W : World) (hr : ROi W [] p c.homes) (hq : RO W [] q (l.flatMap evRow)) :
    Calls Tryz.prog 11 #[c.val p cap, .slice q l.length qc] W (True_ W) := by
  have H : St W [] W [] := St.start (L := []) (by simp) (by simp)
  refine callsWeighlocklaw18MachineIdle _ _ _ _ _ _ _ _ _ _ _ _ _ _ _ ?_
  unfold preWeighlocklaw18MachineIdle
  refine H.allocK (fun w1 H => ?_)
  refine exInt (H.cell 0 rfl rfl) (exSlice (H.cell 0 rfl rfl) (exInt (H.cell 0 rfl rfl) (exInt (H.cell 0 rfl rfl) (exInt (H.cell 0 rfl rfl) (exInt (H.cell 0 rfl rfl) (exInt (H.cell 0 rfl rfl) (exInt (H.cell 0 rfl rfl) ?_)))))))
  refine (fine18 c p cap q l.length qc 200).go H [_] [] rfl (hr.sub H (by simp)) (fun r A w2 hq2 H => ?_)
  obtain ⟨rfl, rfl⟩ := hq2
  refine ⟨_, rfl, ?_⟩
  cases hf : fineB c l.length 200
  · exact Br_pos rfl (awake_true H)
  refine Br_neg rfl ?_
  obtain ⟨h8, herr, hlen⟩ := fineB_t hf
  refine exInt (H.cell 0 rfl rfl) (exSlice (H.cell 0 rfl rfl) (exInt (H.cell 0 rfl rfl) (exInt (H.cell 0 rfl rfl) (exInt (H.cell 0 rfl rfl) (exInt (H.cell 0 rfl rfl) (exInt (H.cell 0 rfl rfl) (exInt (H.cell 0 rfl rfl) ?_)))))))
  refine (machNew c p cap (by omega)).go H [_] [] rfl (hr.sub H (by simp)) (fun r A w3 hq3 H => ?_)
  rcases hq3 with ⟨he, _⟩ | ⟨he, a, rfl, htp, htm, hok, rfl⟩
  · exact absurd herr he
  refine ⟨_, _, rfl, Br_nne rfl (Br_neg rfl ?_)⟩
  obtain ⟨hlg0, hlgm⟩ := first_words herr
  have H0 : St W [] w3 (machL (a.at_ a.tp a.tm) (MS.at_ c l (0 : Int).toNat) ++ []) := H.sub (by
    show (machL a (MS.first c) ++ []).Sublist _
    exact List.sublist_append_right _ _)
  refine ⟨fun _ i w' => (0 ≤ i ∧ i ≤ l.length) ∧ ∃ tp tm, (tp = none → (MS.at_ c l i.toNat).tr ++ tm = []) ∧ St W [] w' (machL (a.at_ tp tm) (MS.at_ c l i.toNat) ++ []),
    fun _ i _ => (l.length - i).toNat, ⟨⟨by omega, by omega⟩, a.tp, a.tm, fun _ => by rw [htm]; rfl, H0⟩, ?_⟩
  rintro _g w b i ⟨⟨h0, h1⟩, tp, tm, htn, H⟩
  by_cases c1 : i < l.length
  · have hi : i.toNat < l.length := by omega
    generalize he : l.getD i.toNat default = e
    have hrd : ∀ j v, j < 3 → (evRow e)[j]? = some v → ∃ b o, q = some ⟨b, o, none⟩ ∧ w.cell? ⟨b, o + (i.toNat * 3 + j), none⟩ = some v := fun j v hj hv => RO.read hq H (evs_get l i.toNat j hi v hj (by rw [he]; exact hv))
    obtain ⟨b, o, rfl, k0⟩ := hrd 0 _ (by decide) rfl
    obtain ⟨_, _, e1, k1⟩ := hrd 1 _ (by decide) rfl
    cases e1
    obtain ⟨_, _, e2, k2⟩ := hrd 2 _ (by decide) rfl
    cases e2
    have hnext : MS.at_ c l (i + 1).toNat = (MS.at_ c l i.toNat).do_ e := by
      rw [show (i + 1).toNat = i.toNat + 1 by omega]; exact MS.at_succ c l _ e hi he
    have hs1 := MS.at_ok hok l i.toNat
    have hl3 := MS.at_len c l i.toNat
    have hlg : (MS.at_ c l i.toNat).p.lg c.ww.length := MS.run_lg hlg0 _
    generalize hs : MS.at_ c l i.toNat = s at htn H hnext hs1 hl3 hlg
    have hlw : s.p.words.length ≤ 1000000 := by rw [show s.p.words.length = c.ww.length from hlg]; exact hlgm
    have hok2 : s.ok (a.at_ tp tm) := MS.ok1.ok (a := a.at_ tp tm) hs1 htn
    refine Br_t c1 ⟨⟨h0, c1⟩, PtrSome_at (exInt (by simpa [Nat.add_assoc] using k0) (exInt (by simpa [Nat.add_assoc] using k1) (exInt (by simpa [Nat.add_assoc] using k2) ?_)))⟩
    refine H.allocK (fun w H => ⟨H.thereF 0 rfl rfl, H.setsF 0 rfl rfl (fun w H => exInt (H.cell 0 rfl rfl) ?_)⟩)
    refine (machStateS (a.at_ tp tm) s hok2 e.2.1).go H [_] [] rfl (fun w4 H => ⟨_, rfl, ?_⟩)
    refine PtrSome_at (exPtr ((mach0 (X := [_]) H).cell rfl) (PtrSome_at (exPtr ((machPort (X := [_]) H).cell rfl) ?_)))
    refine (machWords (a.at_ tp tm) s hlw).go H [_] [] rfl (fun r A w5 hq5 H => ?_)
    obtain ⟨wb, rfl, rfl⟩ := hq5
    refine ⟨_, _, _, rfl, ?_⟩
    have H : St W [] w5 ([_, _] ++ (machL (a.at_ tp tm) s ++ [])) := H
    refine (machTrace (a.at_ tp tm) s hok2 (by omega)).go H [_, _] [] rfl (fun r A w6 hq6 H => ?_)
    obtain ⟨bp, more, rfl, _, rfl⟩ := hq6
    refine ⟨_, _, _, rfl, ?_⟩
    have H := H.sub (L' := [_, _] ++ (machL (a.at_ tp tm) s ++ [])) ((List.Sublist.refl _).append ((List.sublist_append_right _ _).append (List.Sublist.refl _)))
    refine (machNow (a.at_ tp tm) s).go H [_, _] [] rfl (fun w7 H => ⟨_, rfl, ?_⟩)
    refine exInt (H.cell 0 rfl rfl) (exInt (H.cell 0 rfl rfl) (exInt (H.cell 0 rfl rfl) ?_))
    refine (machDo (a.at_ tp tm) s hok2 (by omega) e).go H [_, _] [] rfl (fun r A w8 hq8 H => ?_)
    obtain ⟨rfl, tp', tm', rfl, htn'⟩ := hq8
    have H : St W [] w8 ([_, _] ++ (machL (a.at_ tp' tm') (s.do_ e) ++ [])) := H
    have hok3 : (s.do_ e).ok (a.at_ tp' tm') := MS.ok1.ok (a := a.at_ tp' tm') (MS.ok1_do hs1 e) htn'
    have hl4 := MS.do_len s e
    refine ⟨_, rfl, ?_⟩
    cases hb : s.doB e
    · refine Br_neg rfl ?_
      have hd := MS.do_idle hb
      have hp : (s.do_ e).p = s.p := by rw [hd]
      have htr : (s.do_ e).tr = s.tr := by rw [hd]
      have hnw : (s.do_ e).now = s.now := by rw [hd]
      refine PtrSome_at (exPtr ((mach0 (X := [_, _]) H).cell rfl) (PtrSome_at (exPtr ((machPort (X := [_, _]) H).cell rfl) ?_)))
      refine (machWords (a.at_ tp' tm') (s.do_ e) (by rw [hp]; exact hlw)).go H [_, _] [] rfl (fun r A w9 hq9 H => ?_)
      obtain ⟨vb, rfl, rfl⟩ := hq9
      rw [hp]
      refine ⟨_, _, _, rfl, ?_⟩
      rw [hp] at H
      have H : St W [] w9 ([_, (wb, ints .u32 s.p.words), (vb, ints .u32 s.p.words)] ++ (machL (a.at_ tp' tm') (s.do_ e) ++ [])) := H
      refine ⟨fun _ k w' => (0 ≤ k ∧ k ≤ s.p.words.length) ∧ St W [] w' ([_, (wb, ints .u32 s.p.words), (vb, ints .u32 s.p.words)] ++ (machL (a.at_ tp' tm') (s.do_ e) ++ [])), fun _ k _ => (s.p.words.length - k).toNat, ⟨⟨by omega, by omega⟩, H⟩, ?_⟩
      rintro _g2 w10 b2 k ⟨⟨g0, g1⟩, H⟩
      by_cases ck : k < s.p.words.length
      · have hk : k.toNat < s.p.words.length := by omega
        refine Br_t ck (H.drewK (fun w H => Br_f (by omega) ⟨⟨g0, ck⟩, PtrSome_at (exInt (H.cell 2 rfl (ints_at0 hk)) ⟨⟨g0, ck⟩, PtrSome_at (exInt (H.cell 1 rfl (ints_at0 hk)) (Br_nne rfl ?_))⟩)⟩))
        rw [wrap_succ g0 (by omega)]
        exact ⟨⟨⟨by omega, by omega⟩, H⟩, show (s.p.words.length - (k + 1)).toNat < (s.p.words.length - k).toNat by omega⟩
      · refine Br_f ck ?_
        refine (machTrace (a.at_ tp' tm') (s.do_ e) hok3 (by omega)).go H [_, _, _] [] rfl (fun r A w11 hq11 H => ?_)
        obtain ⟨bp2, more2, rfl, _, rfl⟩ := hq11
        refine ⟨_, _, _, rfl, Br_nne (by rw [htr]) ?_⟩
        have H := H.sub (L' := machL (a.at_ tp' tm') (s.do_ e) ++ []) (((List.sublist_append_right _ _).append (List.Sublist.refl _)).trans (List.sublist_append_right _ _))
        refine (machNow (a.at_ tp' tm') (s.do_ e)).go H [] [] rfl (fun w12 H => ⟨_, rfl, Br_nne hnw ?_⟩)
        rw [wrap_succ h0 (by omega)]
        refine ⟨⟨⟨by omega, by omega⟩, tp', tm', ?_, ?_⟩, show (l.length - (i + 1)).toNat < (l.length - i).toNat by omega⟩
        · rw [hnext]; exact htn'
        · rw [hnext]; exact H
    · refine Br_pos rfl (exInt (H.cell 0 rfl rfl) ?_)
      have H := H.sub (L' := machL (a.at_ tp' tm') (s.do_ e) ++ []) (List.sublist_append_right _ _)
      rw [wrap_succ h0 (by omega)]
      have nxt : ((0 ≤ i + 1 ∧ i + 1 ≤ l.length) ∧ ∃ tp tm, (tp = none → (MS.at_ c l (i + 1).toNat).tr ++ tm = []) ∧ St W [] w8 (machL (a.at_ tp tm) (MS.at_ c l (i + 1).toNat) ++ [])) ∧ (l.length - (i + 1)).toNat < (l.length - i).toNat := by
        refine ⟨⟨⟨by omega, by omega⟩, tp', tm', ?_, ?_⟩, by omega⟩
        · rw [hnext]; exact htn'
        · rw [hnext]; exact H
      by_cases k4 : e.1 = 4
      · exact Br_eq k4 (Br_neg (by rw [MS.end_holds k4 hb]; rfl) nxt)
      · exact Br_neq k4 nxt
  · exact Br_f c1 (awake_true H)

open Go.ChangeShapes Go.WideShapes Go.ChangeAt Go.RowKit

theorem open_ev {H : Type} {enc : TypeId × Value → H} {W : World} {fuel : Nat} {cs : List Value} {x : DataW H × List MemPlace} (h : DataW.trod enc Tryz.prog W 0 (fun _ => true) true fuel 107 cs = some x) :
    ∃ e : MS.Ev, cs = evRow e := by
  obtain ⟨xs, n, _, _, hl, hx, hfs⟩ := DataW.trod_struct Tryz.underlying107 h
  have hlen : cs.length = 3 := by rw [hl]; kernel_rfl
  match cs, hlen with
  | [v0, v1, v2], _ =>
    have hx3 : xs.length = 3 := by rw [hx]; rfl
    match xs, hx3 with
    | [x0, x1, x2], _ =>
      have h0 : DataW.trod enc Tryz.prog W 0 (fun _ => true) true n 3 (List.take (Tryz.prog.cellsOf 3) (List.drop 0 [v0, v1, v2])) = some x0 := hfs 0 _ rfl
      have h1 : DataW.trod enc Tryz.prog W 0 (fun _ => true) true n 3 (List.take (Tryz.prog.cellsOf 3) (List.drop 1 [v0, v1, v2])) = some x1 := hfs 1 _ rfl
      have h2 : DataW.trod enc Tryz.prog W 0 (fun _ => true) true n 3 (List.take (Tryz.prog.cellsOf 3) (List.drop 2 [v0, v1, v2])) = some x2 := hfs 2 _ rfl
      have c3 : Tryz.prog.cellsOf 3 = 1 := by kernel_rfl
      rw [c3] at h0 h1 h2
      obtain ⟨n0, e0, _⟩ := open_int64 h0
      obtain ⟨n1, e1, _⟩ := open_int64 h1
      obtain ⟨n2, e2, _⟩ := open_int64 h2
      simp at e0 e1 e2
      subst e0 e1 e2
      exact ⟨(n0, n1, n2), rfl⟩
theorem open_evs {H : Type} {enc : TypeId × Value → H} {W : World} {fuel : Nat} {cs : List Value} {x : DataW H × List MemPlace} (h : DataW.trod enc Tryz.prog W 0 (fun _ => true) true fuel 101 cs = some x) :
    ∃ (q : Option Addr) (l : List MS.Ev) (cap : Nat), cs = [.slice q l.length cap] ∧ RO W [] q (l.flatMap evRow) := by
  rcases DataW.trod_slice Tryz.underlying101 h with ⟨rfl, _⟩ | ⟨a, len, cap, elems, rest, n, _, rfl, _, _, hl, hm, hlen, hel, _, _⟩
  · exact ⟨none, [], 0, rfl, ⟨fun j v hv => by simp at hv⟩⟩
  · have c3 : Tryz.prog.cellsOf 107 = 3 := by kernel_rfl
    rw [c3] at hel
    have each : ∀ i, ∃ e : MS.Ev, i < len → W.cells? 0 (a.add (i * 3)) 3 = some (evRow e) := by
      intro i
      by_cases hi : i < len
      · have h1 := hel i hi
        have : ∃ y, elems[i]? = some y := ⟨_, List.getElem?_eq_getElem (by omega)⟩
        obtain ⟨y, hy⟩ := this
        rw [hy] at h1
        cases hcs : W.cells? 0 (a.add (i * 3)) 3 with
        | none => rw [hcs] at h1; cases h1
        | some cs =>
          rw [hcs] at h1
          obtain ⟨e, he⟩ := open_ev h1
          exact ⟨e, fun _ => by rw [he]⟩
      · exact ⟨(0, 0, 0), fun h => absurd h hi⟩
    obtain ⟨f, hf⟩ : ∃ f : Nat → MS.Ev, ∀ i, i < len → W.cells? 0 (a.add (i * 3)) 3 = some (evRow (f i)) := ⟨fun i => Classical.choose (each i), fun i => Classical.choose_spec (each i)⟩
    refine ⟨some a, (List.range len).map f, cap, by simp, ⟨fun j v hv => ?_⟩⟩
    have hjl : j < (((List.range len).map f).flatMap evRow).length := (List.getElem?_eq_some_iff.1 hv).1
    rw [rowsA_len (f := evRow) (s := 3) (fun _ => rfl)] at hjl
    simp only [List.length_map, List.length_range] at hjl
    have hi : j / 3 < len := by omega
    have hc := cells_get (hf (j / 3) hi)
    have hv2 : (evRow (f (j / 3)))[j % 3]? = some v := by
      rw [← hv]
      have := rowsA_getL (f := evRow) (s := 3) (fun _ => rfl) ((List.range len).map f) (j / 3) (j % 3) (f (j / 3)) (by simp [hi]) (by omega)
      rw [← this]
      congr 1; omega
    have hcell := hc.2 (j % 3) v hv2
    have h00 := (cells_get (hf 0 (by omega))).2 0 _ rfl
    obtain ⟨b, o, sp⟩ := a
    have hs : sp = none := by
      have := World.cell?_spot h00
      simpa [Addr.add] using this
    subst hs
    rw [Addr.add_lit, Addr.add_lit] at hcell
    refine ⟨b, o, rfl, ?_, by simp, ?_⟩
    · exact World.cells?_block (cells?_one (base := 0) (Nat.zero_le _) hcell) (by decide)
    · rw [show o + j = o + j / 3 * 3 + j % 3 by omega]
      exact hcell

theorem machineIdle_lifted (os : Os) (started : os.Started) (H : Type) (enc : TypeId × Value → H) :
    ReturnsInHanded {} Tryz.checked os 11 .any (Rows.machineIdleSpec.pre6 enc Tryz.prog Tryz.f11 Rows.machineIdleRow.domain false) (Rows.machineIdleSpec.post enc Tryz.prog Tryz.f11 false true false false) := by
  refine returnsInHanded_of_change (C := Tryz.checked) lawOwn started (by kernel_rfl) Tryz.func11
    (ChangeSpec.witness6 (enc := enc) (C := Tryz.checked) false ⟨#[], #[Cf.val ⟨0, [], 0, 0, 0, 0, 0, 0⟩ none 0, .slice none 0 0], []⟩ 8 (by kernel_rfl) (by kernel_rfl) (by kernel_rfl) (by kernel_rfl)) ?_
  intro W base args ds gs before hval0 hW hcnd _
  have hval : ∀ (j : Nat) t v, Tryz.f11.params[j]? = some t → args[j]? = some v → Value.okWide Tryz.prog W .any base t v := hval0
  have hW' := hW
  obtain ⟨p, q, hA0, hV, e, hfz, hnd⟩ := hW
  have hA : DataW.TrodAll enc Tryz.prog W 0 (fun _ => true) true Tryz.f11.params.toList args.toList ds p := hA0
  rw [Tryz.params11] at hA hval
  obtain ⟨v0, vs0, d0, ds0, p0, q0, hargs, e0a, e0b, h0, r0⟩ := trodAll_cons hA
  obtain ⟨v1, vs1, d1, ds1, p1, q1, g1, e1a, e1b, h1, r1⟩ := trodAll_cons r0
  subst g1
  obtain ⟨rfl, rfl, rfl⟩ := trodAll_nil r1
  obtain rfl : args = #[v0, v1] := by cases args; simp_all
  obtain ⟨c0, pt0, cap0, rfl, hr0⟩ := open_cf (hval 0 _ v0 rfl rfl) h0
  obtain ⟨sa1, sl1, sc1, rfl⟩ := okWide_slice Tryz.underlying101 (hval 1 _ v1 rfl rfl)
  obtain ⟨fuel1, hf1⟩ := h1
  obtain ⟨qa1, l1, qc1, hv1, hr1⟩ := open_evs hf1
  have hv1' : Value.slice sa1 sl1 sc1 = .slice qa1 l1.length qc1 := by simpa [Value.cells] using hv1
  rw [hv1'] at hW' ⊢
  refine (machineIdle c0 pt0 cap0 qa1 l1 qc1 W hr0 hr1).mono fun e w' ⟨he, hu⟩ => ⟨.bool true, he, ?_⟩
  obtain ⟨e3, e4⟩ := trodVars_none hV
  subst e3 e1a e0a
  exact law_post (s := Rows.machineIdleSpec) hW' rfl hu rfl (by kernel_rfl) rfl

theorem machineIdle_inPlace : Tryz.prog.inPlace 11 = Rows.machineIdleRow.inPlace := by kernel_rfl
theorem machineIdle_unfollowed : Tryz.prog.unfollowed 11 = Rows.machineIdleRow.unfollowed := by kernel_rfl
theorem machineIdle_recurses : Tryz.prog.recurses 11 = Rows.machineIdleRow.recurses := by kernel_rfl
theorem machineIdle_varsNamed : Tryz.prog.varsNamed 11 = Rows.machineIdleRow.named := by kernel_rfl
theorem machineIdle_closed : joinedFacts Tryz.prog 11 Tryz.f11 Rows.machineIdleSpec Rows.machineIdleRow = true := by
  unfold joinedFacts
  rw [lawLaid, lawRowed, lawEnter, lawFinal, lawMake, machineIdle_inPlace, machineIdle_unfollowed, machineIdle_recurses, machineIdle_varsNamed]
  kernel_rfl
theorem machineIdle_named : Tryz.checked.prog.funcNamed "weighlock/weighlocklaw18.MachineIdle" = some 11 := by kernel_rfl
theorem machineIdle_isWrap : Tryz.f11.isWrapper Tryz.prog Rows.machineIdleRow.wrapper Rows.machineIdleRow.mainSum := by
  unfold Func.isWrapper; first | (rw [if_pos (by decide +kernel)]; kernel_rfl) | (rw [if_neg (by decide +kernel)]; exact ⟨rfl, rfl⟩)
theorem machineIdle_said : Rows.MachineIdleSaid :=
  OpenClaim.holds_of_wide 11 Tryz.f11 rfl rfl rfl rfl rfl rfl rfl ⟨rfl, rfl, rfl, rfl, rfl⟩ rfl rfl rfl rfl rfl machineIdle_named Tryz.func11 machineIdle_closed
    (of_decide_eq_true (by kernel_rfl)) machineIdle_isWrap
    (fun os started H enc _ => machineIdle_lifted os started H enc)
#print axioms machineIdle_said

end Go.Proofs.YtollfjfcdofbaaaGreat
