/- What the functions of the program come to, as Props over the world's cells, printed by a program of this session (Gen.lean); the kernel holds each against the engine's own. -/
import Derived.Test.YtollfjfcdofbaaaGreatProg
import Derived.Test.YtollfjfcdofbaaaGreatEng6
import Derived.KernelRfl
namespace Go.Proofs.YtollfjfcdofbaaaGreat
open Go Go.Proofs
set_option maxRecDepth 100000
set_option linter.unusedVariables false
/-- weighlock/plan.New -/
def prePlanNew (a0 : Int) (R : Ending → World → Prop) (w : World) : Prop :=
  ∀ w0, w0 = w.alloc (.cells #[(.int .i64 a0), (.slice none 0 0), (.slice none 0 0)] 152) →
 (R (.returned (.pointer (some ⟨w.heap.size, 0, none⟩))) w0)
theorem callsPlanNew (a0 : Int) (R : Ending → 
    World → Prop) (w : World) (h : prePlanNew a0 R w) : Calls Tryz.prog 23 #[(.int .i64 a0)] w R :=
  calls_of_sym Tryz.func23 (c := bodyOf Tryz.f23) rfl (Eq.mpr (by kernel_rfl) h)

/-- (*weighlock/plan.Plan).Row -/
def prePlanPlanRow (q0 : Nat) (a1 a2 a3 : Int) (R : Ending → 
    World → Prop) (w : World) : Prop :=
  ∃ p0 l1 c2, w.cell? ⟨q0, 2, none⟩ = some (.slice p0 l1 c2) ∧
 (∃ (I3 : Int → World → Prop) (μ4 : Int → World → Nat), I3 0 w ∧ ∀ (_g5 : Nat → Value) (w6 : World) (n7 : Int), I3 n7 w6 →
 (Br (decide (n7 < (minI (maxI a1 0) 4097))) (∃ p8 l9 c10, w6.cell? ⟨q0, 1, none⟩ = some (.slice p8 l9 c10) ∧
 (∀ w11, w11 = w6.alloc (.cells #[(.int .i64 a2)] 3) → (AppQ Tryz.prog #[22, 22] 22 #[(.slice p8 l9 c10), (.slice (some ⟨w6.heap.size, 0, none⟩) 1 1)] w11 (fun p12 l13 c14 w15 =>
 CanSet w15 q0 1 ∧ (∀ w16, w16 = w15.setCell ⟨q0, 1, none⟩ (.slice p12 l13 c14) → (∃ p17 l18 c19, w16.cell? ⟨q0, 2, none⟩ = some (.slice p17 l18 c19) ∧
 (∀ w20, w20 = w16.alloc (.cells #[(.int .u32 a3)] 29) → (AppQ Tryz.prog #[71, 71] 71 #[(.slice p17 l18 c19), (.slice (some ⟨w16.heap.size, 0, none⟩) 1 1)] w20 (fun p21 l22 c23 w24 =>
 CanSet w24 q0 2 ∧ (∀ w25, w25 = w24.setCell ⟨q0, 2, none⟩ (.slice p21 l22 c23) → (I3 (IntKind.i64.wrap (n7 + 1)) w25 ∧
 μ4 (IntKind.i64.wrap (n7 + 1)) w25 < μ4 n7 w6))))))))))) (R (.returned (.int .i64 (((l1 : Nat) : Int)))) w6)))
theorem callsPlanPlanRow (q0 : Nat) (a1 a2 a3 : Int) (R : Ending → 
    World → Prop) (w : World) (h : prePlanPlanRow q0 a1 a2 a3 R w) : Calls Tryz.prog 24 #[(.pointer (some ⟨q0, 0, none⟩)), (.int .i64 a1), (.int .i64 a2), (.int .u32 a3)] w R :=
  calls_of_sym Tryz.func24 (c := bodyOf Tryz.f24) rfl (Eq.mpr (by kernel_rfl) h)

/-- (*weighlock/plan.Plan).Len -/
def prePlanPlanLen (q0 : Nat) (R : Ending → World → Prop) (w : World) : Prop :=
  ∃ p0 l1 c2, w.cell? ⟨q0, 2, none⟩ = some (.slice p0 l1 c2) ∧
 (R (.returned (.int .i64 (((l1 : Nat) : Int)))) w)
theorem callsPlanPlanLen (q0 : Nat) (R : Ending → 
    World → Prop) (w : World) (h : prePlanPlanLen q0 R w) : Calls Tryz.prog 27 #[(.pointer (some ⟨q0, 0, none⟩))] w R :=
  calls_of_sym Tryz.func27 (c := bodyOf Tryz.f27) rfl (Eq.mpr (by kernel_rfl) h)

/-- (*weighlock/seat.Seats).Len -/
def preSeatSeatsLen (q0 : Nat) (R : Ending → World → Prop) (w : World) : Prop :=
  ∃ p0 l1 c2, w.cell? ⟨q0, 0, none⟩ = some (.slice p0 l1 c2) ∧
 (R (.returned (.int .i64 (((l1 : Nat) : Int)))) w)
theorem callsSeatSeatsLen (q0 : Nat) (R : Ending → 
    World → Prop) (w : World) (h : preSeatSeatsLen q0 R w) : Calls Tryz.prog 30 #[(.pointer (some ⟨q0, 0, none⟩))] w R :=
  calls_of_sym Tryz.func30 (c := bodyOf Tryz.f30) rfl (Eq.mpr (by kernel_rfl) h)

/-- (*weighlock/mem.Mem).Len -/
def preMemMemLen (q0 : Nat) (R : Ending → World → Prop) (w : World) : Prop :=
  ∃ p0 l1 c2, w.cell? ⟨q0, 0, none⟩ = some (.slice p0 l1 c2) ∧
 (R (.returned (.int .i64 (((l1 : Nat) : Int)))) w)
theorem callsMemMemLen (q0 : Nat) (R : Ending → World → 
    Prop) (w : World) (h : preMemMemLen q0 R w) : Calls Tryz.prog 34 #[(.pointer (some ⟨q0, 0, none⟩))] w R :=
  calls_of_sym Tryz.func34 (c := bodyOf Tryz.f34) rfl (Eq.mpr (by kernel_rfl) h)

/-- (*weighlock/mem.Mem).Home -/
def preMemMemHome (q0 : Nat) (a1 : Int) (R : Ending → World → Prop) (w : World) : Prop :=
  Calls Tryz.prog 97 #[(.pointer (some ⟨q0, 0, none⟩)), (.int .i64 a1)] w (fun e0 w1 =>
 ∃ p2, e0 = .returned (.pointer p2) ∧ (Br (Option.isNone p2) (R (.returned (.int .i64 0)) w1) (∃ p3 l4 c5, w1.cell? ⟨q0, 1, none⟩ = some (.slice p3 l4 c5) ∧
 (((0 : Int) ≤ a1 ∧ a1 < ((l4 : Nat) : Int)) ∧ (PtrSome p3 (fun b6 o7 => ∃ n8, w1.cell? ⟨b6, o7 + (Int.toNat a1), none⟩ = some (.int .i64 n8) ∧
 (R (.returned (.int .i64 n8)) w1)))))))
theorem callsMemMemHome (q0 : Nat) (a1 : Int) (R : Ending → World → 
    Prop) (w : World) (h : preMemMemHome q0 a1 R w) : Calls Tryz.prog 35 #[(.pointer (some ⟨q0, 0, none⟩)), (.int .i64 a1)] w R :=
  calls_of_sym Tryz.func35 (c := bodyOf Tryz.f35) rfl (Eq.mpr (by kernel_rfl) h)

/-- (*weighlock/mem.Mem).Words -/
def preMemMemWords (q0 : Nat) (R : Ending → World → Prop) (w : World) : Prop :=
  ∃ p0 l1 c2, w.cell? ⟨q0, 0, none⟩ = some (.slice p0 l1 c2) ∧
 (((0 : Int) ≤ (((l1 : Nat) : Int)) ∧ (((l1 : Nat) : Int)) ≤ (((l1 : Nat) : Int)) ∧ ((4 : Nat) : Int) * (((l1 : Nat) : Int)) ≤ 281474976710656 ∧
 (((l1 : Nat) : Int)) ≤ 9223372036854775807) ∧ (∀ w3, w3 = w.alloc (.cells (madeCells #[(.int .u32 0)] ((Int.toNat (((l1 : Nat) : Int))))) 29) →
 (∃ (I4 : Int → World → Prop) (μ5 : Int → World → Nat), I4 0 w3 ∧ ∀ (_g6 : Nat → Value) (w7 : World) (n8 : Int), I4 n8 w7 →
 (Br (decide (n8 < ((((Int.toNat (((l1 : Nat) : Int))) : Nat) : Int)))) (∃ p9 l10 c11, w7.cell? ⟨q0, 0, none⟩ = some (.slice p9 l10 c11) ∧
 (((0 : Int) ≤ n8 ∧ n8 < ((l10 : Nat) : Int)) ∧ (PtrSome p9 (fun b12 o13 => Calls Tryz.prog 102 #[(.pointer (some ⟨b12, o13 + (Int.toNat n8), none⟩))] w7 (fun e14 w15 =>
 ∃ n16, e14 = .returned (.int .u32 n16) ∧ (((0 : Int) ≤ n8 ∧ n8 < (((Int.toNat (((l1 : Nat) : Int))) : Nat) : Int)) ∧
 (CanSet w15 w.heap.size (0 + (Int.toNat n8)) ∧ (∀ w17, w17 = w15.setCell ⟨w.heap.size, 0 + (Int.toNat n8), none⟩ (.int .u32 n16) →
 (I4 (IntKind.i64.wrap (n8 + 1)) w17 ∧ μ5 (IntKind.i64.wrap (n8 + 1)) w17 < μ5 n8 w7))))))))) (R (.returned (.slice (some ⟨w.heap.size, 0, none⟩) ((Int.toNat (((l1 : Nat) : Int)))) ((Int.toNat (((l1 : Nat) : Int)))))) w7)))))
theorem callsMemMemWords (q0 : Nat) (R : Ending → 
    World → Prop) (w : World) (h : preMemMemWords q0 R w) : Calls Tryz.prog 42 #[(.pointer (some ⟨q0, 0, none⟩))] w R :=
  calls_of_sym Tryz.func42 (c := bodyOf Tryz.f42) rfl (Eq.mpr (by kernel_rfl) h)

/-- (*weighlock/port.Port).Accesses -/
def prePortPortAccesses (q0 : Nat) (a1 : Int) (R : Ending → World → 
    Prop) (w : World) : Prop :=
  Calls Tryz.prog 103 #[(.pointer (some ⟨q0, 0, none⟩)), (.int .i64 a1), (.int .i64 0)] w (fun e0 w1 =>
 ∃ n2, e0 = .returned (.int .i64 n2) ∧ (R (.returned (.int .i64 n2)) w1))
theorem callsPortPortAccesses (q0 : Nat) (a1 : Int) (R : Ending → 
    World → Prop) (w : World) (h : prePortPortAccesses q0 a1 R w) : Calls Tryz.prog 43 #[(.pointer (some ⟨q0, 0, none⟩)), (.int .i64 a1)] w R :=
  calls_of_sym Tryz.func43 (c := bodyOf Tryz.f43) rfl (Eq.mpr (by kernel_rfl) h)

/-- (*weighlock/port.Port).Misses -/
def prePortPortMisses (q0 : Nat) (a1 : Int) (R : Ending → World → 
    Prop) (w : World) : Prop :=
  ∃ p0, w.cell? ⟨q0, 1, none⟩ = some (.pointer p0) ∧ (Calls Tryz.prog 131 #[(.pointer p0), (.int .i64 a1)] w (fun e1 w2 =>
 ∃ n3, e1 = .returned (.int .i64 n3) ∧ (R (.returned (.int .i64 n3)) w2)))
theorem callsPortPortMisses (q0 : Nat) (a1 : Int) (R : Ending → 
    World → Prop) (w : World) (h : prePortPortMisses q0 a1 R w) : Calls Tryz.prog 75 #[(.pointer (some ⟨q0, 0, none⟩)), (.int .i64 a1)] w R :=
  calls_of_sym Tryz.func75 (c := bodyOf Tryz.f75) rfl (Eq.mpr (by kernel_rfl) h)

/-- (*weighlock/seat.Seats).Lock -/
def preSeatSeatsLock (q0 : Nat) (a1 a2 : Int) (R : Ending → 
    World → Prop) (w : World) : Prop :=
  Calls Tryz.prog 137 #[(.pointer (some ⟨q0, 0, none⟩)), (.int .i64 a1)] w (fun e0 w1 =>
 ∃ b2, e0 = .returned (.bool b2) ∧ (Br (!b2) (Br (!b2) (R (.returned (.int .i64 1)) w1) (∃ p3 l4 c5, w1.cell? ⟨q0, 0, none⟩ = some (.slice p3 l4 c5) ∧
 (((0 : Int) ≤ a1 ∧ a1 < ((l4 : Nat) : Int)) ∧ (PtrSome p3 (fun b6 o7 => ∃ n8, w1.cell? ⟨b6, o7 + ((Int.toNat a1)) * 2, none⟩ = some (.int .i64 n8) ∧
 (Br (n8 != 0) (R (.returned (.int .i64 2)) w1) (∃ p9 l10 c11, w1.cell? ⟨q0, 0, none⟩ = some (.slice p9 l10 c11) ∧
 (((0 : Int) ≤ a1 ∧ a1 < ((l10 : Nat) : Int)) ∧ (PtrSome p9 (fun b12 o13 => w1.there b12 (o13 + ((Int.toNat a1)) * 2) 2 ∧
 (∀ w14, w14 = w1.setCells b12 (o13 + ((Int.toNat a1)) * 2) [(.int .i64 1), (.int .i64 a2)] →
 (R (.returned (.int .i64 0)) w14)))))))))))) (Br (decide ((a2 : Int) < ((-1)))) (Br (decide ((a2 : Int) < ((-1)))) (R (.returned (.int .i64 1)) w1) (∃ p15 l16 c17, w1.cell? ⟨q0, 0, none⟩ = some (.slice p15 l16 c17) ∧
 (((0 : Int) ≤ a1 ∧ a1 < ((l16 : Nat) : Int)) ∧ (PtrSome p15 (fun b18 o19 => ∃ n20, w1.cell? ⟨b18, o19 + ((Int.toNat a1)) * 2, none⟩ = some (.int .i64 n20) ∧
 (Br (n20 != 0) (R (.returned (.int .i64 2)) w1) (∃ p21 l22 c23, w1.cell? ⟨q0, 0, none⟩ = some (.slice p21 l22 c23) ∧
 (((0 : Int) ≤ a1 ∧ a1 < ((l22 : Nat) : Int)) ∧ (PtrSome p21 (fun b24 o25 => w1.there b24 (o25 + ((Int.toNat a1)) * 2) 2 ∧
 (∀ w26, w26 = w1.setCells b24 (o25 + ((Int.toNat a1)) * 2) [(.int .i64 1), (.int .i64 a2)] →
 (R (.returned (.int .i64 0)) w26)))))))))))) (Br (decide ((a2 : Int) ≥ 0)) (∃ b27, w1.cell? ⟨q0, 1, none⟩ = some (.bool b27) ∧
 (Br (!b27) (R (.returned (.int .i64 1)) w1) (∃ p28 l29 c30, w1.cell? ⟨q0, 0, none⟩ = some (.slice p28 l29 c30) ∧
 (((0 : Int) ≤ a1 ∧ a1 < ((l29 : Nat) : Int)) ∧ (PtrSome p28 (fun b31 o32 => ∃ n33, w1.cell? ⟨b31, o32 + ((Int.toNat a1)) * 2, none⟩ = some (.int .i64 n33) ∧
 (Br (n33 != 0) (R (.returned (.int .i64 2)) w1) (∃ p34 l35 c36, w1.cell? ⟨q0, 0, none⟩ = some (.slice p34 l35 c36) ∧
 (((0 : Int) ≤ a1 ∧ a1 < ((l35 : Nat) : Int)) ∧ (PtrSome p34 (fun b37 o38 => w1.there b37 (o38 + ((Int.toNat a1)) * 2) 2 ∧
 (∀ w39, w39 = w1.setCells b37 (o38 + ((Int.toNat a1)) * 2) [(.int .i64 1), (.int .i64 a2)] →
 (R (.returned (.int .i64 0)) w39))))))))))))) (∃ p40 l41 c42, w1.cell? ⟨q0, 0, none⟩ = some (.slice p40 l41 c42) ∧
 (((0 : Int) ≤ a1 ∧ a1 < ((l41 : Nat) : Int)) ∧ (PtrSome p40 (fun b43 o44 => ∃ n45, w1.cell? ⟨b43, o44 + ((Int.toNat a1)) * 2, none⟩ = some (.int .i64 n45) ∧
 (Br (n45 != 0) (R (.returned (.int .i64 2)) w1) (∃ p46 l47 c48, w1.cell? ⟨q0, 0, none⟩ = some (.slice p46 l47 c48) ∧
 (((0 : Int) ≤ a1 ∧ a1 < ((l47 : Nat) : Int)) ∧ (PtrSome p46 (fun b49 o50 => w1.there b49 (o50 + ((Int.toNat a1)) * 2) 2 ∧
 (∀ w51, w51 = w1.setCells b49 (o50 + ((Int.toNat a1)) * 2) [(.int .i64 1), (.int .i64 a2)] →
 (R (.returned (.int .i64 0)) w51)))))))))))))))
theorem callsSeatSeatsLock (q0 : Nat) (a1 a2 : Int) (R : Ending → 
    World → Prop) (w : World) (h : preSeatSeatsLock q0 a1 a2 R w) : Calls Tryz.prog 84 #[(.pointer (some ⟨q0, 0, none⟩)), (.int .i64 a1), (.int .i64 a2)] w R :=
  calls_of_sym Tryz.func84 (c := bodyOf Tryz.f84) rfl (Eq.mpr (by kernel_rfl) h)

/-- weighlock/seat.New -/
def preSeatNew (a0 : Int) (a1 : Bool) (a2 : Bool) (R : Ending → World → Prop) (w : World) : Prop :=
  Br (decide ((a0 : Int) < 1)) (R (.returned (.tuple #[(.pointer none), (.int .i64 1)])) w) (Br (decide ((a0 : Int) >
 64)) (R (.returned (.tuple #[(.pointer none), (.int .i64 1)])) w) (((0 : Int) ≤ a0 ∧ a0 ≤ a0 ∧ ((16 : Nat) : Int) * a0 ≤ 281474976710656 ∧
 a0 ≤ 9223372036854775807) ∧ (∀ w0, w0 = w.alloc (.cells (madeCells #[(.int .i64 0), (.int .i64 0)] (((Int.toNat a0)) * 2)) 244) →
 (∀ w1, w1 = w0.alloc (.cells #[(.slice (some ⟨w.heap.size, 0, none⟩) ((Int.toNat a0)) ((Int.toNat a0))), (.bool a1), (.bool a2)] 169) →
 (∃ p2 l3 c4, w1.cell? ⟨w0.heap.size, 0, none⟩ = some (.slice p2 l3 c4) ∧ (∃ (I5 : Int →
 World → Prop) (μ6 : Int → World → Nat), I5 0 w1 ∧ ∀ (_g7 : Nat → Value) (w8 : World) (n9 : Int), I5 n9 w8 →
 (Br (decide (n9 < (((l3 : Nat) : Int)))) (∃ p10 l11 c12, w8.cell? ⟨w0.heap.size, 0, none⟩ = some (.slice p10 l11 c12) ∧
 (((0 : Int) ≤ n9 ∧ n9 < ((l11 : Nat) : Int)) ∧ (PtrSome p10 (fun b13 o14 => CanSet w8 b13 (o14 + ((Int.toNat n9)) * 2 + 1) ∧
 (∀ w15, w15 = w8.setCell ⟨b13, o14 + ((Int.toNat n9)) * 2 + 1, none⟩ (.int .i64 ((-1))) → (I5 (IntKind.i64.wrap (n9 + 1)) w15 ∧
 μ6 (IntKind.i64.wrap (n9 + 1)) w15 < μ6 n9 w8)))))) (R (.returned (.tuple #[(.pointer (some ⟨w0.heap.size, 0, none⟩)), (.int .i64 0)])) w8))))))))
theorem callsSeatNew (a0 : Int) (a1 : Bool) (a2 : Bool) (R : Ending → 
    World → Prop) (w : World) (h : preSeatNew a0 a1 a2 R w) : Calls Tryz.prog 86 #[(.int .i64 a0), (.bool a1), (.bool a2)] w R :=
  calls_of_sym Tryz.func86 (c := bodyOf Tryz.f86) rfl (Eq.mpr (by kernel_rfl) h)

/-- (*weighlock/plan.Plan).Word -/
def prePlanPlanWord (q0 : Nat) (a1 a2 : Int) (R : Ending → 
    World → Prop) (w : World) : Prop :=
  Calls Tryz.prog 24 #[(.pointer (some ⟨q0, 0, none⟩)), (.int .i64 1), (.int .i64 a1), (.int .u32 a2)] w (fun e0 w1 =>
 ∃ n2, e0 = .returned (.int .i64 n2) ∧ (R (.returned (.int .i64 n2)) w1))
theorem callsPlanPlanWord (q0 : Nat) (a1 a2 : Int) (R : Ending → 
    World → Prop) (w : World) (h : prePlanPlanWord q0 a1 a2 R w) : Calls Tryz.prog 90 #[(.pointer (some ⟨q0, 0, none⟩)), (.int .i64 a1), (.int .u32 a2)] w R :=
  calls_of_sym Tryz.func90 (c := bodyOf Tryz.f90) rfl (Eq.mpr (by kernel_rfl) h)

/-- (*weighlock/plan.Plan).Port -/
def prePlanPlanPort (q0 : Nat) (R : Ending → World → Prop) (w : World) : Prop :=
  ∀ w0, w0 = w.drew →
 (∃ n1, w0.cell? ⟨q0, 0, none⟩ = some (.int .i64 n1) ∧ (∃ p2 l3 c4, w0.cell? ⟨q0, 1, none⟩ = some (.slice p2 l3 c4) ∧
 (∃ p5 l6 c7, w0.cell? ⟨q0, 2, none⟩ = some (.slice p5 l6 c7) ∧ (Calls Tryz.prog 146 #[(.int .i64 n1), (.slice p2 l3 c4), (.slice p5 l6 c7)] w0 (fun e8 w9 =>
 ∃ p10 n11, e8 = .returned (.tuple #[(.pointer p10), (.int .i64 n11)]) ∧
 (R (.returned (.tuple #[(.pointer p10), (.int .i64 n11)])) w9))))))
theorem callsPlanPlanPort (q0 : Nat) (R : Ending → 
    World → Prop) (w : World) (h : prePlanPlanPort q0 R w) : Calls Tryz.prog 94 #[(.pointer (some ⟨q0, 0, none⟩))] w R :=
  calls_of_sym Tryz.func94 (c := bodyOf Tryz.f94) rfl (Eq.mpr (by kernel_rfl) h)

/-- (*weighlock/mem.Mem).at -/
def preMemMem_at (q0 : Nat) (a1 : Int) (R : Ending → World → Prop) (w : World) : Prop :=
  Br (decide ((a1 : Int) < 0)) (R (.returned (.pointer none)) w) (∃ p0 l1 c2, w.cell? ⟨q0, 0, none⟩ = some (.slice p0 l1 c2) ∧
 (Br (decide ((a1 : Int) ≥ (((l1 : Nat) : Int)))) (R (.returned (.pointer none)) w) (∃ p3 l4 c5, w.cell? ⟨q0, 0, none⟩ = some (.slice p3 l4 c5) ∧
 (((0 : Int) ≤ a1 ∧ a1 < ((l4 : Nat) : Int)) ∧ (PtrSome p3 (fun b6 o7 => R (.returned (.pointer (some ⟨b6, o7 + (Int.toNat a1), none⟩))) w))))))
theorem callsMemMem_at (q0 : Nat) (a1 : Int) (R : Ending → 
    World → Prop) (w : World) (h : preMemMem_at q0 a1 R w) : Calls Tryz.prog 97 #[(.pointer (some ⟨q0, 0, none⟩)), (.int .i64 a1)] w R :=
  calls_of_sym Tryz.func97 (c := bodyOf Tryz.f97) rfl (Eq.mpr (by kernel_rfl) h)

/-- (*sync/atomic.Uint32).Load -/
def preSyncAtomicUint32Load (q0 qo0 : Nat) (R : Ending → World → Prop) (w : World) : Prop :=
  ExtCall Tryz.prog 157 #[(.pointer (some ⟨q0, qo0, none⟩))] w (fun e0 w1 =>
 ∃ n2, e0 = .returned (.int .u32 n2) ∧ (R (.returned (.int .u32 n2)) w1))
theorem callsSyncAtomicUint32Load (q0 qo0 : Nat) (R : Ending → 
    World → Prop) (w : World) (h : preSyncAtomicUint32Load q0 qo0 R w) : Calls Tryz.prog 102 #[(.pointer (some ⟨q0, qo0, none⟩))] w R :=
  calls_of_sym Tryz.func102 (c := bodyOf Tryz.f102) rfl (Eq.mpr (by kernel_rfl) h)

/-- (*weighlock/port.Port).count -/
def prePortPort_count (q0 : Nat) (a1 a2 : Int) (R : Ending → 
    World → Prop) (w : World) : Prop :=
  Br (decide ((a1 : Int) < 0)) (R (.returned (.int .i64 0)) w) (∃ p0 l1 c2, w.cell? ⟨q0, 2, none⟩ = some (.slice p0 l1 c2) ∧
 (Br (decide ((a1 : Int) ≥ (((l1 : Nat) : Int)))) (R (.returned (.int .i64 0)) w) (∃ p3 l4 c5, w.cell? ⟨q0, 2, none⟩ = some (.slice p3 l4 c5) ∧
 (((0 : Int) ≤ a1 ∧ a1 < ((l4 : Nat) : Int)) ∧ (PtrSome p3 (fun b6 o7 => ((0 : Int) ≤ a2 ∧ a2 < ((2 : Nat) : Int)) ∧
 (∃ n8, w.cell? ⟨b6, o7 + ((Int.toNat a1)) * 2 + (Int.toNat a2), none⟩ = some (.int .i64 n8) ∧
 (R (.returned (.int .i64 n8)) w))))))))
theorem callsPortPort_count (q0 : Nat) (a1 a2 : Int) (R : Ending → 
    World → Prop) (w : World) (h : prePortPort_count q0 a1 a2 R w) : Calls Tryz.prog 103 #[(.pointer (some ⟨q0, 0, none⟩)), (.int .i64 a1), (.int .i64 a2)] w R :=
  calls_of_sym Tryz.func103 (c := bodyOf Tryz.f103) rfl (Eq.mpr (by kernel_rfl) h)

/-- (*weighlock/cache.Cache).Misses -/
def preCacheCacheMisses (q0 : Nat) (a1 : Int) (R : Ending → World → 
    Prop) (w : World) : Prop :=
  Br (decide ((a1 : Int) < 0)) (R (.returned (.int .i64 0)) w) (∃ p0 l1 c2, w.cell? ⟨q0, 1, none⟩ = some (.slice p0 l1 c2) ∧
 (Br (decide ((a1 : Int) ≥ (((l1 : Nat) : Int)))) (R (.returned (.int .i64 0)) w) (∃ p3 l4 c5, w.cell? ⟨q0, 1, none⟩ = some (.slice p3 l4 c5) ∧
 (((0 : Int) ≤ a1 ∧ a1 < ((l4 : Nat) : Int)) ∧ (PtrSome p3 (fun b6 o7 => ∃ n8, w.cell? ⟨b6, o7 + (Int.toNat a1), none⟩ = some (.int .i64 n8) ∧
 (R (.returned (.int .i64 n8)) w)))))))
theorem callsCacheCacheMisses (q0 : Nat) (a1 : Int) (R : Ending → 
    World → Prop) (w : World) (h : preCacheCacheMisses q0 a1 R w) : Calls Tryz.prog 131 #[(.pointer (some ⟨q0, 0, none⟩)), (.int .i64 a1)] w R :=
  calls_of_sym Tryz.func131 (c := bodyOf Tryz.f131) rfl (Eq.mpr (by kernel_rfl) h)

/-- (*weighlock/seat.Seats).there -/
def preSeatSeats_there (q0 : Nat) (a1 : Int) (R : Ending → World → 
    Prop) (w : World) : Prop :=
  Br (decide ((a1 : Int) ≥ 0)) (∃ p0 l1 c2, w.cell? ⟨q0, 0, none⟩ = some (.slice p0 l1 c2) ∧
 (R (.returned (.bool (decide ((a1 : Int) < (((l1 : Nat) : Int)))))) w)) (R (.returned (.bool false)) w)
theorem callsSeatSeats_there (q0 : Nat) (a1 : Int) (R : Ending → 
    World → Prop) (w : World) (h : preSeatSeats_there q0 a1 R w) : Calls Tryz.prog 137 #[(.pointer (some ⟨q0, 0, none⟩)), (.int .i64 a1)] w R :=
  calls_of_sym Tryz.func137 (c := bodyOf Tryz.f137) rfl (Eq.mpr (by kernel_rfl) h)

/-- (*weighlock/seat.Seats).State -/
def preSeatSeatsState (q0 : Nat) (a1 : Int) (R : Ending → World → 
    Prop) (w : World) : Prop :=
  Calls Tryz.prog 137 #[(.pointer (some ⟨q0, 0, none⟩)), (.int .i64 a1)] w (fun e0 w1 =>
 ∃ b2, e0 = .returned (.bool b2) ∧ (Br (!b2) (R (.returned (.int .i64 0)) w1) (∃ p3 l4 c5, w1.cell? ⟨q0, 0, none⟩ = some (.slice p3 l4 c5) ∧
 (((0 : Int) ≤ a1 ∧ a1 < ((l4 : Nat) : Int)) ∧ (PtrSome p3 (fun b6 o7 => ∃ n8, w1.cell? ⟨b6, o7 + ((Int.toNat a1)) * 2, none⟩ = some (.int .i64 n8) ∧
 (R (.returned (.int .i64 n8)) w1)))))))
theorem callsSeatSeatsState (q0 : Nat) (a1 : Int) (R : Ending → 
    World → Prop) (w : World) (h : preSeatSeatsState q0 a1 R w) : Calls Tryz.prog 138 #[(.pointer (some ⟨q0, 0, none⟩)), (.int .i64 a1)] w R :=
  calls_of_sym Tryz.func138 (c := bodyOf Tryz.f138) rfl (Eq.mpr (by kernel_rfl) h)

/-- (*weighlock/seat.Seats).End -/
def preSeatSeatsEnd (q0 : Nat) (a1 a2 : Int) (R : Ending → 
    World → Prop) (w : World) : Prop :=
  Calls Tryz.prog 138 #[(.pointer (some ⟨q0, 0, none⟩)), (.int .i64 a1)] w (fun e0 w1 =>
 ∃ n2, e0 = .returned (.int .i64 n2) ∧ (Calls Tryz.prog 179 #[(.int .i64 n2), (.int .i64 a2)] w1 (fun e3 w4 =>
 ∃ n5, e3 = .returned (.int .i64 n5) ∧ (Br (decide (n5 < 0)) (R (.returned (.bool false)) w4) (∃ p6 l7 c8, w4.cell? ⟨q0, 0, none⟩ = some (.slice p6 l7 c8) ∧
 (((0 : Int) ≤ a1 ∧ a1 < ((l7 : Nat) : Int)) ∧ (PtrSome p6 (fun b9 o10 => w4.there b9 (o10 + ((Int.toNat a1)) * 2) 2 ∧
 (∀ w11, w11 = w4.setCells b9 (o10 + ((Int.toNat a1)) * 2) [(.int .i64 n5), (.int .i64 ((-1)))] →
 (R (.returned (.bool true)) w11))))))))))
theorem callsSeatSeatsEnd (q0 : Nat) (a1 a2 : Int) (R : Ending → 
    World → Prop) (w : World) (h : preSeatSeatsEnd q0 a1 a2 R w) : Calls Tryz.prog 140 #[(.pointer (some ⟨q0, 0, none⟩)), (.int .i64 a1), (.int .i64 a2)] w R :=
  calls_of_sym Tryz.func140 (c := bodyOf Tryz.f140) rfl (Eq.mpr (by kernel_rfl) h)

/-- weighlock/port.New -/
def prePortNew (a0 : Int) (a1p : Option Addr) (a1l a1c : Nat) (a2p : Option Addr) (a2l a2c : Nat) (R : Ending → 
    World → Prop) (w : World) : Prop :=
  Br (decide ((a0 : Int) < 1)) (R (.returned (.tuple #[(.pointer none), (.int .i64 1)])) w) (Br (decide ((a0 : Int) >
 64)) (R (.returned (.tuple #[(.pointer none), (.int .i64 1)])) w) (Br (((((a1l : Nat) : Int)) : Int) != (((a2l : Nat) : Int))) (R (.returned (.tuple #[(.pointer none), (.int .i64 1)])) w) (Calls Tryz.prog 183 #[(.slice a1p a1l a1c)] w (fun e0 w1 =>
 ∃ p2 n3, e0 = .returned (.tuple #[(.pointer p2), (.int .i64 n3)]) ∧ (Br (n3 != 0) (R (.returned (.tuple #[(.pointer none), (.int .i64 n3)])) w1) (∃ (I4 : Int →
 World → Prop) (μ5 : Int → World → Nat), I4 0 w1 ∧ ∀ (_g6 : Nat → Value) (w7 : World) (n8 : Int), I4 n8 w7 →
 (Br (decide (n8 < (((a2l : Nat) : Int)))) (((0 : Int) ≤ n8 ∧ n8 < ((a2l : Nat) : Int)) ∧ (PtrSome a2p (fun b9 o10 =>
 ∃ n11, w7.cell? ⟨b9, o10 + (Int.toNat n8), none⟩ = some (.int .u32 n11) ∧ (Calls Tryz.prog 184 #[(.pointer p2), (.int .i64 n8), (.int .u32 n11)] w7 (fun e12 w13 =>
 e12 = .returned (.tuple #[]) ∧ (I4 (IntKind.i64.wrap (n8 + 1)) w13 ∧ μ5 (IntKind.i64.wrap (n8 + 1)) w13 < μ5 n8 w7)))))) (Calls Tryz.prog 185 #[(.int .i64 a0), (.int .i64 (((a2l : Nat) : Int)))] w7 (fun e14 w15 =>
 ∃ p16 n17, e14 = .returned (.tuple #[(.pointer p16), (.int .i64 n17)]) ∧
 (((0 : Int) ≤ a0 ∧ a0 ≤ a0 ∧ ((16 : Nat) : Int) * a0 ≤ 281474976710656 ∧ a0 ≤ 9223372036854775807) ∧
 (∀ w18, w18 = w15.alloc (.cells (madeCells #[(.int .i64 0), (.int .i64 0)] (((Int.toNat a0)) * 2)) 274) →
 (∀ w19, w19 = w18.alloc (.cells #[(.pointer p2), (.pointer p16), (.slice (some ⟨w15.heap.size, 0, none⟩) ((Int.toNat a0)) ((Int.toNat a0)))] 66) →
 (R (.returned (.tuple #[(.pointer (some ⟨w18.heap.size, 0, none⟩)), (.int .i64 0)])) w19)))))))))))))
theorem callsPortNew (a0 : Int) (a1p : Option Addr) (a1l a1c : Nat) (a2p : Option Addr) (a2l a2c : Nat) (R : Ending → 
    World → Prop) (w : World) (h : prePortNew a0 a1p a1l a1c a2p a2l a2c R w) : Calls Tryz.prog 146 #[(.int .i64 a0), (.slice a1p a1l a1c), (.slice a2p a2l a2c)] w R :=
  calls_of_sym Tryz.func146 (c := bodyOf Tryz.f146) rfl (Eq.mpr (by kernel_rfl) h)

/-- (*weighlock/port.Port).Threads -/
def prePortPortThreads (q0 : Nat) (R : Ending → World → Prop) (w : World) : Prop :=
  ∃ p0 l1 c2, w.cell? ⟨q0, 2, none⟩ = some (.slice p0 l1 c2) ∧
 (R (.returned (.int .i64 (((l1 : Nat) : Int)))) w)
theorem callsPortPortThreads (q0 : Nat) (R : Ending → 
    World → Prop) (w : World) (h : prePortPortThreads q0 R w) : Calls Tryz.prog 152 #[(.pointer (some ⟨q0, 0, none⟩))] w R :=
  calls_of_sym Tryz.func152 (c := bodyOf Tryz.f152) rfl (Eq.mpr (by kernel_rfl) h)

/-- (*weighlock/port.Port).Writes -/
def prePortPortWrites (q0 : Nat) (a1 : Int) (R : Ending → World → 
    Prop) (w : World) : Prop :=
  Calls Tryz.prog 103 #[(.pointer (some ⟨q0, 0, none⟩)), (.int .i64 a1), (.int .i64 1)] w (fun e0 w1 =>
 ∃ n2, e0 = .returned (.int .i64 n2) ∧ (R (.returned (.int .i64 n2)) w1))
theorem callsPortPortWrites (q0 : Nat) (a1 : Int) (R : Ending → 
    World → Prop) (w : World) (h : prePortPortWrites q0 a1 R w) : Calls Tryz.prog 153 #[(.pointer (some ⟨q0, 0, none⟩)), (.int .i64 a1)] w R :=
  calls_of_sym Tryz.func153 (c := bodyOf Tryz.f153) rfl (Eq.mpr (by kernel_rfl) h)

/-- weighlock/seat.next -/
def preSeatNext (a0 a1 : Int) (R : Ending → World → Prop) (w : World) : Prop :=
  Br ((a0 : Int) == 1) (Br ((a1 : Int) == 1) (R (.returned (.int .i64 2)) w) (Br ((a0 : Int) == 1) (Br ((a1 : Int) == 2) (R (.returned (.int .i64 0)) w) (Br ((a1 : Int) == 6) (R (.returned (.int .i64 0)) w) (Br ((a0 : Int) == 3) (Br ((a1 : Int) == 3) (R (.returned (.int .i64 0)) w) (Br ((a0 : Int) == 4) (Br ((a1 : Int) == 4) (R (.returned (.int .i64 2)) w) (Br ((a1 : Int) == 5) (R (.returned (.int .i64 2)) w) (R (.returned (.int .i64 ((-1)))) w))) (R (.returned (.int .i64 ((-1)))) w))) (Br ((a0 : Int) == 4) (Br ((a1 : Int) == 4) (R (.returned (.int .i64 2)) w) (Br ((a1 : Int) == 5) (R (.returned (.int .i64 2)) w) (R (.returned (.int .i64 ((-1)))) w))) (R (.returned (.int .i64 ((-1)))) w))))) (Br ((a0 : Int) == 3) (Br ((a1 : Int) == 3) (R (.returned (.int .i64 0)) w) (Br ((a0 : Int) == 4) (Br ((a1 : Int) == 4) (R (.returned (.int .i64 2)) w) (Br ((a1 : Int) == 5) (R (.returned (.int .i64 2)) w) (R (.returned (.int .i64 ((-1)))) w))) (R (.returned (.int .i64 ((-1)))) w))) (Br ((a0 : Int) == 4) (Br ((a1 : Int) == 4) (R (.returned (.int .i64 2)) w) (Br ((a1 : Int) == 5) (R (.returned (.int .i64 2)) w) (R (.returned (.int .i64 ((-1)))) w))) (R (.returned (.int .i64 ((-1)))) w))))) (Br ((a0 : Int) == 1) (Br ((a1 : Int) == 2) (R (.returned (.int .i64 0)) w) (Br ((a1 : Int) == 6) (R (.returned (.int .i64 0)) w) (Br ((a0 : Int) == 3) (Br ((a1 : Int) == 3) (R (.returned (.int .i64 0)) w) (Br ((a0 : Int) == 4) (Br ((a1 : Int) == 4) (R (.returned (.int .i64 2)) w) (Br ((a1 : Int) == 5) (R (.returned (.int .i64 2)) w) (R (.returned (.int .i64 ((-1)))) w))) (R (.returned (.int .i64 ((-1)))) w))) (Br ((a0 : Int) == 4) (Br ((a1 : Int) == 4) (R (.returned (.int .i64 2)) w) (Br ((a1 : Int) == 5) (R (.returned (.int .i64 2)) w) (R (.returned (.int .i64 ((-1)))) w))) (R (.returned (.int .i64 ((-1)))) w))))) (Br ((a0 : Int) == 3) (Br ((a1 : Int) == 3) (R (.returned (.int .i64 0)) w) (Br ((a0 : Int) == 4) (Br ((a1 : Int) == 4) (R (.returned (.int .i64 2)) w) (Br ((a1 : Int) == 5) (R (.returned (.int .i64 2)) w) (R (.returned (.int .i64 ((-1)))) w))) (R (.returned (.int .i64 ((-1)))) w))) (Br ((a0 : Int) == 4) (Br ((a1 : Int) == 4) (R (.returned (.int .i64 2)) w) (Br ((a1 : Int) == 5) (R (.returned (.int .i64 2)) w) (R (.returned (.int .i64 ((-1)))) w))) (R (.returned (.int .i64 ((-1)))) w))))
theorem callsSeatNext (a0 a1 : Int) (R : Ending → 
    World → Prop) (w : World) (h : preSeatNext a0 a1 R w) : Calls Tryz.prog 179 #[(.int .i64 a0), (.int .i64 a1)] w R :=
  calls_of_sym Tryz.func179 (c := bodyOf Tryz.f179) rfl (Eq.mpr (by kernel_rfl) h)

/-- weighlock/mem.New -/
def preMemNew (a0p : Option Addr) (a0l a0c : Nat) (R : Ending → World → Prop) (w : World) : Prop :=
  Br (decide (((((a0l : Nat) : Int)) : Int) >
 4096)) (R (.returned (.tuple #[(.pointer none), (.int .i64 5)])) w) (∃ (I0 : Option Addr → Int → Int →
 World → Prop) (μ1 : Option Addr → Int → Int → World → Nat), I0 none 0 0 w ∧ ∀ (_g2 : Nat → Value) (w3 : World) (p4 : Option Addr) (n5 : Int) (n6 : Int), I0 p4 n5 n6 w3 →
 (Br (decide (n6 < (((a0l : Nat) : Int)))) (((0 : Int) ≤ n6 ∧ n6 < ((a0l : Nat) : Int)) ∧ (PtrSome a0p (fun b7 o8 =>
 ∃ n9, w3.cell? ⟨b7, o8 + (Int.toNat n6), none⟩ = some (.int .i64 n9) ∧ (Br (decide (n9 < 0)) (R (.returned (.tuple #[(.pointer none), (.int .i64 1)])) w3) (Br (decide (n9 ≥ 8)) (R (.returned (.tuple #[(.pointer none), (.int .i64 1)])) w3) (I0 p4 n5 (IntKind.i64.wrap (n6 + 1)) w3 ∧
 μ1 p4 n5 (IntKind.i64.wrap (n6 + 1)) w3 < μ1 p4 n5 n6 w3)))))) (∀ w10, w10 = w3.drew → ((((0 : Int) ≤ (((a0l : Nat) : Int)) ∧
 (((a0l : Nat) : Int)) ≤ (((a0l : Nat) : Int)) ∧ ((4 : Nat) : Int) * (((a0l : Nat) : Int)) ≤ 281474976710656 ∧
 (((a0l : Nat) : Int)) ≤ 9223372036854775807) ∧ (∀ w11, w11 = w10.alloc (.cells (madeCells #[(.int .u32 0)] ((Int.toNat (((a0l : Nat) : Int))))) 196) →
 (Calls Tryz.prog 104 #[(.slice a0p a0l a0c)] w11 (fun e12 w13 => ∃ p14 l15 c16, e12 = .returned (.slice p14 l15 c16) ∧
 (∀ w17, w17 = w13.alloc (.cells #[(.slice (some ⟨w10.heap.size, 0, none⟩) ((Int.toNat (((a0l : Nat) : Int)))) ((Int.toNat (((a0l : Nat) : Int))))), (.slice p14 l15 c16)] 176) →
 (R (.returned (.tuple #[(.pointer (some ⟨w13.heap.size, 0, none⟩)), (.int .i64 0)])) w17)))))) ∧ (Calls Tryz.prog 104 #[(.slice a0p a0l a0c)] w10 (fun e18 w19 =>
 ∃ p20 l21 c22, e18 = .returned (.slice p20 l21 c22) ∧ (((0 : Int) ≤ (((a0l : Nat) : Int)) ∧
 (((a0l : Nat) : Int)) ≤ (((a0l : Nat) : Int)) ∧ ((4 : Nat) : Int) * (((a0l : Nat) : Int)) ≤ 281474976710656 ∧
 (((a0l : Nat) : Int)) ≤ 9223372036854775807) ∧ (∀ w23, w23 = w19.alloc (.cells (madeCells #[(.int .u32 0)] ((Int.toNat (((a0l : Nat) : Int))))) 196) →
 (∀ w24, w24 = w23.alloc (.cells #[(.slice (some ⟨w19.heap.size, 0, none⟩) ((Int.toNat (((a0l : Nat) : Int)))) ((Int.toNat (((a0l : Nat) : Int))))), (.slice p20 l21 c22)] 176) →
 (R (.returned (.tuple #[(.pointer (some ⟨w23.heap.size, 0, none⟩)), (.int .i64 0)])) w24))))))))))
theorem callsMemNew (a0p : Option Addr) (a0l a0c : Nat) (R : Ending → 
    World → Prop) (w : World) (h : preMemNew a0p a0l a0c R w) : Calls Tryz.prog 183 #[(.slice a0p a0l a0c)] w R :=
  calls_of_sym Tryz.func183 (c := bodyOf Tryz.f183) rfl (Eq.mpr (by kernel_rfl) h)

/-- (*weighlock/mem.Mem).Store -/
def preMemMemStore (q0 : Nat) (a1 a2 : Int) (R : Ending → World → 
    Prop) (w : World) : Prop :=
  Calls Tryz.prog 97 #[(.pointer (some ⟨q0, 0, none⟩)), (.int .i64 a1)] w (fun e0 w1 =>
 ∃ p2, e0 = .returned (.pointer p2) ∧ (Br (!(Option.isNone p2)) (Calls Tryz.prog 204 #[(.pointer p2), (.int .u32 a2)] w1 (fun e3 w4 =>
 e3 = .returned (.tuple #[]) ∧ (R (.returned (.tuple #[])) w4))) (R (.returned (.tuple #[])) w1)))
theorem callsMemMemStore (q0 : Nat) (a1 a2 : Int) (R : Ending → 
    World → Prop) (w : World) (h : preMemMemStore q0 a1 a2 R w) : Calls Tryz.prog 184 #[(.pointer (some ⟨q0, 0, none⟩)), (.int .i64 a1), (.int .u32 a2)] w R :=
  calls_of_sym Tryz.func184 (c := bodyOf Tryz.f184) rfl (Eq.mpr (by kernel_rfl) h)

/-- weighlock/cache.New -/
def preCacheNew (a0 a1 : Int) (R : Ending → World → Prop) (w : World) : Prop :=
  Br (decide ((a0 : Int) < 1)) (R (.returned (.tuple #[(.pointer none), (.int .i64 1)])) w) (Br (decide ((a0 : Int) >
 64)) (R (.returned (.tuple #[(.pointer none), (.int .i64 1)])) w) (Br (decide ((a1 : Int) < 0)) (R (.returned (.tuple #[(.pointer none), (.int .i64 1)])) w) (Br (decide ((a1 : Int) >
 4096)) (R (.returned (.tuple #[(.pointer none), (.int .i64 1)])) w) (∀ w0, w0 = w.drew → ((((0 : Int) ≤ a1 ∧
 a1 ≤ a1 ∧ ((8 : Nat) : Int) * a1 ≤ 281474976710656 ∧ a1 ≤ 9223372036854775807) ∧ (∀ w1, w1 = w0.alloc (.cells (madeCells #[(.int .u64 0)] ((Int.toNat a1))) 379) →
 (((0 : Int) ≤ a0 ∧ a0 ≤ a0 ∧ ((8 : Nat) : Int) * a0 ≤ 281474976710656 ∧ a0 ≤ 9223372036854775807) ∧ (∀ w2, w2 = w1.alloc (.cells (madeCells #[(.int .i64 0)] ((Int.toNat a0))) 3) →
 (∀ w3, w3 = w2.alloc (.cells #[(.slice (some ⟨w0.heap.size, 0, none⟩) ((Int.toNat a1)) ((Int.toNat a1))), (.slice (some ⟨w1.heap.size, 0, none⟩) ((Int.toNat a0)) ((Int.toNat a0)))] 302) →
 (R (.returned (.tuple #[(.pointer (some ⟨w2.heap.size, 0, none⟩)), (.int .i64 0)])) w3)))))) ∧ (((0 : Int) ≤ a0 ∧
 a0 ≤ a0 ∧ ((8 : Nat) : Int) * a0 ≤ 281474976710656 ∧ a0 ≤ 9223372036854775807) ∧ (∀ w4, w4 = w0.alloc (.cells (madeCells #[(.int .i64 0)] ((Int.toNat a0))) 3) →
 (((0 : Int) ≤ a1 ∧ a1 ≤ a1 ∧ ((8 : Nat) : Int) * a1 ≤ 281474976710656 ∧ a1 ≤ 9223372036854775807) ∧ (∀ w5, w5 = w4.alloc (.cells (madeCells #[(.int .u64 0)] ((Int.toNat a1))) 379) →
 (∀ w6, w6 = w5.alloc (.cells #[(.slice (some ⟨w4.heap.size, 0, none⟩) ((Int.toNat a1)) ((Int.toNat a1))), (.slice (some ⟨w0.heap.size, 0, none⟩) ((Int.toNat a0)) ((Int.toNat a0)))] 302) →
 (R (.returned (.tuple #[(.pointer (some ⟨w5.heap.size, 0, none⟩)), (.int .i64 0)])) w6)))))))))))
theorem callsCacheNew (a0 a1 : Int) (R : Ending → 
    World → Prop) (w : World) (h : preCacheNew a0 a1 R w) : Calls Tryz.prog 185 #[(.int .i64 a0), (.int .i64 a1)] w R :=
  calls_of_sym Tryz.func185 (c := bodyOf Tryz.f185) rfl (Eq.mpr (by kernel_rfl) h)

/-- weighlock/pack.Sizes -/
def prePackSizes  (R : Ending → World → Prop) (w : World) : Prop :=
  ∃ (I0 : Option Addr →
 Nat → Nat → Int → World → Prop) (μ1 : Option Addr → Nat → Nat → Int → World → Nat), I0 none 0 0 1 w ∧
 ∀ (_g2 : Nat → Value) (w3 : World) (p4 : Option Addr) (l5 c6 : Nat) (n7 : Int), I0 p4 l5 c6 n7 w3 → (Br (decide (n7 ≤ 64)) (∀ w8, w8 = w3.alloc (.cells #[(.int .i64 n7)] 3) →
 (AppQ Tryz.prog #[22, 22] 22 #[(.slice p4 l5 c6), (.slice (some ⟨w3.heap.size, 0, none⟩) 1 1)] w8 (fun p9 l10 c11 w12 =>
 (0 : Int) ≤ 1 ∧ (I0 p9 l10 c11 (IntKind.i64.wrap (n7 * 2 ^ min (Int.toNat 1) IntKind.i64.bits)) w12 ∧
 μ1 p9 l10 c11 (IntKind.i64.wrap (n7 * 2 ^ min (Int.toNat 1) IntKind.i64.bits)) w12 < μ1 p4 l5 c6 n7 w3)))) (R (.returned (.slice p4 l5 c6)) w3))
theorem callsPackSizes  (R : Ending → 
    World → Prop) (w : World) (h : prePackSizes  R w) : Calls Tryz.prog 187 #[] w R :=
  calls_of_sym Tryz.func187 (c := bodyOf Tryz.f187) rfl (Eq.mpr (by kernel_rfl) h)

/-- weighlock/pack.Slot -/
def prePackSlot (a0 a1 : Int) (R : Ending → World → Prop) (w : World) : Prop :=
  Br (decide ((a1 : Int) < 1)) (R (.returned (.int .i64 0)) w) (Br (decide ((a1 : Int) >
 64)) (R (.returned (.int .i64 0)) w) (Br (((IntKind.i64.wrap (BitVec.ofInt IntKind.i64.bits a1 &&& BitVec.ofInt IntKind.i64.bits (IntKind.i64.wrap (a1 - 1))).toNat) : Int) != 0) (R (.returned (.int .i64 0)) w) (R (.returned (.int .i64 (IntKind.i64.wrap (IntKind.u32.wrap (BitVec.ofInt IntKind.u32.bits a0 &&& BitVec.ofInt IntKind.u32.bits (IntKind.u32.wrap (IntKind.i64.wrap (a1 - 1)))).toNat)))) w)))
theorem callsPackSlot (a0 a1 : Int) (R : Ending → 
    World → Prop) (w : World) (h : prePackSlot a0 a1 R w) : Calls Tryz.prog 188 #[(.int .u32 a0), (.int .i64 a1)] w R :=
  calls_of_sym Tryz.func188 (c := bodyOf Tryz.f188) rfl (Eq.mpr (by kernel_rfl) h)

/-- weighlock/pack.Pack -/
def prePackPack (a0 : Int) (a1 : Bool) (a2 : Bool) (R : Ending → World → Prop) (w : World) : Prop :=
  Br a1 (Br a2 (R (.returned (.int .u32 (IntKind.u32.wrap (BitVec.ofInt IntKind.u32.bits (IntKind.u32.wrap (BitVec.ofInt IntKind.u32.bits (IntKind.u32.wrap ((IntKind.u32.wrap (minI (maxI a0 0) 1073741823)) * 4)) ||| BitVec.ofInt IntKind.u32.bits 2).toNat) ||| BitVec.ofInt IntKind.u32.bits 1).toNat))) w) (R (.returned (.int .u32 (IntKind.u32.wrap (BitVec.ofInt IntKind.u32.bits (IntKind.u32.wrap ((IntKind.u32.wrap (minI (maxI a0 0) 1073741823)) * 4)) ||| BitVec.ofInt IntKind.u32.bits 2).toNat))) w)) (Br a2 (R (.returned (.int .u32 (IntKind.u32.wrap (BitVec.ofInt IntKind.u32.bits (IntKind.u32.wrap ((IntKind.u32.wrap (minI (maxI a0 0) 1073741823)) * 4)) ||| BitVec.ofInt IntKind.u32.bits 1).toNat))) w) (R (.returned (.int .u32 (IntKind.u32.wrap ((IntKind.u32.wrap (minI (maxI a0 0) 1073741823)) * 4)))) w))
theorem callsPackPack (a0 : Int) (a1 : Bool) (a2 : Bool) (R : Ending → 
    World → Prop) (w : World) (h : prePackPack a0 a1 a2 R w) : Calls Tryz.prog 192 #[(.int .i64 a0), (.bool a1), (.bool a2)] w R :=
  calls_of_sym Tryz.func192 (c := bodyOf Tryz.f192) rfl (Eq.mpr (by kernel_rfl) h)

/-- (*weighlock/port.Port).Load -/
def prePortPortLoad (q0 : Nat) (a1 a2 : Int) (R : Ending → 
    World → Prop) (w : World) : Prop :=
  Calls Tryz.prog 214 #[(.pointer (some ⟨q0, 0, none⟩)), (.int .i64 a1), (.int .i64 a2), (.bool false)] w (fun e0 w1 =>
 ∃ b2, e0 = .returned (.bool b2) ∧ (Br (!b2) (R (.returned (.int .u32 0)) w1) (∃ p3, w1.cell? ⟨q0, 0, none⟩ = some (.pointer p3) ∧
 (Calls Tryz.prog 215 #[(.pointer p3), (.int .i64 a2)] w1 (fun e4 w5 => ∃ n6, e4 = .returned (.int .u32 n6) ∧
 (R (.returned (.int .u32 n6)) w5))))))
theorem callsPortPortLoad (q0 : Nat) (a1 a2 : Int) (R : Ending → 
    World → Prop) (w : World) (h : prePortPortLoad q0 a1 a2 R w) : Calls Tryz.prog 200 #[(.pointer (some ⟨q0, 0, none⟩)), (.int .i64 a1), (.int .i64 a2)] w R :=
  calls_of_sym Tryz.func200 (c := bodyOf Tryz.f200) rfl (Eq.mpr (by kernel_rfl) h)

/-- (*sync/atomic.Uint32).Store -/
def preSyncAtomicUint32Store (q0 qo0 : Nat) (a1 : Int) (R : Ending → 
    World → Prop) (w : World) : Prop :=
  ExtCall Tryz.prog 159 #[(.pointer (some ⟨q0, qo0, none⟩)), (.int .u32 a1)] w (fun e0 w1 =>
 e0 = .returned (.tuple #[]) ∧ (R (.returned (.tuple #[])) w1))
theorem callsSyncAtomicUint32Store (q0 qo0 : Nat) (a1 : Int) (R : Ending → 
    World → Prop) (w : World) (h : preSyncAtomicUint32Store q0 qo0 a1 R w) : Calls Tryz.prog 204 #[(.pointer (some ⟨q0, qo0, none⟩)), (.int .u32 a1)] w R :=
  calls_of_sym Tryz.func204 (c := bodyOf Tryz.f204) rfl (Eq.mpr (by kernel_rfl) h)

/-- (*weighlock/port.Port).touch -/
def prePortPort_touch (q0 : Nat) (a1 a2 : Int) (a3 : Bool) (R : Ending → 
    World → Prop) (w : World) : Prop :=
  Br (decide ((a1 : Int) < 0)) (R (.returned (.bool false)) w) (∃ p0 l1 c2, w.cell? ⟨q0, 2, none⟩ = some (.slice p0 l1 c2) ∧
 (Br (decide ((a1 : Int) ≥ (((l1 : Nat) : Int)))) (R (.returned (.bool false)) w) (Br (decide ((a2 : Int) < 0)) (R (.returned (.bool false)) w) (∃ p3, w.cell? ⟨q0, 0, none⟩ = some (.pointer p3) ∧
 (Calls Tryz.prog 34 #[(.pointer p3)] w (fun e4 w5 => ∃ n6, e4 = .returned (.int .i64 n6) ∧
 (Br (decide ((a2 : Int) ≥ n6)) (R (.returned (.bool false)) w5) (∀ w7, w7 = w5.drew → (∃ p8 l9 c10, w7.cell? ⟨q0, 2, none⟩ = some (.slice p8 l9 c10) ∧
 (((0 : Int) ≤ a1 ∧ a1 < ((l9 : Nat) : Int)) ∧ (PtrSome p8 (fun b11 o12 => ((0 : Int) ≤ 0 ∧ 0 < ((2 : Nat) : Int)) ∧
 (∃ n13, w7.cell? ⟨b11, o12 + ((Int.toNat a1)) * 2, none⟩ = some (.int .i64 n13) ∧ (((0 : Int) ≤ a1 ∧
 a1 < ((l9 : Nat) : Int)) ∧ (PtrSome p8 (fun b14 o15 => ((0 : Int) ≤ 0 ∧ 0 < ((2 : Nat) : Int)) ∧ (CanSet w7 b14 (o15 + ((Int.toNat a1)) * 2) ∧
 (∀ w16, w16 = w7.setCell ⟨b14, o15 + ((Int.toNat a1)) * 2, none⟩ (.int .i64 (IntKind.i64.wrap (n13 + 1))) →
 (Br a3 (∀ w17, w17 = w16.drew → (∃ p18 l19 c20, w17.cell? ⟨q0, 2, none⟩ = some (.slice p18 l19 c20) ∧
 (((0 : Int) ≤ a1 ∧ a1 < ((l19 : Nat) : Int)) ∧ (PtrSome p18 (fun b21 o22 => ((0 : Int) ≤ 1 ∧ 1 < ((2 : Nat) : Int)) ∧
 (∃ n23, w17.cell? ⟨b21, o22 + ((Int.toNat a1)) * 2 + 1, none⟩ = some (.int .i64 n23) ∧ (((0 : Int) ≤ a1 ∧
 a1 < ((l19 : Nat) : Int)) ∧ (PtrSome p18 (fun b24 o25 => ((0 : Int) ≤ 1 ∧ 1 < ((2 : Nat) : Int)) ∧ (CanSet w17 b24 (o25 + ((Int.toNat a1)) * 2 + 1) ∧
 (∀ w26, w26 = w17.setCell ⟨b24, o25 + ((Int.toNat a1)) * 2 + 1, none⟩ (.int .i64 (IntKind.i64.wrap (n23 + 1))) →
 (∃ p27, w26.cell? ⟨q0, 1, none⟩ = some (.pointer p27) ∧ (Calls Tryz.prog 240 #[(.pointer p27), (.int .i64 a1), (.int .i64 a2), (.bool a3)] w26 (fun e28 w29 =>
 ∃ b30, e28 = .returned (.bool b30) ∧ (R (.returned (.bool true)) w29))))))))))))))) (∃ p31, w16.cell? ⟨q0, 1, none⟩ = some (.pointer p31) ∧
 (Calls Tryz.prog 240 #[(.pointer p31), (.int .i64 a1), (.int .i64 a2), (.bool a3)] w16 (fun e32 w33 =>
 ∃ b34, e32 = .returned (.bool b34) ∧ (R (.returned (.bool true)) w33)))))))))))))))))))))))
theorem callsPortPort_touch (q0 : Nat) (a1 a2 : Int) (a3 : Bool) (R : Ending → 
    World → Prop) (w : World) (h : prePortPort_touch q0 a1 a2 a3 R w) : Calls Tryz.prog 214 #[(.pointer (some ⟨q0, 0, none⟩)), (.int .i64 a1), (.int .i64 a2), (.bool a3)] w R :=
  calls_of_sym Tryz.func214 (c := bodyOf Tryz.f214) rfl (Eq.mpr (by kernel_rfl) h)

/-- (*weighlock/mem.Mem).Load -/
def preMemMemLoad (q0 : Nat) (a1 : Int) (R : Ending → World → Prop) (w : World) : Prop :=
  Calls Tryz.prog 97 #[(.pointer (some ⟨q0, 0, none⟩)), (.int .i64 a1)] w (fun e0 w1 =>
 ∃ p2, e0 = .returned (.pointer p2) ∧ (Br (!(Option.isNone p2)) (Calls Tryz.prog 102 #[(.pointer p2)] w1 (fun e3 w4 =>
 ∃ n5, e3 = .returned (.int .u32 n5) ∧ (R (.returned (.int .u32 n5)) w4))) (R (.returned (.int .u32 0)) w1)))
theorem callsMemMemLoad (q0 : Nat) (a1 : Int) (R : Ending → 
    World → Prop) (w : World) (h : preMemMemLoad q0 a1 R w) : Calls Tryz.prog 215 #[(.pointer (some ⟨q0, 0, none⟩)), (.int .i64 a1)] w R :=
  calls_of_sym Tryz.func215 (c := bodyOf Tryz.f215) rfl (Eq.mpr (by kernel_rfl) h)

/-- (*weighlock/port.Port).Store -/
def prePortPortStore (q0 : Nat) (a1 a2 a3 : Int) (R : Ending → 
    World → Prop) (w : World) : Prop :=
  Calls Tryz.prog 214 #[(.pointer (some ⟨q0, 0, none⟩)), (.int .i64 a1), (.int .i64 a2), (.bool true)] w (fun e0 w1 =>
 ∃ b2, e0 = .returned (.bool b2) ∧ (Br b2 (∃ p3, w1.cell? ⟨q0, 0, none⟩ = some (.pointer p3) ∧
 (Calls Tryz.prog 184 #[(.pointer p3), (.int .i64 a2), (.int .u32 a3)] w1 (fun e4 w5 =>
 e4 = .returned (.tuple #[]) ∧ (R (.returned (.tuple #[])) w5)))) (R (.returned (.tuple #[])) w1)))
theorem callsPortPortStore (q0 : Nat) (a1 a2 a3 : Int) (R : Ending → 
    World → Prop) (w : World) (h : prePortPortStore q0 a1 a2 a3 R w) : Calls Tryz.prog 216 #[(.pointer (some ⟨q0, 0, none⟩)), (.int .i64 a1), (.int .i64 a2), (.int .u32 a3)] w R :=
  calls_of_sym Tryz.func216 (c := bodyOf Tryz.f216) rfl (Eq.mpr (by kernel_rfl) h)

/-- (*weighlock/cache.Cache).Touch -/
def preCacheCacheTouch (q0 : Nat) (a1 a2 : Int) (a3 : Bool) (R : Ending → 
    World → Prop) (w : World) : Prop :=
  Calls Tryz.prog 254 #[(.pointer (some ⟨q0, 0, none⟩)), (.int .i64 a1), (.int .i64 a2)] w (fun e0 w1 =>
 ∃ b2, e0 = .returned (.bool b2) ∧ (Br (!b2) (R (.returned (.bool false)) w1) ((0 : Int) ≤ a1 ∧
 (∃ p3 l4 c5, w1.cell? ⟨q0, 0, none⟩ = some (.slice p3 l4 c5) ∧ (((0 : Int) ≤ a2 ∧
 a2 < ((l4 : Nat) : Int)) ∧ (PtrSome p3 (fun b6 o7 => ∃ n8, w1.cell? ⟨b6, o7 + (Int.toNat a2), none⟩ = some (.int .u64 n8) ∧
 (∃ p9 l10 c11, w1.cell? ⟨q0, 0, none⟩ = some (.slice p9 l10 c11) ∧ (((0 : Int) ≤ a2 ∧
 a2 < ((l10 : Nat) : Int)) ∧ (PtrSome p9 (fun b12 o13 => ∃ n14, w1.cell? ⟨b12, o13 + (Int.toNat a2), none⟩ = some (.int .u64 n14) ∧
 (((0 : Int) ≤ a2 ∧ a2 < ((l10 : Nat) : Int)) ∧ (PtrSome p9 (fun b15 o16 => CanSet w1 b15 (o16 + (Int.toNat a2)) ∧
 (∀ w17, w17 = w1.setCell ⟨b15, o16 + (Int.toNat a2), none⟩ (.int .u64 (IntKind.u64.wrap (BitVec.ofInt IntKind.u64.bits n14 ||| BitVec.ofInt IntKind.u64.bits (IntKind.u64.wrap (1 * 2 ^ min (Int.toNat a1) IntKind.u64.bits))).toNat)) →
 (Br a3 (∃ p18 l19 c20, w17.cell? ⟨q0, 0, none⟩ = some (.slice p18 l19 c20) ∧
 (((0 : Int) ≤ a2 ∧ a2 < ((l19 : Nat) : Int)) ∧ (PtrSome p18 (fun b21 o22 => CanSet w17 b21 (o22 + (Int.toNat a2)) ∧
 (∀ w23, w23 = w17.setCell ⟨b21, o22 + (Int.toNat a2), none⟩ (.int .u64 (IntKind.u64.wrap (1 * 2 ^ min (Int.toNat a1) IntKind.u64.bits))) →
 (Br (n8 != (IntKind.u64.wrap (1 * 2 ^ min (Int.toNat a1) IntKind.u64.bits))) (∃ p24 l25 c26, w23.cell? ⟨q0, 1, none⟩ = some (.slice p24 l25 c26) ∧
 (((0 : Int) ≤ a1 ∧ a1 < ((l25 : Nat) : Int)) ∧ (PtrSome p24 (fun b27 o28 => ∃ n29, w23.cell? ⟨b27, o28 + (Int.toNat a1), none⟩ = some (.int .i64 n29) ∧
 (((0 : Int) ≤ a1 ∧ a1 < ((l25 : Nat) : Int)) ∧ (PtrSome p24 (fun b30 o31 => CanSet w23 b30 (o31 + (Int.toNat a1)) ∧
 (∀ w32, w32 = w23.setCell ⟨b30, o31 + (Int.toNat a1), none⟩ (.int .i64 (IntKind.i64.wrap (n29 + 1))) →
 (R (.returned (.bool (n8 != (IntKind.u64.wrap (1 * 2 ^ min (Int.toNat a1) IntKind.u64.bits))))) w32))))))))) (R (.returned (.bool (n8 != (IntKind.u64.wrap (1 * 2 ^ min (Int.toNat a1) IntKind.u64.bits))))) w23))))))) (Br (((IntKind.u64.wrap (BitVec.ofInt IntKind.u64.bits n8 &&& BitVec.ofInt IntKind.u64.bits (IntKind.u64.wrap (1 * 2 ^ min (Int.toNat a1) IntKind.u64.bits))).toNat) : Int) == 0) (∃ p33 l34 c35, w17.cell? ⟨q0, 1, none⟩ = some (.slice p33 l34 c35) ∧
 (((0 : Int) ≤ a1 ∧ a1 < ((l34 : Nat) : Int)) ∧ (PtrSome p33 (fun b36 o37 => ∃ n38, w17.cell? ⟨b36, o37 + (Int.toNat a1), none⟩ = some (.int .i64 n38) ∧
 (((0 : Int) ≤ a1 ∧ a1 < ((l34 : Nat) : Int)) ∧ (PtrSome p33 (fun b39 o40 => CanSet w17 b39 (o40 + (Int.toNat a1)) ∧
 (∀ w41, w41 = w17.setCell ⟨b39, o40 + (Int.toNat a1), none⟩ (.int .i64 (IntKind.i64.wrap (n38 + 1))) →
 (R (.returned (.bool (((IntKind.u64.wrap (BitVec.ofInt IntKind.u64.bits n8 &&& BitVec.ofInt IntKind.u64.bits (IntKind.u64.wrap (1 * 2 ^ min (Int.toNat a1) IntKind.u64.bits))).toNat) : Int) == 0))) w41))))))))) (R (.returned (.bool (((IntKind.u64.wrap (BitVec.ofInt IntKind.u64.bits n8 &&& BitVec.ofInt IntKind.u64.bits (IntKind.u64.wrap (1 * 2 ^ min (Int.toNat a1) IntKind.u64.bits))).toNat) : Int) == 0))) w17))))))))))))))))))
theorem callsCacheCacheTouch (q0 : Nat) (a1 a2 : Int) (a3 : Bool) (R : Ending → 
    World → Prop) (w : World) (h : preCacheCacheTouch q0 a1 a2 a3 R w) : Calls Tryz.prog 240 #[(.pointer (some ⟨q0, 0, none⟩)), (.int .i64 a1), (.int .i64 a2), (.bool a3)] w R :=
  calls_of_sym Tryz.func240 (c := bodyOf Tryz.f240) rfl (Eq.mpr (by kernel_rfl) h)

/-- (*weighlock/cache.Cache).there -/
def preCacheCache_there (q0 : Nat) (a1 a2 : Int) (R : Ending → 
    World → Prop) (w : World) : Prop :=
  Br (decide ((a1 : Int) ≥ 0)) (∃ p0 l1 c2, w.cell? ⟨q0, 1, none⟩ = some (.slice p0 l1 c2) ∧
 (Br (decide ((a1 : Int) < (((l1 : Nat) : Int)))) (Br (decide ((a2 : Int) ≥ 0)) (∃ p3 l4 c5, w.cell? ⟨q0, 0, none⟩ = some (.slice p3 l4 c5) ∧
 (R (.returned (.bool (decide ((a2 : Int) < (((l4 : Nat) : Int)))))) w)) (R (.returned (.bool false)) w)) (R (.returned (.bool false)) w))) (R (.returned (.bool false)) w)
theorem callsCacheCache_there (q0 : Nat) (a1 a2 : Int) (R : Ending → 
    World → Prop) (w : World) (h : preCacheCache_there q0 a1 a2 R w) : Calls Tryz.prog 254 #[(.pointer (some ⟨q0, 0, none⟩)), (.int .i64 a1), (.int .i64 a2)] w R :=
  calls_of_sym Tryz.func254 (c := bodyOf Tryz.f254) rfl (Eq.mpr (by kernel_rfl) h)

/-- (*weighlock/seat.Seats).Probe -/
def preSeatSeatsProbe (q0 : Nat) (a1 : Int) (R : Ending → World → 
    Prop) (w : World) : Prop :=
  ∃ b0, w.cell? ⟨q0, 2, none⟩ = some (.bool b0) ∧ (Br (!b0) (R (.returned (.int .i64 1)) w) (Calls Tryz.prog 277 #[(.pointer (some ⟨q0, 0, none⟩)), (.int .i64 a1)] w (fun e1 w2 =>
 ∃ n3, e1 = .returned (.int .i64 n3) ∧ (Br (n3 == 0) (∃ p4 l5 c6, w2.cell? ⟨q0, 0, none⟩ = some (.slice p4 l5 c6) ∧
 (((0 : Int) ≤ a1 ∧ a1 < ((l5 : Nat) : Int)) ∧ (PtrSome p4 (fun b7 o8 => CanSet w2 b7 (o8 + ((Int.toNat a1)) * 2) ∧
 (∀ w9, w9 = w2.setCell ⟨b7, o8 + ((Int.toNat a1)) * 2, none⟩ (.int .i64 4) → (R (.returned (.int .i64 n3)) w9)))))) (R (.returned (.int .i64 n3)) w2)))))
theorem callsSeatSeatsProbe (q0 : Nat) (a1 : Int) (R : Ending → 
    World → Prop) (w : World) (h : preSeatSeatsProbe q0 a1 R w) : Calls Tryz.prog 275 #[(.pointer (some ⟨q0, 0, none⟩)), (.int .i64 a1)] w R :=
  calls_of_sym Tryz.func275 (c := bodyOf Tryz.f275) rfl (Eq.mpr (by kernel_rfl) h)

/-- (*weighlock/seat.Seats).Unlock -/
def preSeatSeatsUnlock (q0 : Nat) (a1 : Int) (R : Ending → World → 
    Prop) (w : World) : Prop :=
  Calls Tryz.prog 277 #[(.pointer (some ⟨q0, 0, none⟩)), (.int .i64 a1)] w (fun e0 w1 =>
 ∃ n2, e0 = .returned (.int .i64 n2) ∧ (Br (n2 == 0) (∃ p3 l4 c5, w1.cell? ⟨q0, 0, none⟩ = some (.slice p3 l4 c5) ∧
 (((0 : Int) ≤ a1 ∧ a1 < ((l4 : Nat) : Int)) ∧ (PtrSome p3 (fun b6 o7 => CanSet w1 b6 (o7 + ((Int.toNat a1)) * 2) ∧
 (∀ w8, w8 = w1.setCell ⟨b6, o7 + ((Int.toNat a1)) * 2, none⟩ (.int .i64 3) → (R (.returned (.int .i64 n2)) w8)))))) (R (.returned (.int .i64 n2)) w1)))
theorem callsSeatSeatsUnlock (q0 : Nat) (a1 : Int) (R : Ending → 
    World → Prop) (w : World) (h : preSeatSeatsUnlock q0 a1 R w) : Calls Tryz.prog 276 #[(.pointer (some ⟨q0, 0, none⟩)), (.int .i64 a1)] w R :=
  calls_of_sym Tryz.func276 (c := bodyOf Tryz.f276) rfl (Eq.mpr (by kernel_rfl) h)

/-- (*weighlock/seat.Seats).holds -/
def preSeatSeats_holds (q0 : Nat) (a1 : Int) (R : Ending → World → 
    Prop) (w : World) : Prop :=
  Calls Tryz.prog 137 #[(.pointer (some ⟨q0, 0, none⟩)), (.int .i64 a1)] w (fun e0 w1 =>
 ∃ b2, e0 = .returned (.bool b2) ∧ (Br (!b2) (R (.returned (.int .i64 1)) w1) (∃ p3 l4 c5, w1.cell? ⟨q0, 0, none⟩ = some (.slice p3 l4 c5) ∧
 (((0 : Int) ≤ a1 ∧ a1 < ((l4 : Nat) : Int)) ∧ (PtrSome p3 (fun b6 o7 => ∃ n8, w1.cell? ⟨b6, o7 + ((Int.toNat a1)) * 2, none⟩ = some (.int .i64 n8) ∧
 (Br (n8 == 0) (R (.returned (.int .i64 3)) w1) (∃ p9 l10 c11, w1.cell? ⟨q0, 0, none⟩ = some (.slice p9 l10 c11) ∧
 (((0 : Int) ≤ a1 ∧ a1 < ((l10 : Nat) : Int)) ∧ (PtrSome p9 (fun b12 o13 => ∃ n14, w1.cell? ⟨b12, o13 + ((Int.toNat a1)) * 2, none⟩ = some (.int .i64 n14) ∧
 (Br (n14 != 2) (R (.returned (.int .i64 2)) w1) (R (.returned (.int .i64 0)) w1)))))))))))))
theorem callsSeatSeats_holds (q0 : Nat) (a1 : Int) (R : Ending → 
    World → Prop) (w : World) (h : preSeatSeats_holds q0 a1 R w) : Calls Tryz.prog 277 #[(.pointer (some ⟨q0, 0, none⟩)), (.int .i64 a1)] w R :=
  calls_of_sym Tryz.func277 (c := bodyOf Tryz.f277) rfl (Eq.mpr (by kernel_rfl) h)

/-- (*weighlock/port.Port).Add -/
def prePortPortAdd (q0 : Nat) (a1 a2 a3 : Int) (R : Ending → 
    World → Prop) (w : World) : Prop :=
  Calls Tryz.prog 214 #[(.pointer (some ⟨q0, 0, none⟩)), (.int .i64 a1), (.int .i64 a2), (.bool true)] w (fun e0 w1 =>
 ∃ b2, e0 = .returned (.bool b2) ∧ (Br (!b2) (R (.returned (.int .u32 0)) w1) (∃ p3, w1.cell? ⟨q0, 0, none⟩ = some (.pointer p3) ∧
 (Calls Tryz.prog 292 #[(.pointer p3), (.int .i64 a2), (.int .u32 a3)] w1 (fun e4 w5 =>
 ∃ n6, e4 = .returned (.int .u32 n6) ∧ (R (.returned (.int .u32 n6)) w5))))))
theorem callsPortPortAdd (q0 : Nat) (a1 a2 a3 : Int) (R : Ending → 
    World → Prop) (w : World) (h : prePortPortAdd q0 a1 a2 a3 R w) : Calls Tryz.prog 291 #[(.pointer (some ⟨q0, 0, none⟩)), (.int .i64 a1), (.int .i64 a2), (.int .u32 a3)] w R :=
  calls_of_sym Tryz.func291 (c := bodyOf Tryz.f291) rfl (Eq.mpr (by kernel_rfl) h)

/-- (*weighlock/mem.Mem).Add -/
def preMemMemAdd (q0 : Nat) (a1 a2 : Int) (R : Ending → World → 
    Prop) (w : World) : Prop :=
  Calls Tryz.prog 97 #[(.pointer (some ⟨q0, 0, none⟩)), (.int .i64 a1)] w (fun e0 w1 =>
 ∃ p2, e0 = .returned (.pointer p2) ∧ (Br (!(Option.isNone p2)) (Calls Tryz.prog 293 #[(.pointer p2), (.int .u32 a2)] w1 (fun e3 w4 =>
 ∃ n5, e3 = .returned (.int .u32 n5) ∧ (R (.returned (.int .u32 (IntKind.u32.wrap (n5 - a2)))) w4))) (R (.returned (.int .u32 0)) w1)))
theorem callsMemMemAdd (q0 : Nat) (a1 a2 : Int) (R : Ending → 
    World → Prop) (w : World) (h : preMemMemAdd q0 a1 a2 R w) : Calls Tryz.prog 292 #[(.pointer (some ⟨q0, 0, none⟩)), (.int .i64 a1), (.int .u32 a2)] w R :=
  calls_of_sym Tryz.func292 (c := bodyOf Tryz.f292) rfl (Eq.mpr (by kernel_rfl) h)

/-- (*sync/atomic.Uint32).Add -/
def preSyncAtomicUint32Add (q0 qo0 : Nat) (a1 : Int) (R : Ending → World → 
    Prop) (w : World) : Prop :=
  ExtCall Tryz.prog 294 #[(.pointer (some ⟨q0, qo0, none⟩)), (.int .u32 a1)] w (fun e0 w1 =>
 ∃ n2, e0 = .returned (.int .u32 n2) ∧ (R (.returned (.int .u32 n2)) w1))
theorem callsSyncAtomicUint32Add (q0 qo0 : Nat) (a1 : Int) (R : Ending → 
    World → Prop) (w : World) (h : preSyncAtomicUint32Add q0 qo0 a1 R w) : Calls Tryz.prog 293 #[(.pointer (some ⟨q0, qo0, none⟩)), (.int .u32 a1)] w R :=
  calls_of_sym Tryz.func293 (c := bodyOf Tryz.f293) rfl (Eq.mpr (by kernel_rfl) h)

/-- (*weighlock/port.Port).Swap -/
def prePortPortSwap (q0 : Nat) (a1 a2 a3 : Int) (R : Ending → 
    World → Prop) (w : World) : Prop :=
  Calls Tryz.prog 214 #[(.pointer (some ⟨q0, 0, none⟩)), (.int .i64 a1), (.int .i64 a2), (.bool true)] w (fun e0 w1 =>
 ∃ b2, e0 = .returned (.bool b2) ∧ (Br (!b2) (R (.returned (.int .u32 0)) w1) (∃ p3, w1.cell? ⟨q0, 0, none⟩ = some (.pointer p3) ∧
 (Calls Tryz.prog 300 #[(.pointer p3), (.int .i64 a2), (.int .u32 a3)] w1 (fun e4 w5 =>
 ∃ n6, e4 = .returned (.int .u32 n6) ∧ (R (.returned (.int .u32 n6)) w5))))))
theorem callsPortPortSwap (q0 : Nat) (a1 a2 a3 : Int) (R : Ending → 
    World → Prop) (w : World) (h : prePortPortSwap q0 a1 a2 a3 R w) : Calls Tryz.prog 299 #[(.pointer (some ⟨q0, 0, none⟩)), (.int .i64 a1), (.int .i64 a2), (.int .u32 a3)] w R :=
  calls_of_sym Tryz.func299 (c := bodyOf Tryz.f299) rfl (Eq.mpr (by kernel_rfl) h)

/-- (*weighlock/mem.Mem).Swap -/
def preMemMemSwap (q0 : Nat) (a1 a2 : Int) (R : Ending → World → 
    Prop) (w : World) : Prop :=
  Calls Tryz.prog 97 #[(.pointer (some ⟨q0, 0, none⟩)), (.int .i64 a1)] w (fun e0 w1 =>
 ∃ p2, e0 = .returned (.pointer p2) ∧ (Br (!(Option.isNone p2)) (Calls Tryz.prog 301 #[(.pointer p2), (.int .u32 a2)] w1 (fun e3 w4 =>
 ∃ n5, e3 = .returned (.int .u32 n5) ∧ (R (.returned (.int .u32 n5)) w4))) (R (.returned (.int .u32 0)) w1)))
theorem callsMemMemSwap (q0 : Nat) (a1 a2 : Int) (R : Ending → 
    World → Prop) (w : World) (h : preMemMemSwap q0 a1 a2 R w) : Calls Tryz.prog 300 #[(.pointer (some ⟨q0, 0, none⟩)), (.int .i64 a1), (.int .u32 a2)] w R :=
  calls_of_sym Tryz.func300 (c := bodyOf Tryz.f300) rfl (Eq.mpr (by kernel_rfl) h)

/-- (*sync/atomic.Uint32).Swap -/
def preSyncAtomicUint32Swap (q0 qo0 : Nat) (a1 : Int) (R : Ending → 
    World → Prop) (w : World) : Prop :=
  ExtCall Tryz.prog 302 #[(.pointer (some ⟨q0, qo0, none⟩)), (.int .u32 a1)] w (fun e0 w1 =>
 ∃ n2, e0 = .returned (.int .u32 n2) ∧ (R (.returned (.int .u32 n2)) w1))
theorem callsSyncAtomicUint32Swap (q0 qo0 : Nat) (a1 : Int) (R : Ending → 
    World → Prop) (w : World) (h : preSyncAtomicUint32Swap q0 qo0 a1 R w) : Calls Tryz.prog 301 #[(.pointer (some ⟨q0, qo0, none⟩)), (.int .u32 a1)] w R :=
  calls_of_sym Tryz.func301 (c := bodyOf Tryz.f301) rfl (Eq.mpr (by kernel_rfl) h)

/-- (*weighlock/port.Port).Cas -/
def prePortPortCas (q0 : Nat) (a1 a2 : Int) (a3 a4 : Int) (R : Ending → 
    World → Prop) (w : World) : Prop :=
  Calls Tryz.prog 214 #[(.pointer (some ⟨q0, 0, none⟩)), (.int .i64 a1), (.int .i64 a2), (.bool true)] w (fun e0 w1 =>
 ∃ b2, e0 = .returned (.bool b2) ∧ (Br b2 (∃ p3, w1.cell? ⟨q0, 0, none⟩ = some (.pointer p3) ∧
 (Calls Tryz.prog 309 #[(.pointer p3), (.int .i64 a2), (.int .u32 a3), (.int .u32 a4)] w1 (fun e4 w5 =>
 ∃ b6, e4 = .returned (.bool b6) ∧ (R (.returned (.bool b6)) w5)))) (R (.returned (.bool false)) w1)))
theorem callsPortPortCas (q0 : Nat) (a1 a2 : Int) (a3 a4 : Int) (R : Ending → 
    World → Prop) (w : World) (h : prePortPortCas q0 a1 a2 a3 a4 R w) : Calls Tryz.prog 308 #[(.pointer (some ⟨q0, 0, none⟩)), (.int .i64 a1), (.int .i64 a2), (.int .u32 a3), (.int .u32 a4)] w R :=
  calls_of_sym Tryz.func308 (c := bodyOf Tryz.f308) rfl (Eq.mpr (by kernel_rfl) h)

/-- (*weighlock/mem.Mem).Cas -/
def preMemMemCas (q0 : Nat) (a1 a2 a3 : Int) (R : Ending → 
    World → Prop) (w : World) : Prop :=
  Calls Tryz.prog 97 #[(.pointer (some ⟨q0, 0, none⟩)), (.int .i64 a1)] w (fun e0 w1 =>
 ∃ p2, e0 = .returned (.pointer p2) ∧ (Br (!(Option.isNone p2)) (Calls Tryz.prog 310 #[(.pointer p2), (.int .u32 a2), (.int .u32 a3)] w1 (fun e3 w4 =>
 ∃ b5, e3 = .returned (.bool b5) ∧ (R (.returned (.bool b5)) w4))) (R (.returned (.bool false)) w1)))
theorem callsMemMemCas (q0 : Nat) (a1 a2 a3 : Int) (R : Ending → 
    World → Prop) (w : World) (h : preMemMemCas q0 a1 a2 a3 R w) : Calls Tryz.prog 309 #[(.pointer (some ⟨q0, 0, none⟩)), (.int .i64 a1), (.int .u32 a2), (.int .u32 a3)] w R :=
  calls_of_sym Tryz.func309 (c := bodyOf Tryz.f309) rfl (Eq.mpr (by kernel_rfl) h)

/-- (*sync/atomic.Uint32).CompareAndSwap -/
def preSyncAtomicUint32CompareAndSwap (q0 qo0 : Nat) (a1 a2 : Int) (R : Ending → 
    World → Prop) (w : World) : Prop :=
  ExtCall Tryz.prog 311 #[(.pointer (some ⟨q0, qo0, none⟩)), (.int .u32 a1), (.int .u32 a2)] w (fun e0 w1 =>
 ∃ b2, e0 = .returned (.bool b2) ∧ (R (.returned (.bool b2)) w1))
theorem callsSyncAtomicUint32CompareAndSwap (q0 qo0 : Nat) (a1 a2 : Int) (R : Ending → 
    World → Prop) (w : World) (h : preSyncAtomicUint32CompareAndSwap q0 qo0 a1 a2 R w) : Calls Tryz.prog 310 #[(.pointer (some ⟨q0, qo0, none⟩)), (.int .u32 a1), (.int .u32 a2)] w R :=
  calls_of_sym Tryz.func310 (c := bodyOf Tryz.f310) rfl (Eq.mpr (by kernel_rfl) h)

/-- (*weighlock/seat.Seats).Deadline -/
def preSeatSeatsDeadline (q0 : Nat) (a1 : Int) (R : Ending → 
    World → Prop) (w : World) : Prop :=
  Calls Tryz.prog 137 #[(.pointer (some ⟨q0, 0, none⟩)), (.int .i64 a1)] w (fun e0 w1 =>
 ∃ b2, e0 = .returned (.bool b2) ∧ (Br (!b2) (R (.returned (.int .i64 ((-1)))) w1) (∃ p3 l4 c5, w1.cell? ⟨q0, 0, none⟩ = some (.slice p3 l4 c5) ∧
 (((0 : Int) ≤ a1 ∧ a1 < ((l4 : Nat) : Int)) ∧ (PtrSome p3 (fun b6 o7 => ∃ n8, w1.cell? ⟨b6, o7 + ((Int.toNat a1)) * 2 + 1, none⟩ = some (.int .i64 n8) ∧
 (R (.returned (.int .i64 n8)) w1)))))))
theorem callsSeatSeatsDeadline (q0 : Nat) (a1 : Int) (R : Ending → 
    World → Prop) (w : World) (h : preSeatSeatsDeadline q0 a1 R w) : Calls Tryz.prog 318 #[(.pointer (some ⟨q0, 0, none⟩)), (.int .i64 a1)] w R :=
  calls_of_sym Tryz.func318 (c := bodyOf Tryz.f318) rfl (Eq.mpr (by kernel_rfl) h)

/-- weighlock/pack.Cluster -/
def prePackCluster (a0 : Int) (R : Ending → World → Prop) (w : World) : Prop :=
  (4 : Int) ≠ 0 ∧
 (R (.returned (.int .i64 (IntKind.i64.wrap (IntKind.u32.wrap (Int.tdiv a0 4))))) w)
theorem callsPackCluster (a0 : Int) (R : Ending → 
    World → Prop) (w : World) (h : prePackCluster a0 R w) : Calls Tryz.prog 329 #[(.int .u32 a0)] w R :=
  calls_of_sym Tryz.func329 (c := bodyOf Tryz.f329) rfl (Eq.mpr (by kernel_rfl) h)

/-- weighlock/pack.Spliced -/
def prePackSpliced (a0 : Int) (R : Ending → World → Prop) (w : World) : Prop :=
  R (.returned (.bool (((IntKind.u32.wrap (BitVec.ofInt IntKind.u32.bits a0 &&& BitVec.ofInt IntKind.u32.bits 1).toNat) : Int) != 0))) w
theorem callsPackSpliced (a0 : Int) (R : Ending → 
    World → Prop) (w : World) (h : prePackSpliced a0 R w) : Calls Tryz.prog 330 #[(.int .u32 a0)] w R :=
  calls_of_sym Tryz.func330 (c := bodyOf Tryz.f330) rfl (Eq.mpr (by kernel_rfl) h)

/-- weighlock/pack.Waits -/
def prePackWaits (a0 : Int) (R : Ending → World → Prop) (w : World) : Prop :=
  R (.returned (.bool (((IntKind.u32.wrap (BitVec.ofInt IntKind.u32.bits a0 &&& BitVec.ofInt IntKind.u32.bits 2).toNat) : Int) != 0))) w
theorem callsPackWaits (a0 : Int) (R : Ending → 
    World → Prop) (w : World) (h : prePackWaits a0 R w) : Calls Tryz.prog 331 #[(.int .u32 a0)] w R :=
  calls_of_sym Tryz.func331 (c := bodyOf Tryz.f331) rfl (Eq.mpr (by kernel_rfl) h)

/-- weighlock/pack.Splice -/
def prePackSplice (a0 : Int) (R : Ending → World → Prop) (w : World) : Prop :=
  R (.returned (.int .u32 (IntKind.u32.wrap (BitVec.ofInt IntKind.u32.bits a0 ||| BitVec.ofInt IntKind.u32.bits 1).toNat))) w
theorem callsPackSplice (a0 : Int) (R : Ending → 
    World → Prop) (w : World) (h : prePackSplice a0 R w) : Calls Tryz.prog 333 #[(.int .u32 a0)] w R :=
  calls_of_sym Tryz.func333 (c := bodyOf Tryz.f333) rfl (Eq.mpr (by kernel_rfl) h)

/-- weighlock/pack.Free -/
def prePackFree (a0 : Int) (R : Ending → World → Prop) (w : World) : Prop :=
  R (.returned (.int .u32 (IntKind.u32.wrap (BitVec.ofInt IntKind.u32.bits a0 &&& ~~~BitVec.ofInt IntKind.u32.bits 2).toNat))) w
theorem callsPackFree (a0 : Int) (R : Ending → 
    World → Prop) (w : World) (h : prePackFree a0 R w) : Calls Tryz.prog 334 #[(.int .u32 a0)] w R :=
  calls_of_sym Tryz.func334 (c := bodyOf Tryz.f334) rfl (Eq.mpr (by kernel_rfl) h)

end Go.Proofs.YtollfjfcdofbaaaGreat
