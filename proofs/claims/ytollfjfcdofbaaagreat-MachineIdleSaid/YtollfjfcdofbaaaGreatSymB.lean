/- What the functions of the program come to, as Props over the world's cells, printed by a program of this session (Gen.lean); the kernel holds each against the engine's own. -/
import Derived.Test.YtollfjfcdofbaaaGreatProg
import Derived.Test.YtollfjfcdofbaaaGreatEng6
import Derived.KernelRfl
namespace Go.Proofs.YtollfjfcdofbaaaGreat
open Go Go.Proofs
set_option maxRecDepth 100000
set_option linter.unusedVariables false
/-- slices.ContainsFunc[[]int,int] -/
def preSlicesContainsFuncIntInt (a0p : Option Addr) (a0l a0c : Nat) (a1 : Value) (R : Ending → 
    World → Prop) (w : World) : Prop :=
  Calls Tryz.prog 141 #[(.slice a0p a0l a0c), a1] w (fun e0 w1 =>
 ∃ n2, e0 = .returned (.int .i64 n2) ∧ (R (.returned (.bool (decide (n2 ≥ 0)))) w1))
theorem callsSlicesContainsFuncIntInt (a0p : Option Addr) (a0l a0c : Nat) (a1 : Value) (R : Ending → 
    World → Prop) (w : World) (h : preSlicesContainsFuncIntInt a0p a0l a0c a1 R w) : Calls Tryz.prog 87 #[(.slice a0p a0l a0c), a1] w R :=
  calls_of_sym Tryz.func87 (c := bodyOf Tryz.f87) rfl (Eq.mpr (by kernel_rfl) h)

/-- slices.Contains[[]int,int] -/
def preSlicesContainsIntInt (a0p : Option Addr) (a0l a0c : Nat) (a1 : Int) (R : Ending → 
    World → Prop) (w : World) : Prop :=
  Calls Tryz.prog 142 #[(.slice a0p a0l a0c), (.int .i64 a1)] w (fun e0 w1 =>
 ∃ n2, e0 = .returned (.int .i64 n2) ∧ (R (.returned (.bool (decide (n2 ≥ 0)))) w1))
theorem callsSlicesContainsIntInt (a0p : Option Addr) (a0l a0c : Nat) (a1 : Int) (R : Ending → 
    World → Prop) (w : World) (h : preSlicesContainsIntInt a0p a0l a0c a1 R w) : Calls Tryz.prog 89 #[(.slice a0p a0l a0c), (.int .i64 a1)] w R :=
  calls_of_sym Tryz.func89 (c := bodyOf Tryz.f89) rfl (Eq.mpr (by kernel_rfl) h)

/-- slices.IndexFunc[[]int,int] -/
def preSlicesIndexFuncIntInt (a0p : Option Addr) (a0l a0c : Nat) (a1 : Value) (R : Ending → 
    World → Prop) (w : World) : Prop :=
  ∃ (I0 : Int → Int → World → Prop) (μ1 : Int → Int → World → Nat), I0 0 0 w ∧
 ∀ (_g2 : Nat → Value) (w3 : World) (n4 : Int) (n5 : Int), I0 n4 n5 w3 → (Br (decide (n5 < (((a0l : Nat) : Int)))) (((0 : Int) ≤ n5 ∧
 n5 < ((a0l : Nat) : Int)) ∧ (PtrSome a0p (fun b6 o7 => ∃ n8, w3.cell? ⟨b6, o7 + (Int.toNat n5), none⟩ = some (.int .i64 n8) ∧
 (CallV Tryz.prog a1 [(.int .i64 n8)] (fun e9 w10 => ∃ b11, e9 = .returned (.bool b11) ∧
 (Br b11 (R (.returned (.int .i64 n5)) w10) (I0 n4 (IntKind.i64.wrap (n5 + 1)) w10 ∧ μ1 n4 (IntKind.i64.wrap (n5 + 1)) w10 < μ1 n4 n5 w3))) w3)))) (R (.returned (.int .i64 ((-1)))) w3))
theorem callsSlicesIndexFuncIntInt (a0p : Option Addr) (a0l a0c : Nat) (a1 : Value) (R : Ending → 
    World → Prop) (w : World) (h : preSlicesIndexFuncIntInt a0p a0l a0c a1 R w) : Calls Tryz.prog 141 #[(.slice a0p a0l a0c), a1] w R :=
  calls_of_sym Tryz.func141 (c := bodyOf Tryz.f141) rfl (Eq.mpr (by kernel_rfl) h)

/-- slices.Index[[]int,int] -/
def preSlicesIndexIntInt (a0p : Option Addr) (a0l a0c : Nat) (a1 : Int) (R : Ending → 
    World → Prop) (w : World) : Prop :=
  ∃ (I0 : Int → Int → World → Prop) (μ1 : Int → Int → World → Nat), I0 0 0 w ∧
 ∀ (_g2 : Nat → Value) (w3 : World) (n4 : Int) (n5 : Int), I0 n4 n5 w3 → (Br (decide (n5 < (((a0l : Nat) : Int)))) (((0 : Int) ≤ n5 ∧
 n5 < ((a0l : Nat) : Int)) ∧ (PtrSome a0p (fun b6 o7 => ∃ n8, w3.cell? ⟨b6, o7 + (Int.toNat n5), none⟩ = some (.int .i64 n8) ∧
 (Br ((a1 : Int) == n8) (R (.returned (.int .i64 n5)) w3) (I0 n4 (IntKind.i64.wrap (n5 + 1)) w3 ∧ μ1 n4 (IntKind.i64.wrap (n5 + 1)) w3 < μ1 n4 n5 w3))))) (R (.returned (.int .i64 ((-1)))) w3))
theorem callsSlicesIndexIntInt (a0p : Option Addr) (a0l a0c : Nat) (a1 : Int) (R : Ending → 
    World → Prop) (w : World) (h : preSlicesIndexIntInt a0p a0l a0c a1 R w) : Calls Tryz.prog 142 #[(.slice a0p a0l a0c), (.int .i64 a1)] w R :=
  calls_of_sym Tryz.func142 (c := bodyOf Tryz.f142) rfl (Eq.mpr (by kernel_rfl) h)

/-- weighlock/flat.New -/
def preFlatNew (q0 : Nat) (a1p : Option Addr) (a1l a1c : Nat) (a2 : Int) (R : Ending → 
    World → Prop) (w : World) : Prop :=
  Calls Tryz.prog 86 #[(.int .i64 (((a1l : Nat) : Int))), (.bool false), (.bool true)] w (fun e0 w1 =>
 ∃ p2 n3, e0 = .returned (.tuple #[(.pointer p2), (.int .i64 n3)]) ∧ (Br (n3 != 0) (R (.returned (.tuple #[(.pointer none), (.int .i64 1)])) w1) (Calls Tryz.prog 87 #[(.slice a1p a1l a1c), (.func (.func 180) #[] #[])] w1 (fun e4 w5 =>
 ∃ b6, e4 = .returned (.bool b6) ∧ (Br b6 (R (.returned (.tuple #[(.pointer none), (.int .i64 1)])) w5) (∀ w7, w7 = w5.drew →
 ((((0 : Int) ≤ (((a1l : Nat) : Int)) ∧ (((a1l : Nat) : Int)) ≤ (((a1l : Nat) : Int)) ∧ ((4 : Nat) : Int) * (((a1l : Nat) : Int)) ≤ 281474976710656 ∧
 (((a1l : Nat) : Int)) ≤ 9223372036854775807) ∧ (∀ w8, w8 = w7.alloc (.cells (madeCells #[(.int .u32 0)] ((Int.toNat (((a1l : Nat) : Int))))) 29) →
 (((0 : Int) ≤ (((a1l : Nat) : Int)) ∧ (((a1l : Nat) : Int)) ≤ (((a1l : Nat) : Int)) ∧ ((1 : Nat) : Int) * (((a1l : Nat) : Int)) ≤ 281474976710656 ∧
 (((a1l : Nat) : Int)) ≤ 9223372036854775807) ∧ (∀ w9, w9 = w8.alloc (.cells (madeCells #[(.bool false)] ((Int.toNat (((a1l : Nat) : Int))))) 4) →
 (∀ w10, w10 = w9.alloc (.cells #[(.pointer p2), (.pointer none), (.int .i64 0), (.int .i64 0), (.slice (some ⟨w7.heap.size, 0, none⟩) ((Int.toNat (((a1l : Nat) : Int)))) ((Int.toNat (((a1l : Nat) : Int))))), (.slice (some ⟨w8.heap.size, 0, none⟩) ((Int.toNat (((a1l : Nat) : Int)))) ((Int.toNat (((a1l : Nat) : Int)))))] 313) →
 (∀ w11, w11 = w10.drew → (((0 : Int) ≤ 0 ∧ 0 < ((a1l : Nat) : Int)) ∧ (PtrSome a1p (fun b12 o13 =>
 ∃ n14, w11.cell? ⟨b12, o13, none⟩ = some (.int .i64 n14) ∧ (((0 : Int) ≤ 0 ∧ 0 < ((a1l : Nat) : Int)) ∧
 (PtrSome a1p (fun b15 o16 => ∃ n17, w11.cell? ⟨b15, o16, none⟩ = some (.int .i64 n17) ∧ (Calls Tryz.prog 90 #[(.pointer (some ⟨q0, 0, none⟩)), (.int .i64 n14), (.int .u32 a2)] w11 (fun e18 w19 =>
 ∃ n20, e18 = .returned (.int .i64 n20) ∧ ((w19.cell? ⟨b15, o16, none⟩ = some (.int .i64 n17)) ∧
 (Calls Tryz.prog 90 #[(.pointer (some ⟨q0, 0, none⟩)), (.int .i64 n17), (.int .u32 a2)] w19 (fun e21 w22 =>
 ∃ n23, e21 = .returned (.int .i64 n23) ∧ (CanSet w22 w9.heap.size 2 ∧ (∀ w24, w24 = w22.setCell ⟨w9.heap.size, 2, none⟩ (.int .i64 n20) →
 (CanSet w24 w9.heap.size 3 ∧ (∀ w25, w25 = w24.setCell ⟨w9.heap.size, 3, none⟩ (.int .i64 n23) →
 (R (.returned (.tuple #[(.pointer (some ⟨w9.heap.size, 0, none⟩)), (.int .i64 0)])) w25)))))))))))))))))))))) ∧
 (((0 : Int) ≤ (((a1l : Nat) : Int)) ∧ (((a1l : Nat) : Int)) ≤ (((a1l : Nat) : Int)) ∧ ((1 : Nat) : Int) * (((a1l : Nat) : Int)) ≤ 281474976710656 ∧
 (((a1l : Nat) : Int)) ≤ 9223372036854775807) ∧ (∀ w26, w26 = w7.alloc (.cells (madeCells #[(.bool false)] ((Int.toNat (((a1l : Nat) : Int))))) 4) →
 (((0 : Int) ≤ (((a1l : Nat) : Int)) ∧ (((a1l : Nat) : Int)) ≤ (((a1l : Nat) : Int)) ∧ ((4 : Nat) : Int) * (((a1l : Nat) : Int)) ≤ 281474976710656 ∧
 (((a1l : Nat) : Int)) ≤ 9223372036854775807) ∧ (∀ w27, w27 = w26.alloc (.cells (madeCells #[(.int .u32 0)] ((Int.toNat (((a1l : Nat) : Int))))) 29) →
 (∀ w28, w28 = w27.alloc (.cells #[(.pointer p2), (.pointer none), (.int .i64 0), (.int .i64 0), (.slice (some ⟨w26.heap.size, 0, none⟩) ((Int.toNat (((a1l : Nat) : Int)))) ((Int.toNat (((a1l : Nat) : Int))))), (.slice (some ⟨w7.heap.size, 0, none⟩) ((Int.toNat (((a1l : Nat) : Int)))) ((Int.toNat (((a1l : Nat) : Int)))))] 313) →
 (∀ w29, w29 = w28.drew → (((0 : Int) ≤ 0 ∧ 0 < ((a1l : Nat) : Int)) ∧ (PtrSome a1p (fun b30 o31 =>
 ∃ n32, w29.cell? ⟨b30, o31, none⟩ = some (.int .i64 n32) ∧ (((0 : Int) ≤ 0 ∧ 0 < ((a1l : Nat) : Int)) ∧
 (PtrSome a1p (fun b33 o34 => ∃ n35, w29.cell? ⟨b33, o34, none⟩ = some (.int .i64 n35) ∧ (Calls Tryz.prog 90 #[(.pointer (some ⟨q0, 0, none⟩)), (.int .i64 n32), (.int .u32 a2)] w29 (fun e36 w37 =>
 ∃ n38, e36 = .returned (.int .i64 n38) ∧ ((w37.cell? ⟨b33, o34, none⟩ = some (.int .i64 n35)) ∧
 (Calls Tryz.prog 90 #[(.pointer (some ⟨q0, 0, none⟩)), (.int .i64 n35), (.int .u32 a2)] w37 (fun e39 w40 =>
 ∃ n41, e39 = .returned (.int .i64 n41) ∧ (CanSet w40 w27.heap.size 2 ∧ (∀ w42, w42 = w40.setCell ⟨w27.heap.size, 2, none⟩ (.int .i64 n38) →
 (CanSet w42 w27.heap.size 3 ∧ (∀ w43, w43 = w42.setCell ⟨w27.heap.size, 3, none⟩ (.int .i64 n41) →
 (R (.returned (.tuple #[(.pointer (some ⟨w27.heap.size, 0, none⟩)), (.int .i64 0)])) w43)))))))))))))))))))))))))))))
theorem callsFlatNew (q0 : Nat) (a1p : Option Addr) (a1l a1c : Nat) (a2 : Int) (R : Ending → 
    World → Prop) (w : World) (h : preFlatNew q0 a1p a1l a1c a2 R w) : Calls Tryz.prog 143 #[(.pointer (some ⟨q0, 0, none⟩)), (.slice a1p a1l a1c), (.int .u32 a2)] w R :=
  calls_of_sym Tryz.func143 (c := bodyOf Tryz.f143) rfl (Eq.mpr (by kernel_rfl) h)

/-- weighlock/clh.New -/
def preClhNew (q0 : Nat) (a1p : Option Addr) (a1l a1c : Nat) (R : Ending → World → 
    Prop) (w : World) : Prop :=
  Calls Tryz.prog 86 #[(.int .i64 (((a1l : Nat) : Int))), (.bool false), (.bool true)] w (fun e0 w1 =>
 ∃ p2 n3, e0 = .returned (.tuple #[(.pointer p2), (.int .i64 n3)]) ∧ (Br (n3 != 0) (R (.returned (.tuple #[(.pointer none), (.int .i64 1)])) w1) (Calls Tryz.prog 87 #[(.slice a1p a1l a1c), (.func (.func 181) #[] #[])] w1 (fun e4 w5 =>
 ∃ b6, e4 = .returned (.bool b6) ∧ (Br b6 (R (.returned (.tuple #[(.pointer none), (.int .i64 1)])) w5) (((0 : Int) ≤ 0 ∧
 0 < ((a1l : Nat) : Int)) ∧ (PtrSome a1p (fun b7 o8 => ∃ n9, w5.cell? ⟨b7, o8, none⟩ = some (.int .i64 n9) ∧
 (Calls Tryz.prog 90 #[(.pointer (some ⟨q0, 0, none⟩)), (.int .i64 n9), (.int .u32 0)] w5 (fun e10 w11 =>
 ∃ n12, e10 = .returned (.int .i64 n12) ∧ (∀ w13, w13 = w11.alloc (.cells #[(.pointer p2), (.pointer none), (.int .i64 n12), (.slice none 0 0)] 316) →
 (((0 : Int) ≤ 0 ∧ 0 < ((a1l : Nat) : Int)) ∧ (PtrSome a1p (fun b14 o15 => ∃ n16, w13.cell? ⟨b14, o15, none⟩ = some (.int .i64 n16) ∧
 (Calls Tryz.prog 90 #[(.pointer (some ⟨q0, 0, none⟩)), (.int .i64 n16), (.int .u32 0)] w13 (fun e17 w18 =>
 ∃ n19, e17 = .returned (.int .i64 n19) ∧ (∃ (I20 : Int → World → Prop) (μ21 : Int → World →
 Nat), I20 0 w18 ∧ ∀ (_g22 : Nat → Value) (w23 : World) (n24 : Int), I20 n24 w23 → (Br (decide (n24 < (((a1l : Nat) : Int)))) (((0 : Int) ≤ n24 ∧
 n24 < ((a1l : Nat) : Int)) ∧ (PtrSome a1p (fun b25 o26 => ∃ n27, w23.cell? ⟨b25, o26 + (Int.toNat n24), none⟩ = some (.int .i64 n27) ∧
 (Calls Tryz.prog 90 #[(.pointer (some ⟨q0, 0, none⟩)), (.int .i64 n27), (.int .u32 0)] w23 (fun e28 w29 =>
 ∃ n30, e28 = .returned (.int .i64 n30) ∧ (∃ p31 l32 c33, w29.cell? ⟨w11.heap.size, 3, none⟩ = some (.slice p31 l32 c33) ∧
 (∀ w34, w34 = w29.alloc (.cells #[(.int .i64 (IntKind.i64.wrap (n24 + 1))), (.int .i64 0), (.int .i64 0)] 318) →
 (AppQ Tryz.prog #[314, 314] 314 #[(.slice p31 l32 c33), (.slice (some ⟨w29.heap.size, 0, none⟩) 1 1)] w34 (fun p35 l36 c37 w38 =>
 CanSet w38 w11.heap.size 3 ∧ (∀ w39, w39 = w38.setCell ⟨w11.heap.size, 3, none⟩ (.slice p35 l36 c37) →
 (I20 (IntKind.i64.wrap (n24 + 1)) w39 ∧ μ21 (IntKind.i64.wrap (n24 + 1)) w39 < μ21 n24 w23))))))))))) (R (.returned (.tuple #[(.pointer (some ⟨w11.heap.size, 0, none⟩)), (.int .i64 0)])) w23)))))))))))))))))))
theorem callsClhNew (q0 : Nat) (a1p : Option Addr) (a1l a1c : Nat) (R : Ending → 
    World → Prop) (w : World) (h : preClhNew q0 a1p a1l a1c R w) : Calls Tryz.prog 144 #[(.pointer (some ⟨q0, 0, none⟩)), (.slice a1p a1l a1c)] w R :=
  calls_of_sym Tryz.func144 (c := bodyOf Tryz.f144) rfl (Eq.mpr (by kernel_rfl) h)

/-- weighlock/mcs.New -/
def preMcsNew (q0 : Nat) (a1p : Option Addr) (a1l a1c : Nat) (R : Ending → World → 
    Prop) (w : World) : Prop :=
  Calls Tryz.prog 86 #[(.int .i64 (((a1l : Nat) : Int))), (.bool false), (.bool true)] w (fun e0 w1 =>
 ∃ p2 n3, e0 = .returned (.tuple #[(.pointer p2), (.int .i64 n3)]) ∧ (Br (n3 != 0) (R (.returned (.tuple #[(.pointer none), (.int .i64 1)])) w1) (Calls Tryz.prog 87 #[(.slice a1p a1l a1c), (.func (.func 182) #[] #[])] w1 (fun e4 w5 =>
 ∃ b6, e4 = .returned (.bool b6) ∧ (Br b6 (R (.returned (.tuple #[(.pointer none), (.int .i64 1)])) w5) (∀ w7, w7 = w5.drew →
 (((0 : Int) ≤ 0 ∧ 0 < ((a1l : Nat) : Int)) ∧ (PtrSome a1p (fun b8 o9 => ∃ n10, w7.cell? ⟨b8, o9, none⟩ = some (.int .i64 n10) ∧
 ((Calls Tryz.prog 90 #[(.pointer (some ⟨q0, 0, none⟩)), (.int .i64 n10), (.int .u32 0)] w7 (fun e11 w12 =>
 ∃ n13, e11 = .returned (.int .i64 n13) ∧ (((0 : Int) ≤ (((a1l : Nat) : Int)) ∧ (((a1l : Nat) : Int)) ≤ (((a1l : Nat) : Int)) ∧
 ((16 : Nat) : Int) * (((a1l : Nat) : Int)) ≤ 281474976710656 ∧ (((a1l : Nat) : Int)) ≤ 9223372036854775807) ∧
 (∀ w14, w14 = w12.alloc (.cells (madeCells #[(.int .i64 0), (.int .u32 0)] (((Int.toNat (((a1l : Nat) : Int)))) * 2)) 410) →
 (∀ w15, w15 = w14.alloc (.cells #[(.pointer p2), (.pointer none), (.int .i64 n13), (.slice (some ⟨w12.heap.size, 0, none⟩) ((Int.toNat (((a1l : Nat) : Int)))) ((Int.toNat (((a1l : Nat) : Int)))))] 321) →
 (∃ (I16 : Int → World → Prop) (μ17 : Int → World → Nat), I16 0 w15 ∧ ∀ (_g18 : Nat → Value) (w19 : World) (n20 : Int), I16 n20 w19 →
 (Br (decide (n20 < (((a1l : Nat) : Int)))) (((0 : Int) ≤ n20 ∧ n20 < ((a1l : Nat) : Int)) ∧ (PtrSome a1p (fun b21 o22 =>
 ∃ n23, w19.cell? ⟨b21, o22 + (Int.toNat n20), none⟩ = some (.int .i64 n23) ∧ (Calls Tryz.prog 24 #[(.pointer (some ⟨q0, 0, none⟩)), (.int .i64 2), (.int .i64 n23), (.int .u32 0)] w19 (fun e24 w25 =>
 ∃ n26, e24 = .returned (.int .i64 n26) ∧ (I16 (IntKind.i64.wrap (n20 + 1)) w25 ∧ μ17 (IntKind.i64.wrap (n20 + 1)) w25 < μ17 n20 w19)))))) (R (.returned (.tuple #[(.pointer (some ⟨w14.heap.size, 0, none⟩)), (.int .i64 0)])) w19)))))))) ∧
 (((0 : Int) ≤ (((a1l : Nat) : Int)) ∧ (((a1l : Nat) : Int)) ≤ (((a1l : Nat) : Int)) ∧ ((16 : Nat) : Int) * (((a1l : Nat) : Int)) ≤ 281474976710656 ∧
 (((a1l : Nat) : Int)) ≤ 9223372036854775807) ∧ (∀ w27, w27 = w7.alloc (.cells (madeCells #[(.int .i64 0), (.int .u32 0)] (((Int.toNat (((a1l : Nat) : Int)))) * 2)) 410) →
 ((w27.cell? ⟨b8, o9, none⟩ = some (.int .i64 n10)) ∧ (Calls Tryz.prog 90 #[(.pointer (some ⟨q0, 0, none⟩)), (.int .i64 n10), (.int .u32 0)] w27 (fun e28 w29 =>
 ∃ n30, e28 = .returned (.int .i64 n30) ∧ (∀ w31, w31 = w29.alloc (.cells #[(.pointer p2), (.pointer none), (.int .i64 n30), (.slice (some ⟨w7.heap.size, 0, none⟩) ((Int.toNat (((a1l : Nat) : Int)))) ((Int.toNat (((a1l : Nat) : Int)))))] 321) →
 (∃ (I32 : Int → World → Prop) (μ33 : Int → World → Nat), I32 0 w31 ∧ ∀ (_g34 : Nat → Value) (w35 : World) (n36 : Int), I32 n36 w35 →
 (Br (decide (n36 < (((a1l : Nat) : Int)))) (((0 : Int) ≤ n36 ∧ n36 < ((a1l : Nat) : Int)) ∧ (PtrSome a1p (fun b37 o38 =>
 ∃ n39, w35.cell? ⟨b37, o38 + (Int.toNat n36), none⟩ = some (.int .i64 n39) ∧ (Calls Tryz.prog 24 #[(.pointer (some ⟨q0, 0, none⟩)), (.int .i64 2), (.int .i64 n39), (.int .u32 0)] w35 (fun e40 w41 =>
 ∃ n42, e40 = .returned (.int .i64 n42) ∧ (I32 (IntKind.i64.wrap (n36 + 1)) w41 ∧ μ33 (IntKind.i64.wrap (n36 + 1)) w41 < μ33 n36 w35)))))) (R (.returned (.tuple #[(.pointer (some ⟨w29.heap.size, 0, none⟩)), (.int .i64 0)])) w35)))))))))))))))))))
theorem callsMcsNew (q0 : Nat) (a1p : Option Addr) (a1l a1c : Nat) (R : Ending → 
    World → Prop) (w : World) (h : preMcsNew q0 a1p a1l a1c R w) : Calls Tryz.prog 145 #[(.pointer (some ⟨q0, 0, none⟩)), (.slice a1p a1l a1c)] w R :=
  calls_of_sym Tryz.func145 (c := bodyOf Tryz.f145) rfl (Eq.mpr (by kernel_rfl) h)

/-- weighlock/slots.New -/
def preSlotsNew (q0 : Nat) (a1p : Option Addr) (a1l a1c : Nat) (a2 a3 : Int) (R : Ending → 
    World → Prop) (w : World) : Prop :=
  Calls Tryz.prog 86 #[(.int .i64 (((a1l : Nat) : Int))), (.bool false), (.bool false)] w (fun e0 w1 =>
 ∃ p2 n3, e0 = .returned (.tuple #[(.pointer p2), (.int .i64 n3)]) ∧ (Br (n3 != 0) (R (.returned (.tuple #[(.pointer none), (.int .i64 1)])) w1) (Calls Tryz.prog 87 #[(.slice a1p a1l a1c), (.func (.func 186) #[] #[])] w1 (fun e4 w5 =>
 ∃ b6, e4 = .returned (.bool b6) ∧ (Br b6 (R (.returned (.tuple #[(.pointer none), (.int .i64 1)])) w5) (Br (decide ((a2 : Int) < (((a1l : Nat) : Int)))) (R (.returned (.tuple #[(.pointer none), (.int .i64 7)])) w5) (Calls Tryz.prog 187 #[] w5 (fun e7 w8 =>
 ∃ p9 l10 c11, e7 = .returned (.slice p9 l10 c11) ∧ (Calls Tryz.prog 89 #[(.slice p9 l10 c11), (.int .i64 a2)] w8 (fun e12 w13 =>
 ∃ b14, e12 = .returned (.bool b14) ∧ (Br (!b14) (R (.returned (.tuple #[(.pointer none), (.int .i64 7)])) w13) (((0 : Int) ≤ (((a1l : Nat) : Int)) ∧
 (((a1l : Nat) : Int)) ≤ (((a1l : Nat) : Int)) ∧ ((16 : Nat) : Int) * (((a1l : Nat) : Int)) ≤ 281474976710656 ∧
 (((a1l : Nat) : Int)) ≤ 9223372036854775807) ∧ (∀ w15, w15 = w13.alloc (.cells (madeCells #[(.int .u32 0), (.int .i64 0)] (((Int.toNat (((a1l : Nat) : Int)))) * 2)) 419) →
 (∀ w16, w16 = w15.alloc (.cells #[(.pointer p2), (.pointer none), (.int .i64 0), (.int .i64 a2), (.slice (some ⟨w13.heap.size, 0, none⟩) ((Int.toNat (((a1l : Nat) : Int)))) ((Int.toNat (((a1l : Nat) : Int)))))] 330) →
 (((0 : Int) ≤ 0 ∧ 0 < ((a1l : Nat) : Int)) ∧ (PtrSome a1p (fun b17 o18 => ∃ n19, w16.cell? ⟨b17, o18, none⟩ = some (.int .i64 n19) ∧
 (Calls Tryz.prog 90 #[(.pointer (some ⟨q0, 0, none⟩)), (.int .i64 n19), (.int .u32 a3)] w16 (fun e20 w21 =>
 ∃ n22, e20 = .returned (.int .i64 n22) ∧ (CanSet w21 w15.heap.size 2 ∧ (∀ w23, w23 = w21.setCell ⟨w15.heap.size, 2, none⟩ (.int .i64 n22) →
 (∃ (I24 : Int → World → Prop) (μ25 : Int → World → Nat), I24 0 w23 ∧ ∀ (_g26 : Nat → Value) (w27 : World) (n28 : Int), I24 n28 w27 →
 (Br (decide (n28 < a2)) (Calls Tryz.prog 188 #[(.int .u32 a3), (.int .i64 a2)] w27 (fun e29 w30 =>
 ∃ n31, e29 = .returned (.int .i64 n31) ∧ (Br (n28 == n31) (((((a1l : Nat) : Int)) : Int) ≠ 0 ∧
 (((0 : Int) ≤ (Int.tmod n28 (((a1l : Nat) : Int))) ∧ (Int.tmod n28 (((a1l : Nat) : Int))) < ((a1l : Nat) : Int)) ∧
 (PtrSome a1p (fun b32 o33 => ∃ n34, w30.cell? ⟨b32, o33 + (Int.toNat (Int.tmod n28 (((a1l : Nat) : Int)))), none⟩ = some (.int .i64 n34) ∧
 (Calls Tryz.prog 90 #[(.pointer (some ⟨q0, 0, none⟩)), (.int .i64 n34), (.int .u32 1)] w30 (fun e35 w36 =>
 ∃ n37, e35 = .returned (.int .i64 n37) ∧ (I24 (IntKind.i64.wrap (n28 + 1)) w36 ∧ μ25 (IntKind.i64.wrap (n28 + 1)) w36 < μ25 n28 w27))))))) (((((a1l : Nat) : Int)) : Int) ≠ 0 ∧
 (((0 : Int) ≤ (Int.tmod n28 (((a1l : Nat) : Int))) ∧ (Int.tmod n28 (((a1l : Nat) : Int))) < ((a1l : Nat) : Int)) ∧
 (PtrSome a1p (fun b38 o39 => ∃ n40, w30.cell? ⟨b38, o39 + (Int.toNat (Int.tmod n28 (((a1l : Nat) : Int)))), none⟩ = some (.int .i64 n40) ∧
 (Calls Tryz.prog 90 #[(.pointer (some ⟨q0, 0, none⟩)), (.int .i64 n40), (.int .u32 0)] w30 (fun e41 w42 =>
 ∃ n43, e41 = .returned (.int .i64 n43) ∧ (I24 (IntKind.i64.wrap (n28 + 1)) w42 ∧ μ25 (IntKind.i64.wrap (n28 + 1)) w42 < μ25 n28 w27)))))))))) (R (.returned (.tuple #[(.pointer (some ⟨w15.heap.size, 0, none⟩)), (.int .i64 0)])) w27))))))))))))))))))))))))
theorem callsSlotsNew (q0 : Nat) (a1p : Option Addr) (a1l a1c : Nat) (a2 a3 : Int) (R : Ending → 
    World → Prop) (w : World) (h : preSlotsNew q0 a1p a1l a1c a2 a3 R w) : Calls Tryz.prog 154 #[(.pointer (some ⟨q0, 0, none⟩)), (.slice a1p a1l a1c), (.int .i64 a2), (.int .u32 a3)] w R :=
  calls_of_sym Tryz.func154 (c := bodyOf Tryz.f154) rfl (Eq.mpr (by kernel_rfl) h)

/-- weighlock/flat.New$1 -/
def preFlatNew1 (a0 : Int) (R : Ending → World → Prop) (w : World) : Prop :=
  Br (decide ((a0 : Int) < 0)) (R (.returned (.bool true)) w) (R (.returned (.bool (decide ((a0 : Int) ≥ 8)))) w)
theorem callsFlatNew1 (a0 : Int) (R : Ending → 
    World → Prop) (w : World) (h : preFlatNew1 a0 R w) : Calls Tryz.prog 180 #[(.int .i64 a0)] w R :=
  calls_of_sym Tryz.func180 (c := bodyOf Tryz.f180) rfl (Eq.mpr (by kernel_rfl) h)

/-- weighlock/clh.New$1 -/
def preClhNew1 (a0 : Int) (R : Ending → World → Prop) (w : World) : Prop :=
  Br (decide ((a0 : Int) < 0)) (R (.returned (.bool true)) w) (R (.returned (.bool (decide ((a0 : Int) ≥ 8)))) w)
theorem callsClhNew1 (a0 : Int) (R : Ending → 
    World → Prop) (w : World) (h : preClhNew1 a0 R w) : Calls Tryz.prog 181 #[(.int .i64 a0)] w R :=
  calls_of_sym Tryz.func181 (c := bodyOf Tryz.f181) rfl (Eq.mpr (by kernel_rfl) h)

/-- weighlock/mcs.New$1 -/
def preMcsNew1 (a0 : Int) (R : Ending → World → Prop) (w : World) : Prop :=
  Br (decide ((a0 : Int) < 0)) (R (.returned (.bool true)) w) (R (.returned (.bool (decide ((a0 : Int) ≥ 8)))) w)
theorem callsMcsNew1 (a0 : Int) (R : Ending → 
    World → Prop) (w : World) (h : preMcsNew1 a0 R w) : Calls Tryz.prog 182 #[(.int .i64 a0)] w R :=
  calls_of_sym Tryz.func182 (c := bodyOf Tryz.f182) rfl (Eq.mpr (by kernel_rfl) h)

/-- weighlock/slots.New$1 -/
def preSlotsNew1 (a0 : Int) (R : Ending → World → Prop) (w : World) : Prop :=
  Br (decide ((a0 : Int) < 0)) (R (.returned (.bool true)) w) (R (.returned (.bool (decide ((a0 : Int) ≥ 8)))) w)
theorem callsSlotsNew1 (a0 : Int) (R : Ending → 
    World → Prop) (w : World) (h : preSlotsNew1 a0 R w) : Calls Tryz.prog 186 #[(.int .i64 a0)] w R :=
  calls_of_sym Tryz.func186 (c := bodyOf Tryz.f186) rfl (Eq.mpr (by kernel_rfl) h)

/-- weighlock/pool.New -/
def prePoolNew (a0 a1 : Int) (R : Ending → World → Prop) (w : World) : Prop :=
  Br (decide ((a0 : Int) < 1)) (R (.returned (.tuple #[(.pointer none), (.int .i64 1)])) w) (Br (decide ((a0 : Int) >
 64)) (R (.returned (.tuple #[(.pointer none), (.int .i64 1)])) w) (Br (decide ((a1 : Int) < 1)) (R (.returned (.tuple #[(.pointer none), (.int .i64 1)])) w) (Br (decide ((a1 : Int) >
 8)) (R (.returned (.tuple #[(.pointer none), (.int .i64 1)])) w) (∀ w0, w0 = w.drew → ((((0 : Int) ≤ a0 ∧
 a0 ≤ a0 ∧ ((24 : Nat) : Int) * a0 ≤ 281474976710656 ∧ a0 ≤ 9223372036854775807) ∧ (∀ w1, w1 = w0.alloc (.cells (madeCells #[(.slice none 0 0)] ((Int.toNat a0))) 22) →
 (((0 : Int) ≤ (IntKind.i64.wrap (1 + (IntKind.i64.wrap (a0 * a1)))) ∧ (IntKind.i64.wrap (1 + (IntKind.i64.wrap (a0 * a1)))) ≤ (IntKind.i64.wrap (1 + (IntKind.i64.wrap (a0 * a1)))) ∧
 ((1 : Nat) : Int) * (IntKind.i64.wrap (1 + (IntKind.i64.wrap (a0 * a1)))) ≤ 281474976710656 ∧ (IntKind.i64.wrap (1 + (IntKind.i64.wrap (a0 * a1)))) ≤ 9223372036854775807) ∧
 (∀ w2, w2 = w1.alloc (.cells (madeCells #[(.bool false)] ((Int.toNat (IntKind.i64.wrap (1 + (IntKind.i64.wrap (a0 * a1))))))) 4) →
 (∀ w3, w3 = w2.alloc (.cells #[(.slice (some ⟨w0.heap.size, 0, none⟩) ((Int.toNat a0)) ((Int.toNat a0))), (.slice (some ⟨w1.heap.size, 0, none⟩) ((Int.toNat (IntKind.i64.wrap (1 + (IntKind.i64.wrap (a0 * a1)))))) ((Int.toNat (IntKind.i64.wrap (1 + (IntKind.i64.wrap (a0 * a1)))))))] 352) →
 (∃ (I4 : Int → World → Prop) (μ5 : Int → World → Nat), I4 0 w3 ∧ ∀ (_g6 : Nat → Value) (w7 : World) (n8 : Int), I4 n8 w7 →
 (Br (decide (n8 < (IntKind.i64.wrap (a0 * a1)))) (∀ w9, w9 = w7.drew → (∃ p10 l11 c12, w9.cell? ⟨w2.heap.size, 0, none⟩ = some (.slice p10 l11 c12) ∧
 ((a1 : Int) ≠ 0 ∧ (∃ p13 l14 c15, w9.cell? ⟨w2.heap.size, 0, none⟩ = some (.slice p13 l14 c15) ∧
 ((a1 : Int) ≠ 0 ∧ (((0 : Int) ≤ (IntKind.i64.wrap (Int.tdiv n8 a1)) ∧ (IntKind.i64.wrap (Int.tdiv n8 a1)) < ((l14 : Nat) : Int)) ∧
 (PtrSome p13 (fun b16 o17 => ∃ p18 l19 c20, w9.cell? ⟨b16, o17 + (Int.toNat (IntKind.i64.wrap (Int.tdiv n8 a1))), none⟩ = some (.slice p18 l19 c20) ∧
 (∀ w21, w21 = w9.alloc (.cells #[(.int .i64 (IntKind.i64.wrap (n8 + 1)))] 3) → ((w21.cell? ⟨b16, o17 + (Int.toNat (IntKind.i64.wrap (Int.tdiv n8 a1))), none⟩ = some (.slice p18 l19 c20)) ∧
 ((w21.cell? ⟨w2.heap.size, 0, none⟩ = some (.slice p13 l14 c15)) ∧ ((w21.cell? ⟨w2.heap.size, 0, none⟩ = some (.slice p10 l11 c12)) ∧
 (AppQ Tryz.prog #[22, 22] 22 #[(.slice p18 l19 c20), (.slice (some ⟨w9.heap.size, 0, none⟩) 1 1)] w21 (fun p22 l23 c24 w25 =>
 (w25.cell? ⟨w2.heap.size, 0, none⟩ = some (.slice p10 l11 c12)) ∧ (((0 : Int) ≤ (IntKind.i64.wrap (Int.tdiv n8 a1)) ∧
 (IntKind.i64.wrap (Int.tdiv n8 a1)) < ((l11 : Nat) : Int)) ∧ (PtrSome p10 (fun b26 o27 => CanSet w25 b26 (o27 + (Int.toNat (IntKind.i64.wrap (Int.tdiv n8 a1)))) ∧
 (∀ w28, w28 = w25.setCell ⟨b26, o27 + (Int.toNat (IntKind.i64.wrap (Int.tdiv n8 a1))), none⟩ (.slice p22 l23 c24) →
 (I4 (IntKind.i64.wrap (n8 + 1)) w28 ∧ μ5 (IntKind.i64.wrap (n8 + 1)) w28 < μ5 n8 w7))))))))))))))))))) (R (.returned (.tuple #[(.pointer (some ⟨w2.heap.size, 0, none⟩)), (.int .i64 0)])) w7)))))))) ∧
 (((0 : Int) ≤ (IntKind.i64.wrap (1 + (IntKind.i64.wrap (a0 * a1)))) ∧ (IntKind.i64.wrap (1 + (IntKind.i64.wrap (a0 * a1)))) ≤ (IntKind.i64.wrap (1 + (IntKind.i64.wrap (a0 * a1)))) ∧
 ((1 : Nat) : Int) * (IntKind.i64.wrap (1 + (IntKind.i64.wrap (a0 * a1)))) ≤ 281474976710656 ∧ (IntKind.i64.wrap (1 + (IntKind.i64.wrap (a0 * a1)))) ≤ 9223372036854775807) ∧
 (∀ w29, w29 = w0.alloc (.cells (madeCells #[(.bool false)] ((Int.toNat (IntKind.i64.wrap (1 + (IntKind.i64.wrap (a0 * a1))))))) 4) →
 (((0 : Int) ≤ a0 ∧ a0 ≤ a0 ∧ ((24 : Nat) : Int) * a0 ≤ 281474976710656 ∧ a0 ≤ 9223372036854775807) ∧
 (∀ w30, w30 = w29.alloc (.cells (madeCells #[(.slice none 0 0)] ((Int.toNat a0))) 22) → (∀ w31, w31 = w30.alloc (.cells #[(.slice (some ⟨w29.heap.size, 0, none⟩) ((Int.toNat a0)) ((Int.toNat a0))), (.slice (some ⟨w0.heap.size, 0, none⟩) ((Int.toNat (IntKind.i64.wrap (1 + (IntKind.i64.wrap (a0 * a1)))))) ((Int.toNat (IntKind.i64.wrap (1 + (IntKind.i64.wrap (a0 * a1)))))))] 352) →
 (∃ (I32 : Int → World → Prop) (μ33 : Int → World → Nat), I32 0 w31 ∧ ∀ (_g34 : Nat → Value) (w35 : World) (n36 : Int), I32 n36 w35 →
 (Br (decide (n36 < (IntKind.i64.wrap (a0 * a1)))) (∀ w37, w37 = w35.drew → (∃ p38 l39 c40, w37.cell? ⟨w30.heap.size, 0, none⟩ = some (.slice p38 l39 c40) ∧
 ((a1 : Int) ≠ 0 ∧ (∃ p41 l42 c43, w37.cell? ⟨w30.heap.size, 0, none⟩ = some (.slice p41 l42 c43) ∧
 ((a1 : Int) ≠ 0 ∧ (((0 : Int) ≤ (IntKind.i64.wrap (Int.tdiv n36 a1)) ∧ (IntKind.i64.wrap (Int.tdiv n36 a1)) < ((l42 : Nat) : Int)) ∧
 (PtrSome p41 (fun b44 o45 => ∃ p46 l47 c48, w37.cell? ⟨b44, o45 + (Int.toNat (IntKind.i64.wrap (Int.tdiv n36 a1))), none⟩ = some (.slice p46 l47 c48) ∧
 (∀ w49, w49 = w37.alloc (.cells #[(.int .i64 (IntKind.i64.wrap (n36 + 1)))] 3) → ((w49.cell? ⟨b44, o45 + (Int.toNat (IntKind.i64.wrap (Int.tdiv n36 a1))), none⟩ = some (.slice p46 l47 c48)) ∧
 ((w49.cell? ⟨w30.heap.size, 0, none⟩ = some (.slice p41 l42 c43)) ∧ ((w49.cell? ⟨w30.heap.size, 0, none⟩ = some (.slice p38 l39 c40)) ∧
 (AppQ Tryz.prog #[22, 22] 22 #[(.slice p46 l47 c48), (.slice (some ⟨w37.heap.size, 0, none⟩) 1 1)] w49 (fun p50 l51 c52 w53 =>
 (w53.cell? ⟨w30.heap.size, 0, none⟩ = some (.slice p38 l39 c40)) ∧ (((0 : Int) ≤ (IntKind.i64.wrap (Int.tdiv n36 a1)) ∧
 (IntKind.i64.wrap (Int.tdiv n36 a1)) < ((l39 : Nat) : Int)) ∧ (PtrSome p38 (fun b54 o55 => CanSet w53 b54 (o55 + (Int.toNat (IntKind.i64.wrap (Int.tdiv n36 a1)))) ∧
 (∀ w56, w56 = w53.setCell ⟨b54, o55 + (Int.toNat (IntKind.i64.wrap (Int.tdiv n36 a1))), none⟩ (.slice p50 l51 c52) →
 (I32 (IntKind.i64.wrap (n36 + 1)) w56 ∧ μ33 (IntKind.i64.wrap (n36 + 1)) w56 < μ33 n36 w35))))))))))))))))))) (R (.returned (.tuple #[(.pointer (some ⟨w30.heap.size, 0, none⟩)), (.int .i64 0)])) w35)))))))))))))
theorem callsPoolNew (a0 a1 : Int) (R : Ending → 
    World → Prop) (w : World) (h : prePoolNew a0 a1 R w) : Calls Tryz.prog 190 #[(.int .i64 a0), (.int .i64 a1)] w R :=
  calls_of_sym Tryz.func190 (c := bodyOf Tryz.f190) rfl (Eq.mpr (by kernel_rfl) h)

/-- slices.IndexFunc[[]weighlock/trace.Entry,weighlock/trace.Entry] -/
def preSlicesIndexFuncTraceEntryTraceEntry (a0p : Option Addr) (a0l a0c : Nat) (a1 : Value) (R : Ending → 
    World → Prop) (w : World) : Prop :=
  ∃ (I0 : Int → Int → World → Prop) (μ1 : Int → Int → World → Nat), I0 0 0 w ∧
 ∀ (_g2 : Nat → Value) (w3 : World) (n4 : Int) (n5 : Int), I0 n4 n5 w3 → (Br (decide (n5 < (((a0l : Nat) : Int)))) (((0 : Int) ≤ n5 ∧
 n5 < ((a0l : Nat) : Int)) ∧ (PtrSome a0p (fun b6 o7 => ∃ n8, w3.cell? ⟨b6, o7 + ((Int.toNat n5)) * 4, none⟩ = some (.int .i64 n8) ∧
 (∃ n9, w3.cell? ⟨b6, o7 + ((Int.toNat n5)) * 4 + 1, none⟩ = some (.int .i64 n9) ∧ (∃ n10, w3.cell? ⟨b6, o7 + ((Int.toNat n5)) * 4 + 2, none⟩ = some (.int .i64 n10) ∧
 (∃ b11, w3.cell? ⟨b6, o7 + ((Int.toNat n5)) * 4 + 3, none⟩ = some (.bool b11) ∧ (CallV Tryz.prog a1 [(.agg #[(.int .i64 n8), (.int .i64 n9), (.int .i64 n10), (.bool b11)])] (fun e12 w13 =>
 ∃ b14, e12 = .returned (.bool b14) ∧ (Br b14 (R (.returned (.int .i64 n5)) w13) (I0 n4 (IntKind.i64.wrap (n5 + 1)) w13 ∧
 μ1 n4 (IntKind.i64.wrap (n5 + 1)) w13 < μ1 n4 n5 w3))) w3))))))) (R (.returned (.int .i64 ((-1)))) w3))
theorem callsSlicesIndexFuncTraceEntryTraceEntry (a0p : Option Addr) (a0l a0c : Nat) (a1 : Value) (R : Ending → 
    World → Prop) (w : World) (h : preSlicesIndexFuncTraceEntryTraceEntry a0p a0l a0c a1 R w) : Calls Tryz.prog 198 #[(.slice a0p a0l a0c), a1] w R :=
  calls_of_sym Tryz.func198 (c := bodyOf Tryz.f198) rfl (Eq.mpr (by kernel_rfl) h)

/-- (*weighlock/flat.Lock).Step -/
def preFlatLockStep (q0 : Nat) (a1 a2 a3 : Int) (R : Ending → 
    World → Prop) (w : World) : Prop :=
  ∀ w0, w0 = w.alloc (.cells #[(.int .i64 0), (.bool false), (.bool false), (.bool false)] 86) →
 (∀ w1, w1 = w0.alloc (.cells #[(.int .i64 0), (.bool false), (.bool false), (.bool false)] 86) →
 (∃ p2, w1.cell? ⟨q0, 0, none⟩ = some (.pointer p2) ∧ (Calls Tryz.prog 138 #[(.pointer p2), (.int .i64 a1)] w1 (fun e3 w4 =>
 ∃ n5, e3 = .returned (.int .i64 n5) ∧ (Br (n5 == 1) (Calls Tryz.prog 290 #[(.pointer (some ⟨q0, 0, none⟩)), (.int .i64 a1), (.int .i64 a2)] w4 (fun e6 w7 =>
 ∃ n8 b9 b10 b11, e6 = .returned (.agg #[(.int .i64 n8), (.bool b9), (.bool b10), (.bool b11)]) ∧
 (w7.there w0.heap.size 0 4 ∧ (∀ w12, w12 = w7.setCells w0.heap.size 0 [(.int .i64 n8), (.bool b9), (.bool b10), (.bool b11)] →
 (∀ w13, w13 = w12.drew → (∃ p14, w13.cell? ⟨q0, 0, none⟩ = some (.pointer p14) ∧
 (∃ n15, w13.cell? ⟨w0.heap.size, 0, none⟩ = some (.int .i64 n15) ∧ (Calls Tryz.prog 140 #[(.pointer p14), (.int .i64 a1), (.int .i64 n15)] w13 (fun e16 w17 =>
 ∃ b18, e16 = .returned (.bool b18) ∧ (∃ n19, w17.cell? ⟨w0.heap.size, 0, none⟩ = some (.int .i64 n19) ∧
 (∃ b20, w17.cell? ⟨w0.heap.size, 1, none⟩ = some (.bool b20) ∧ (∃ b21, w17.cell? ⟨w0.heap.size, 2, none⟩ = some (.bool b21) ∧
 (∃ b22, w17.cell? ⟨w0.heap.size, 3, none⟩ = some (.bool b22) ∧ (w17.there w.heap.size 0 4 ∧
 (∀ w23, w23 = w17.setCells w.heap.size 0 [(.int .i64 n19), (.bool b20), (.bool b21), (.bool b22)] →
 (∃ n24, w23.cell? ⟨w.heap.size, 0, none⟩ = some (.int .i64 n24) ∧ (∃ b25, w23.cell? ⟨w.heap.size, 1, none⟩ = some (.bool b25) ∧
 (∃ b26, w23.cell? ⟨w.heap.size, 2, none⟩ = some (.bool b26) ∧ (∃ b27, w23.cell? ⟨w.heap.size, 3, none⟩ = some (.bool b27) ∧
 (R (.returned (.agg #[(.int .i64 n24), (.bool b25), (.bool b26), (.bool b27)])) w23)))))))))))))))))))) (Br (n5 == 3) (∀ w28, w28 = w4.drew →
 (∃ p29, w28.cell? ⟨q0, 1, none⟩ = some (.pointer p29) ∧ (∃ n30, w28.cell? ⟨q0, 3, none⟩ = some (.int .i64 n30) ∧
 (∃ p31 l32 c33, w28.cell? ⟨q0, 4, none⟩ = some (.slice p31 l32 c33) ∧ (((0 : Int) ≤ a1 ∧
 a1 < ((l32 : Nat) : Int)) ∧ (PtrSome p31 (fun b34 o35 => ∃ n36, w28.cell? ⟨b34, o35 + (Int.toNat a1), none⟩ = some (.int .u32 n36) ∧
 (Calls Tryz.prog 216 #[(.pointer p29), (.int .i64 a2), (.int .i64 n30), (.int .u32 (IntKind.u32.wrap (n36 + 1)))] w28 (fun e37 w38 =>
 e37 = .returned (.tuple #[]) ∧ (∃ p39 l40 c41, w38.cell? ⟨q0, 5, none⟩ = some (.slice p39 l40 c41) ∧
 (((0 : Int) ≤ a1 ∧ a1 < ((l40 : Nat) : Int)) ∧ (PtrSome p39 (fun b42 o43 => CanSet w38 b42 (o43 + (Int.toNat a1)) ∧
 (∀ w44, w44 = w38.setCell ⟨b42, o43 + (Int.toNat a1), none⟩ (.bool false) → (CanSet w44 w0.heap.size 0 ∧
 (∀ w45, w45 = w44.setCell ⟨w0.heap.size, 0, none⟩ (.int .i64 3) → (∀ w46, w46 = w45.drew →
 (∃ p47, w46.cell? ⟨q0, 0, none⟩ = some (.pointer p47) ∧ (∃ n48, w46.cell? ⟨w0.heap.size, 0, none⟩ = some (.int .i64 n48) ∧
 (Calls Tryz.prog 140 #[(.pointer p47), (.int .i64 a1), (.int .i64 n48)] w46 (fun e49 w50 =>
 ∃ b51, e49 = .returned (.bool b51) ∧ (∃ n52, w50.cell? ⟨w0.heap.size, 0, none⟩ = some (.int .i64 n52) ∧
 (∃ b53, w50.cell? ⟨w0.heap.size, 1, none⟩ = some (.bool b53) ∧ (∃ b54, w50.cell? ⟨w0.heap.size, 2, none⟩ = some (.bool b54) ∧
 (∃ b55, w50.cell? ⟨w0.heap.size, 3, none⟩ = some (.bool b55) ∧ (w50.there w.heap.size 0 4 ∧
 (∀ w56, w56 = w50.setCells w.heap.size 0 [(.int .i64 n52), (.bool b53), (.bool b54), (.bool b55)] →
 (∃ n57, w56.cell? ⟨w.heap.size, 0, none⟩ = some (.int .i64 n57) ∧ (∃ b58, w56.cell? ⟨w.heap.size, 1, none⟩ = some (.bool b58) ∧
 (∃ b59, w56.cell? ⟨w.heap.size, 2, none⟩ = some (.bool b59) ∧ (∃ b60, w56.cell? ⟨w.heap.size, 3, none⟩ = some (.bool b60) ∧
 (R (.returned (.agg #[(.int .i64 n57), (.bool b58), (.bool b59), (.bool b60)])) w56)))))))))))))))))))))))))))))))) (Br (n5 == 4) (CanSet w4 w0.heap.size 0 ∧
 (∀ w61, w61 = w4.setCell ⟨w0.heap.size, 0, none⟩ (.int .i64 5) → (∀ w62, w62 = w61.drew →
 (∃ p63, w62.cell? ⟨q0, 1, none⟩ = some (.pointer p63) ∧ (∃ n64, w62.cell? ⟨q0, 2, none⟩ = some (.int .i64 n64) ∧
 (∃ p65 l66 c67, w62.cell? ⟨q0, 4, none⟩ = some (.slice p65 l66 c67) ∧ (((0 : Int) ≤ a1 ∧
 a1 < ((l66 : Nat) : Int)) ∧ (PtrSome p65 (fun b68 o69 => ∃ n70, w62.cell? ⟨b68, o69 + (Int.toNat a1), none⟩ = some (.int .u32 n70) ∧
 (Calls Tryz.prog 200 #[(.pointer p63), (.int .i64 a2), (.int .i64 n64)] w62 (fun e71 w72 =>
 ∃ n73, e71 = .returned (.int .u32 n73) ∧ ((w72.cell? ⟨b68, o69 + (Int.toNat a1), none⟩ = some (.int .u32 n70)) ∧
 ((w72.cell? ⟨q0, 4, none⟩ = some (.slice p65 l66 c67)) ∧ (Br (n73 == (IntKind.u32.wrap (n70 + 1))) (CanSet w72 w0.heap.size 0 ∧
 (∀ w74, w74 = w72.setCell ⟨w0.heap.size, 0, none⟩ (.int .i64 4) → (∀ w75, w75 = w74.drew →
 (∃ p76, w75.cell? ⟨q0, 0, none⟩ = some (.pointer p76) ∧ (∃ n77, w75.cell? ⟨w0.heap.size, 0, none⟩ = some (.int .i64 n77) ∧
 (Calls Tryz.prog 140 #[(.pointer p76), (.int .i64 a1), (.int .i64 n77)] w75 (fun e78 w79 =>
 ∃ b80, e78 = .returned (.bool b80) ∧ (∃ n81, w79.cell? ⟨w0.heap.size, 0, none⟩ = some (.int .i64 n81) ∧
 (∃ b82, w79.cell? ⟨w0.heap.size, 1, none⟩ = some (.bool b82) ∧ (∃ b83, w79.cell? ⟨w0.heap.size, 2, none⟩ = some (.bool b83) ∧
 (∃ b84, w79.cell? ⟨w0.heap.size, 3, none⟩ = some (.bool b84) ∧ (w79.there w.heap.size 0 4 ∧
 (∀ w85, w85 = w79.setCells w.heap.size 0 [(.int .i64 n81), (.bool b82), (.bool b83), (.bool b84)] →
 (∃ n86, w85.cell? ⟨w.heap.size, 0, none⟩ = some (.int .i64 n86) ∧ (∃ b87, w85.cell? ⟨w.heap.size, 1, none⟩ = some (.bool b87) ∧
 (∃ b88, w85.cell? ⟨w.heap.size, 2, none⟩ = some (.bool b88) ∧ (∃ b89, w85.cell? ⟨w.heap.size, 3, none⟩ = some (.bool b89) ∧
 (R (.returned (.agg #[(.int .i64 n86), (.bool b87), (.bool b88), (.bool b89)])) w85)))))))))))))))))) (∀ w90, w90 = w72.drew →
 (∃ p91, w90.cell? ⟨q0, 0, none⟩ = some (.pointer p91) ∧ (∃ n92, w90.cell? ⟨w0.heap.size, 0, none⟩ = some (.int .i64 n92) ∧
 (Calls Tryz.prog 140 #[(.pointer p91), (.int .i64 a1), (.int .i64 n92)] w90 (fun e93 w94 =>
 ∃ b95, e93 = .returned (.bool b95) ∧ (∃ n96, w94.cell? ⟨w0.heap.size, 0, none⟩ = some (.int .i64 n96) ∧
 (∃ b97, w94.cell? ⟨w0.heap.size, 1, none⟩ = some (.bool b97) ∧ (∃ b98, w94.cell? ⟨w0.heap.size, 2, none⟩ = some (.bool b98) ∧
 (∃ b99, w94.cell? ⟨w0.heap.size, 3, none⟩ = some (.bool b99) ∧ (w94.there w.heap.size 0 4 ∧
 (∀ w100, w100 = w94.setCells w.heap.size 0 [(.int .i64 n96), (.bool b97), (.bool b98), (.bool b99)] →
 (∃ n101, w100.cell? ⟨w.heap.size, 0, none⟩ = some (.int .i64 n101) ∧ (∃ b102, w100.cell? ⟨w.heap.size, 1, none⟩ = some (.bool b102) ∧
 (∃ b103, w100.cell? ⟨w.heap.size, 2, none⟩ = some (.bool b103) ∧ (∃ b104, w100.cell? ⟨w.heap.size, 3, none⟩ = some (.bool b104) ∧
 (R (.returned (.agg #[(.int .i64 n101), (.bool b102), (.bool b103), (.bool b104)])) w100)))))))))))))))))))))))))))))) (∀ w105, w105 = w4.drew →
 (∃ p106, w105.cell? ⟨q0, 0, none⟩ = some (.pointer p106) ∧ (∃ n107, w105.cell? ⟨w0.heap.size, 0, none⟩ = some (.int .i64 n107) ∧
 (Calls Tryz.prog 140 #[(.pointer p106), (.int .i64 a1), (.int .i64 n107)] w105 (fun e108 w109 =>
 ∃ b110, e108 = .returned (.bool b110) ∧ (∃ n111, w109.cell? ⟨w0.heap.size, 0, none⟩ = some (.int .i64 n111) ∧
 (∃ b112, w109.cell? ⟨w0.heap.size, 1, none⟩ = some (.bool b112) ∧ (∃ b113, w109.cell? ⟨w0.heap.size, 2, none⟩ = some (.bool b113) ∧
 (∃ b114, w109.cell? ⟨w0.heap.size, 3, none⟩ = some (.bool b114) ∧ (w109.there w.heap.size 0 4 ∧
 (∀ w115, w115 = w109.setCells w.heap.size 0 [(.int .i64 n111), (.bool b112), (.bool b113), (.bool b114)] →
 (∃ n116, w115.cell? ⟨w.heap.size, 0, none⟩ = some (.int .i64 n116) ∧ (∃ b117, w115.cell? ⟨w.heap.size, 1, none⟩ = some (.bool b117) ∧
 (∃ b118, w115.cell? ⟨w.heap.size, 2, none⟩ = some (.bool b118) ∧ (∃ b119, w115.cell? ⟨w.heap.size, 3, none⟩ = some (.bool b119) ∧
 (R (.returned (.agg #[(.int .i64 n116), (.bool b117), (.bool b118), (.bool b119)])) w115)))))))))))))))))))))))
theorem callsFlatLockStep (q0 : Nat) (a1 a2 a3 : Int) (R : Ending → 
    World → Prop) (w : World) (h : preFlatLockStep q0 a1 a2 a3 R w) : Calls Tryz.prog 288 #[(.pointer (some ⟨q0, 0, none⟩)), (.int .i64 a1), (.int .i64 a2), (.int .i64 a3)] w R :=
  calls_of_sym Tryz.func288 (c := bodyOf Tryz.f288) rfl (Eq.mpr (by kernel_rfl) h)

/-- (*weighlock/flat.Lock).Use -/
def preFlatLockUse (q0 : Nat) (q1 : Nat) (R : Ending → World → Prop) (w : World) : Prop :=
  CanSet w q0 1 ∧
 (∀ w0, w0 = w.setCell ⟨q0, 1, none⟩ (.pointer (some ⟨q1, 0, none⟩)) → (R (.returned (.tuple #[])) w0))
theorem callsFlatLockUse (q0 : Nat) (q1 : Nat) (R : Ending → 
    World → Prop) (w : World) (h : preFlatLockUse q0 q1 R w) : Calls Tryz.prog 289 #[(.pointer (some ⟨q0, 0, none⟩)), (.pointer (some ⟨q1, 0, none⟩))] w R :=
  calls_of_sym Tryz.func289 (c := bodyOf Tryz.f289) rfl (Eq.mpr (by kernel_rfl) h)

/-- (*weighlock/flat.Lock).lock -/
def preFlatLock_lock (q0 : Nat) (a1 a2 : Int) (R : Ending → 
    World → Prop) (w : World) : Prop :=
  ∀ w0, w0 = w.alloc (.cells #[(.int .i64 0), (.bool false), (.bool false), (.bool false)] 86) →
 (∃ p1 l2 c3, w0.cell? ⟨q0, 5, none⟩ = some (.slice p1 l2 c3) ∧ (((0 : Int) ≤ a1 ∧
 a1 < ((l2 : Nat) : Int)) ∧ (PtrSome p1 (fun b4 o5 => ∃ b6, w0.cell? ⟨b4, o5 + (Int.toNat a1), none⟩ = some (.bool b6) ∧
 (Br (!b6) (∀ w7, w7 = w0.drew → (∃ p8 l9 c10, w7.cell? ⟨q0, 4, none⟩ = some (.slice p8 l9 c10) ∧
 (∃ p11 l12 c13, w7.cell? ⟨q0, 5, none⟩ = some (.slice p11 l12 c13) ∧ (∃ p14, w7.cell? ⟨q0, 1, none⟩ = some (.pointer p14) ∧
 (∃ n15, w7.cell? ⟨q0, 2, none⟩ = some (.int .i64 n15) ∧ (Calls Tryz.prog 291 #[(.pointer p14), (.int .i64 a2), (.int .i64 n15), (.int .u32 1)] w7 (fun e16 w17 =>
 ∃ n18, e16 = .returned (.int .u32 n18) ∧ ((w17.cell? ⟨q0, 5, none⟩ = some (.slice p11 l12 c13)) ∧
 ((w17.cell? ⟨q0, 4, none⟩ = some (.slice p8 l9 c10)) ∧ (((0 : Int) ≤ a1 ∧ a1 < ((l9 : Nat) : Int)) ∧
 (PtrSome p8 (fun b19 o20 => CanSet w17 b19 (o20 + (Int.toNat a1)) ∧ (∀ w21, w21 = w17.setCell ⟨b19, o20 + (Int.toNat a1), none⟩ (.int .u32 n18) →
 (((0 : Int) ≤ a1 ∧ a1 < ((l12 : Nat) : Int)) ∧ (PtrSome p11 (fun b22 o23 => CanSet w21 b22 (o23 + (Int.toNat a1)) ∧
 (∀ w24, w24 = w21.setCell ⟨b22, o23 + (Int.toNat a1), none⟩ (.bool true) → (w24.there w.heap.size 0 4 ∧
 (∀ w25, w25 = w24.setCells w.heap.size 0 [(.int .i64 0), (.bool true), (.bool false), (.bool false)] →
 (∃ n26, w25.cell? ⟨w.heap.size, 0, none⟩ = some (.int .i64 n26) ∧ (∃ b27, w25.cell? ⟨w.heap.size, 1, none⟩ = some (.bool b27) ∧
 (∃ b28, w25.cell? ⟨w.heap.size, 2, none⟩ = some (.bool b28) ∧ (∃ b29, w25.cell? ⟨w.heap.size, 3, none⟩ = some (.bool b29) ∧
 (R (.returned (.agg #[(.int .i64 n26), (.bool b27), (.bool b28), (.bool b29)])) w25)))))))))))))))))))))))) (∀ w30, w30 = w0.drew →
 (∃ p31, w30.cell? ⟨q0, 1, none⟩ = some (.pointer p31) ∧ (∃ n32, w30.cell? ⟨q0, 3, none⟩ = some (.int .i64 n32) ∧
 (∃ p33 l34 c35, w30.cell? ⟨q0, 4, none⟩ = some (.slice p33 l34 c35) ∧ (((0 : Int) ≤ a1 ∧
 a1 < ((l34 : Nat) : Int)) ∧ (PtrSome p33 (fun b36 o37 => ∃ n38, w30.cell? ⟨b36, o37 + (Int.toNat a1), none⟩ = some (.int .u32 n38) ∧
 (Calls Tryz.prog 200 #[(.pointer p31), (.int .i64 a2), (.int .i64 n32)] w30 (fun e39 w40 =>
 ∃ n41, e39 = .returned (.int .u32 n41) ∧ ((w40.cell? ⟨b36, o37 + (Int.toNat a1), none⟩ = some (.int .u32 n38)) ∧
 ((w40.cell? ⟨q0, 4, none⟩ = some (.slice p33 l34 c35)) ∧ (Br (n41 == n38) (w40.there w.heap.size 0 4 ∧
 (∀ w42, w42 = w40.setCells w.heap.size 0 [(.int .i64 1), (.bool false), (.bool false), (.bool false)] →
 (∃ n43, w42.cell? ⟨w.heap.size, 0, none⟩ = some (.int .i64 n43) ∧ (∃ b44, w42.cell? ⟨w.heap.size, 1, none⟩ = some (.bool b44) ∧
 (∃ b45, w42.cell? ⟨w.heap.size, 2, none⟩ = some (.bool b45) ∧ (∃ b46, w42.cell? ⟨w.heap.size, 3, none⟩ = some (.bool b46) ∧
 (R (.returned (.agg #[(.int .i64 n43), (.bool b44), (.bool b45), (.bool b46)])) w42))))))) (w40.there w.heap.size 0 4 ∧
 (∀ w47, w47 = w40.setCells w.heap.size 0 [(.int .i64 0), (.bool false), (.bool false), (.bool false)] →
 (∃ n48, w47.cell? ⟨w.heap.size, 0, none⟩ = some (.int .i64 n48) ∧ (∃ b49, w47.cell? ⟨w.heap.size, 1, none⟩ = some (.bool b49) ∧
 (∃ b50, w47.cell? ⟨w.heap.size, 2, none⟩ = some (.bool b50) ∧ (∃ b51, w47.cell? ⟨w.heap.size, 3, none⟩ = some (.bool b51) ∧
 (R (.returned (.agg #[(.int .i64 n48), (.bool b49), (.bool b50), (.bool b51)])) w47))))))))))))))))))))))))
theorem callsFlatLock_lock (q0 : Nat) (a1 a2 : Int) (R : Ending → 
    World → Prop) (w : World) (h : preFlatLock_lock q0 a1 a2 R w) : Calls Tryz.prog 290 #[(.pointer (some ⟨q0, 0, none⟩)), (.int .i64 a1), (.int .i64 a2)] w R :=
  calls_of_sym Tryz.func290 (c := bodyOf Tryz.f290) rfl (Eq.mpr (by kernel_rfl) h)

/-- (*weighlock/clh.Lock).Step -/
def preClhLockStep (q0 : Nat) (a1 a2 a3 : Int) (R : Ending → 
    World → Prop) (w : World) : Prop :=
  ∀ w0, w0 = w.alloc (.cells #[(.int .i64 0), (.bool false), (.bool false), (.bool false)] 86) →
 (∀ w1, w1 = w0.alloc (.cells #[(.int .i64 0), (.bool false), (.bool false), (.bool false)] 86) →
 (∃ p2, w1.cell? ⟨q0, 0, none⟩ = some (.pointer p2) ∧ (Calls Tryz.prog 138 #[(.pointer p2), (.int .i64 a1)] w1 (fun e3 w4 =>
 ∃ n5, e3 = .returned (.int .i64 n5) ∧ (Br (n5 == 1) (∃ p6 l7 c8, w4.cell? ⟨q0, 3, none⟩ = some (.slice p6 l7 c8) ∧
 (((0 : Int) ≤ a1 ∧ a1 < ((l7 : Nat) : Int)) ∧ (PtrSome p6 (fun b9 o10 => Calls Tryz.prog 297 #[(.pointer (some ⟨q0, 0, none⟩)), (.pointer (some ⟨b9, o10 + ((Int.toNat a1)) * 3, none⟩)), (.int .i64 a2)] w4 (fun e11 w12 =>
 ∃ n13 b14 b15 b16, e11 = .returned (.agg #[(.int .i64 n13), (.bool b14), (.bool b15), (.bool b16)]) ∧
 (w12.there w0.heap.size 0 4 ∧ (∀ w17, w17 = w12.setCells w0.heap.size 0 [(.int .i64 n13), (.bool b14), (.bool b15), (.bool b16)] →
 (∀ w18, w18 = w17.drew → (∃ p19, w18.cell? ⟨q0, 0, none⟩ = some (.pointer p19) ∧
 (∃ n20, w18.cell? ⟨w0.heap.size, 0, none⟩ = some (.int .i64 n20) ∧ (Calls Tryz.prog 140 #[(.pointer p19), (.int .i64 a1), (.int .i64 n20)] w18 (fun e21 w22 =>
 ∃ b23, e21 = .returned (.bool b23) ∧ (∃ n24, w22.cell? ⟨w0.heap.size, 0, none⟩ = some (.int .i64 n24) ∧
 (∃ b25, w22.cell? ⟨w0.heap.size, 1, none⟩ = some (.bool b25) ∧ (∃ b26, w22.cell? ⟨w0.heap.size, 2, none⟩ = some (.bool b26) ∧
 (∃ b27, w22.cell? ⟨w0.heap.size, 3, none⟩ = some (.bool b27) ∧ (w22.there w.heap.size 0 4 ∧
 (∀ w28, w28 = w22.setCells w.heap.size 0 [(.int .i64 n24), (.bool b25), (.bool b26), (.bool b27)] →
 (∃ n29, w28.cell? ⟨w.heap.size, 0, none⟩ = some (.int .i64 n29) ∧ (∃ b30, w28.cell? ⟨w.heap.size, 1, none⟩ = some (.bool b30) ∧
 (∃ b31, w28.cell? ⟨w.heap.size, 2, none⟩ = some (.bool b31) ∧ (∃ b32, w28.cell? ⟨w.heap.size, 3, none⟩ = some (.bool b32) ∧
 (R (.returned (.agg #[(.int .i64 n29), (.bool b30), (.bool b31), (.bool b32)])) w28))))))))))))))))))))))) (Br (n5 == 3) (∃ p33 l34 c35, w4.cell? ⟨q0, 3, none⟩ = some (.slice p33 l34 c35) ∧
 (((0 : Int) ≤ a1 ∧ a1 < ((l34 : Nat) : Int)) ∧ (PtrSome p33 (fun b36 o37 => ∃ n38, w4.cell? ⟨b36, o37 + ((Int.toNat a1)) * 3, none⟩ = some (.int .i64 n38) ∧
 (∃ n39, w4.cell? ⟨b36, o37 + ((Int.toNat a1)) * 3 + 1, none⟩ = some (.int .i64 n39) ∧ (∃ n40, w4.cell? ⟨b36, o37 + ((Int.toNat a1)) * 3 + 2, none⟩ = some (.int .i64 n40) ∧
 (∀ w41, w41 = w4.alloc (.cells #[(.int .i64 0), (.int .i64 0), (.int .i64 0)] 318) → (w41.there w4.heap.size 0 3 ∧
 (∀ w42, w42 = w41.setCells w4.heap.size 0 [(.int .i64 n38), (.int .i64 n39), (.int .i64 n40)] →
 (∀ w43, w43 = w42.drew → (∃ p44, w43.cell? ⟨q0, 1, none⟩ = some (.pointer p44) ∧
 (∃ n45, w43.cell? ⟨w4.heap.size, 0, none⟩ = some (.int .i64 n45) ∧ (Calls Tryz.prog 298 #[(.pointer (some ⟨q0, 0, none⟩)), (.int .i64 n45)] w43 (fun e46 w47 =>
 ∃ n48, e46 = .returned (.int .i64 n48) ∧ ((w47.cell? ⟨q0, 1, none⟩ = some (.pointer p44)) ∧
 (Calls Tryz.prog 216 #[(.pointer p44), (.int .i64 a2), (.int .i64 n48), (.int .u32 0)] w47 (fun e49 w50 =>
 e49 = .returned (.tuple #[]) ∧ (∀ w51, w51 = w50.drew → (∃ p52 l53 c54, w51.cell? ⟨q0, 3, none⟩ = some (.slice p52 l53 c54) ∧
 (∃ n55, w51.cell? ⟨w4.heap.size, 1, none⟩ = some (.int .i64 n55) ∧ (((0 : Int) ≤ a1 ∧ a1 < ((l53 : Nat) : Int)) ∧
 (PtrSome p52 (fun b56 o57 => w51.there b56 (o57 + ((Int.toNat a1)) * 3) 3 ∧ (∀ w58, w58 = w51.setCells b56 (o57 + ((Int.toNat a1)) * 3) [(.int .i64 n55), (.int .i64 0), (.int .i64 0)] →
 (CanSet w58 w0.heap.size 0 ∧ (∀ w59, w59 = w58.setCell ⟨w0.heap.size, 0, none⟩ (.int .i64 3) →
 (∀ w60, w60 = w59.drew → (∃ p61, w60.cell? ⟨q0, 0, none⟩ = some (.pointer p61) ∧
 (∃ n62, w60.cell? ⟨w0.heap.size, 0, none⟩ = some (.int .i64 n62) ∧ (Calls Tryz.prog 140 #[(.pointer p61), (.int .i64 a1), (.int .i64 n62)] w60 (fun e63 w64 =>
 ∃ b65, e63 = .returned (.bool b65) ∧ (∃ n66, w64.cell? ⟨w0.heap.size, 0, none⟩ = some (.int .i64 n66) ∧
 (∃ b67, w64.cell? ⟨w0.heap.size, 1, none⟩ = some (.bool b67) ∧ (∃ b68, w64.cell? ⟨w0.heap.size, 2, none⟩ = some (.bool b68) ∧
 (∃ b69, w64.cell? ⟨w0.heap.size, 3, none⟩ = some (.bool b69) ∧ (w64.there w.heap.size 0 4 ∧
 (∀ w70, w70 = w64.setCells w.heap.size 0 [(.int .i64 n66), (.bool b67), (.bool b68), (.bool b69)] →
 (∃ n71, w70.cell? ⟨w.heap.size, 0, none⟩ = some (.int .i64 n71) ∧ (∃ b72, w70.cell? ⟨w.heap.size, 1, none⟩ = some (.bool b72) ∧
 (∃ b73, w70.cell? ⟨w.heap.size, 2, none⟩ = some (.bool b73) ∧ (∃ b74, w70.cell? ⟨w.heap.size, 3, none⟩ = some (.bool b74) ∧
 (R (.returned (.agg #[(.int .i64 n71), (.bool b72), (.bool b73), (.bool b74)])) w70)))))))))))))))))))))))))))))))))))))))))) (Br (n5 == 4) (CanSet w4 w0.heap.size 0 ∧
 (∀ w75, w75 = w4.setCell ⟨w0.heap.size, 0, none⟩ (.int .i64 5) → (∀ w76, w76 = w75.drew →
 (∃ p77, w76.cell? ⟨q0, 1, none⟩ = some (.pointer p77) ∧ (∃ n78, w76.cell? ⟨q0, 2, none⟩ = some (.int .i64 n78) ∧
 (∃ p79 l80 c81, w76.cell? ⟨q0, 3, none⟩ = some (.slice p79 l80 c81) ∧ (((0 : Int) ≤ a1 ∧
 a1 < ((l80 : Nat) : Int)) ∧ (PtrSome p79 (fun b82 o83 => ∃ n84, w76.cell? ⟨b82, o83 + ((Int.toNat a1)) * 3, none⟩ = some (.int .i64 n84) ∧
 (Calls Tryz.prog 200 #[(.pointer p77), (.int .i64 a2), (.int .i64 n78)] w76 (fun e85 w86 =>
 ∃ n87, e85 = .returned (.int .u32 n87) ∧ ((w86.cell? ⟨b82, o83 + ((Int.toNat a1)) * 3, none⟩ = some (.int .i64 n84)) ∧
 ((w86.cell? ⟨q0, 3, none⟩ = some (.slice p79 l80 c81)) ∧ (Br (n87 == (IntKind.u32.wrap n84)) (CanSet w86 w0.heap.size 0 ∧
 (∀ w88, w88 = w86.setCell ⟨w0.heap.size, 0, none⟩ (.int .i64 4) → (∀ w89, w89 = w88.drew →
 (∃ p90, w89.cell? ⟨q0, 0, none⟩ = some (.pointer p90) ∧ (∃ n91, w89.cell? ⟨w0.heap.size, 0, none⟩ = some (.int .i64 n91) ∧
 (Calls Tryz.prog 140 #[(.pointer p90), (.int .i64 a1), (.int .i64 n91)] w89 (fun e92 w93 =>
 ∃ b94, e92 = .returned (.bool b94) ∧ (∃ n95, w93.cell? ⟨w0.heap.size, 0, none⟩ = some (.int .i64 n95) ∧
 (∃ b96, w93.cell? ⟨w0.heap.size, 1, none⟩ = some (.bool b96) ∧ (∃ b97, w93.cell? ⟨w0.heap.size, 2, none⟩ = some (.bool b97) ∧
 (∃ b98, w93.cell? ⟨w0.heap.size, 3, none⟩ = some (.bool b98) ∧ (w93.there w.heap.size 0 4 ∧
 (∀ w99, w99 = w93.setCells w.heap.size 0 [(.int .i64 n95), (.bool b96), (.bool b97), (.bool b98)] →
 (∃ n100, w99.cell? ⟨w.heap.size, 0, none⟩ = some (.int .i64 n100) ∧ (∃ b101, w99.cell? ⟨w.heap.size, 1, none⟩ = some (.bool b101) ∧
 (∃ b102, w99.cell? ⟨w.heap.size, 2, none⟩ = some (.bool b102) ∧ (∃ b103, w99.cell? ⟨w.heap.size, 3, none⟩ = some (.bool b103) ∧
 (R (.returned (.agg #[(.int .i64 n100), (.bool b101), (.bool b102), (.bool b103)])) w99)))))))))))))))))) (∀ w104, w104 = w86.drew →
 (∃ p105, w104.cell? ⟨q0, 0, none⟩ = some (.pointer p105) ∧ (∃ n106, w104.cell? ⟨w0.heap.size, 0, none⟩ = some (.int .i64 n106) ∧
 (Calls Tryz.prog 140 #[(.pointer p105), (.int .i64 a1), (.int .i64 n106)] w104 (fun e107 w108 =>
 ∃ b109, e107 = .returned (.bool b109) ∧ (∃ n110, w108.cell? ⟨w0.heap.size, 0, none⟩ = some (.int .i64 n110) ∧
 (∃ b111, w108.cell? ⟨w0.heap.size, 1, none⟩ = some (.bool b111) ∧ (∃ b112, w108.cell? ⟨w0.heap.size, 2, none⟩ = some (.bool b112) ∧
 (∃ b113, w108.cell? ⟨w0.heap.size, 3, none⟩ = some (.bool b113) ∧ (w108.there w.heap.size 0 4 ∧
 (∀ w114, w114 = w108.setCells w.heap.size 0 [(.int .i64 n110), (.bool b111), (.bool b112), (.bool b113)] →
 (∃ n115, w114.cell? ⟨w.heap.size, 0, none⟩ = some (.int .i64 n115) ∧ (∃ b116, w114.cell? ⟨w.heap.size, 1, none⟩ = some (.bool b116) ∧
 (∃ b117, w114.cell? ⟨w.heap.size, 2, none⟩ = some (.bool b117) ∧ (∃ b118, w114.cell? ⟨w.heap.size, 3, none⟩ = some (.bool b118) ∧
 (R (.returned (.agg #[(.int .i64 n115), (.bool b116), (.bool b117), (.bool b118)])) w114)))))))))))))))))))))))))))))) (∀ w119, w119 = w4.drew →
 (∃ p120, w119.cell? ⟨q0, 0, none⟩ = some (.pointer p120) ∧ (∃ n121, w119.cell? ⟨w0.heap.size, 0, none⟩ = some (.int .i64 n121) ∧
 (Calls Tryz.prog 140 #[(.pointer p120), (.int .i64 a1), (.int .i64 n121)] w119 (fun e122 w123 =>
 ∃ b124, e122 = .returned (.bool b124) ∧ (∃ n125, w123.cell? ⟨w0.heap.size, 0, none⟩ = some (.int .i64 n125) ∧
 (∃ b126, w123.cell? ⟨w0.heap.size, 1, none⟩ = some (.bool b126) ∧ (∃ b127, w123.cell? ⟨w0.heap.size, 2, none⟩ = some (.bool b127) ∧
 (∃ b128, w123.cell? ⟨w0.heap.size, 3, none⟩ = some (.bool b128) ∧ (w123.there w.heap.size 0 4 ∧
 (∀ w129, w129 = w123.setCells w.heap.size 0 [(.int .i64 n125), (.bool b126), (.bool b127), (.bool b128)] →
 (∃ n130, w129.cell? ⟨w.heap.size, 0, none⟩ = some (.int .i64 n130) ∧ (∃ b131, w129.cell? ⟨w.heap.size, 1, none⟩ = some (.bool b131) ∧
 (∃ b132, w129.cell? ⟨w.heap.size, 2, none⟩ = some (.bool b132) ∧ (∃ b133, w129.cell? ⟨w.heap.size, 3, none⟩ = some (.bool b133) ∧
 (R (.returned (.agg #[(.int .i64 n130), (.bool b131), (.bool b132), (.bool b133)])) w129)))))))))))))))))))))))
theorem callsClhLockStep (q0 : Nat) (a1 a2 a3 : Int) (R : Ending → 
    World → Prop) (w : World) (h : preClhLockStep q0 a1 a2 a3 R w) : Calls Tryz.prog 295 #[(.pointer (some ⟨q0, 0, none⟩)), (.int .i64 a1), (.int .i64 a2), (.int .i64 a3)] w R :=
  calls_of_sym Tryz.func295 (c := bodyOf Tryz.f295) rfl (Eq.mpr (by kernel_rfl) h)

/-- (*weighlock/clh.Lock).Use -/
def preClhLockUse (q0 : Nat) (q1 : Nat) (R : Ending → World → Prop) (w : World) : Prop :=
  CanSet w q0 1 ∧
 (∀ w0, w0 = w.setCell ⟨q0, 1, none⟩ (.pointer (some ⟨q1, 0, none⟩)) → (R (.returned (.tuple #[])) w0))
theorem callsClhLockUse (q0 : Nat) (q1 : Nat) (R : Ending → 
    World → Prop) (w : World) (h : preClhLockUse q0 q1 R w) : Calls Tryz.prog 296 #[(.pointer (some ⟨q0, 0, none⟩)), (.pointer (some ⟨q1, 0, none⟩))] w R :=
  calls_of_sym Tryz.func296 (c := bodyOf Tryz.f296) rfl (Eq.mpr (by kernel_rfl) h)

/-- (*weighlock/clh.Lock).lock -/
def preClhLock_lock (q0 : Nat) (q1 qo1 : Nat) (a2 : Int) (R : Ending → 
    World → Prop) (w : World) : Prop :=
  ∀ w0, w0 = w.alloc (.cells #[(.int .i64 0), (.bool false), (.bool false), (.bool false)] 86) →
 (∃ n1, w0.cell? ⟨q1, qo1 + 2, none⟩ = some (.int .i64 n1) ∧ (Br (n1 == 0) (∀ w2, w2 = w0.drew →
 (∃ p3, w2.cell? ⟨q0, 1, none⟩ = some (.pointer p3) ∧ (∃ n4, w2.cell? ⟨q1, qo1, none⟩ = some (.int .i64 n4) ∧
 (Calls Tryz.prog 298 #[(.pointer (some ⟨q0, 0, none⟩)), (.int .i64 n4)] w2 (fun e5 w6 =>
 ∃ n7, e5 = .returned (.int .i64 n7) ∧ ((w6.cell? ⟨q0, 1, none⟩ = some (.pointer p3)) ∧
 (Calls Tryz.prog 216 #[(.pointer p3), (.int .i64 a2), (.int .i64 n7), (.int .u32 1)] w6 (fun e8 w9 =>
 e8 = .returned (.tuple #[]) ∧ (CanSet w9 q1 (qo1 + 2) ∧ (∀ w10, w10 = w9.setCell ⟨q1, qo1 + 2, none⟩ (.int .i64 1) →
 (w10.there w.heap.size 0 4 ∧ (∀ w11, w11 = w10.setCells w.heap.size 0 [(.int .i64 0), (.bool false), (.bool false), (.bool false)] →
 (∃ n12, w11.cell? ⟨w.heap.size, 0, none⟩ = some (.int .i64 n12) ∧ (∃ b13, w11.cell? ⟨w.heap.size, 1, none⟩ = some (.bool b13) ∧
 (∃ b14, w11.cell? ⟨w.heap.size, 2, none⟩ = some (.bool b14) ∧ (∃ b15, w11.cell? ⟨w.heap.size, 3, none⟩ = some (.bool b15) ∧
 (R (.returned (.agg #[(.int .i64 n12), (.bool b13), (.bool b14), (.bool b15)])) w11))))))))))))))))) (Br (n1 == 1) (∀ w16, w16 = w0.drew →
 (∃ p17, w16.cell? ⟨q0, 1, none⟩ = some (.pointer p17) ∧ (∃ n18, w16.cell? ⟨q0, 2, none⟩ = some (.int .i64 n18) ∧
 (∃ n19, w16.cell? ⟨q1, qo1, none⟩ = some (.int .i64 n19) ∧ (Calls Tryz.prog 299 #[(.pointer p17), (.int .i64 a2), (.int .i64 n18), (.int .u32 (IntKind.u32.wrap n19))] w16 (fun e20 w21 =>
 ∃ n22, e20 = .returned (.int .u32 n22) ∧ (CanSet w21 q1 (qo1 + 1) ∧ (∀ w23, w23 = w21.setCell ⟨q1, qo1 + 1, none⟩ (.int .i64 (IntKind.i64.wrap n22)) →
 (CanSet w23 q1 (qo1 + 2) ∧ (∀ w24, w24 = w23.setCell ⟨q1, qo1 + 2, none⟩ (.int .i64 2) → (w24.there w.heap.size 0 4 ∧
 (∀ w25, w25 = w24.setCells w.heap.size 0 [(.int .i64 0), (.bool true), (.bool false), (.bool false)] →
 (∃ n26, w25.cell? ⟨w.heap.size, 0, none⟩ = some (.int .i64 n26) ∧ (∃ b27, w25.cell? ⟨w.heap.size, 1, none⟩ = some (.bool b27) ∧
 (∃ b28, w25.cell? ⟨w.heap.size, 2, none⟩ = some (.bool b28) ∧ (∃ b29, w25.cell? ⟨w.heap.size, 3, none⟩ = some (.bool b29) ∧
 (R (.returned (.agg #[(.int .i64 n26), (.bool b27), (.bool b28), (.bool b29)])) w25))))))))))))))))) (Br (n1 == 2) (∀ w30, w30 = w0.drew →
 (∃ p31, w30.cell? ⟨q0, 1, none⟩ = some (.pointer p31) ∧ (∃ n32, w30.cell? ⟨q1, qo1 + 1, none⟩ = some (.int .i64 n32) ∧
 (Calls Tryz.prog 298 #[(.pointer (some ⟨q0, 0, none⟩)), (.int .i64 n32)] w30 (fun e33 w34 =>
 ∃ n35, e33 = .returned (.int .i64 n35) ∧ ((w34.cell? ⟨q0, 1, none⟩ = some (.pointer p31)) ∧
 (Calls Tryz.prog 200 #[(.pointer p31), (.int .i64 a2), (.int .i64 n35)] w34 (fun e36 w37 =>
 ∃ n38, e36 = .returned (.int .u32 n38) ∧ (Br (n38 == 0) (w37.there w.heap.size 0 4 ∧
 (∀ w39, w39 = w37.setCells w.heap.size 0 [(.int .i64 1), (.bool false), (.bool false), (.bool false)] →
 (∃ n40, w39.cell? ⟨w.heap.size, 0, none⟩ = some (.int .i64 n40) ∧ (∃ b41, w39.cell? ⟨w.heap.size, 1, none⟩ = some (.bool b41) ∧
 (∃ b42, w39.cell? ⟨w.heap.size, 2, none⟩ = some (.bool b42) ∧ (∃ b43, w39.cell? ⟨w.heap.size, 3, none⟩ = some (.bool b43) ∧
 (R (.returned (.agg #[(.int .i64 n40), (.bool b41), (.bool b42), (.bool b43)])) w39))))))) (w37.there w.heap.size 0 4 ∧
 (∀ w44, w44 = w37.setCells w.heap.size 0 [(.int .i64 0), (.bool false), (.bool false), (.bool false)] →
 (∃ n45, w44.cell? ⟨w.heap.size, 0, none⟩ = some (.int .i64 n45) ∧ (∃ b46, w44.cell? ⟨w.heap.size, 1, none⟩ = some (.bool b46) ∧
 (∃ b47, w44.cell? ⟨w.heap.size, 2, none⟩ = some (.bool b47) ∧ (∃ b48, w44.cell? ⟨w.heap.size, 3, none⟩ = some (.bool b48) ∧
 (R (.returned (.agg #[(.int .i64 n45), (.bool b46), (.bool b47), (.bool b48)])) w44)))))))))))))))) (w0.there w.heap.size 0 4 ∧
 (∀ w49, w49 = w0.setCells w.heap.size 0 [(.int .i64 0), (.bool false), (.bool false), (.bool false)] →
 (∃ n50, w49.cell? ⟨w.heap.size, 0, none⟩ = some (.int .i64 n50) ∧ (∃ b51, w49.cell? ⟨w.heap.size, 1, none⟩ = some (.bool b51) ∧
 (∃ b52, w49.cell? ⟨w.heap.size, 2, none⟩ = some (.bool b52) ∧ (∃ b53, w49.cell? ⟨w.heap.size, 3, none⟩ = some (.bool b53) ∧
 (R (.returned (.agg #[(.int .i64 n50), (.bool b51), (.bool b52), (.bool b53)])) w49)))))))))))
theorem callsClhLock_lock (q0 : Nat) (q1 qo1 : Nat) (a2 : Int) (R : Ending → 
    World → Prop) (w : World) (h : preClhLock_lock q0 q1 qo1 a2 R w) : Calls Tryz.prog 297 #[(.pointer (some ⟨q0, 0, none⟩)), (.pointer (some ⟨q1, qo1, none⟩)), (.int .i64 a2)] w R :=
  calls_of_sym Tryz.func297 (c := bodyOf Tryz.f297) rfl (Eq.mpr (by kernel_rfl) h)

/-- (*weighlock/clh.Lock).flag -/
def preClhLock_flag (q0 : Nat) (a1 : Int) (R : Ending → World → Prop) (w : World) : Prop :=
  ∃ n0, w.cell? ⟨q0, 2, none⟩ = some (.int .i64 n0) ∧
 (R (.returned (.int .i64 (IntKind.i64.wrap ((IntKind.i64.wrap (n0 + 1)) + a1)))) w)
theorem callsClhLock_flag (q0 : Nat) (a1 : Int) (R : Ending → 
    World → Prop) (w : World) (h : preClhLock_flag q0 a1 R w) : Calls Tryz.prog 298 #[(.pointer (some ⟨q0, 0, none⟩)), (.int .i64 a1)] w R :=
  calls_of_sym Tryz.func298 (c := bodyOf Tryz.f298) rfl (Eq.mpr (by kernel_rfl) h)

/-- (*weighlock/mcs.Lock).Step -/
def preMcsLockStep (q0 : Nat) (a1 a2 a3 : Int) (R : Ending → 
    World → Prop) (w : World) : Prop :=
  ∀ w0, w0 = w.alloc (.cells #[(.int .i64 0), (.bool false), (.bool false), (.bool false)] 86) →
 (∀ w1, w1 = w0.alloc (.cells #[(.int .i64 0), (.bool false), (.bool false), (.bool false)] 86) →
 (∃ p2, w1.cell? ⟨q0, 0, none⟩ = some (.pointer p2) ∧ (Calls Tryz.prog 138 #[(.pointer p2), (.int .i64 a1)] w1 (fun e3 w4 =>
 ∃ n5, e3 = .returned (.int .i64 n5) ∧ (Br (n5 == 1) (∃ p6 l7 c8, w4.cell? ⟨q0, 3, none⟩ = some (.slice p6 l7 c8) ∧
 (((0 : Int) ≤ a1 ∧ a1 < ((l7 : Nat) : Int)) ∧ (PtrSome p6 (fun b9 o10 => Calls Tryz.prog 305 #[(.pointer (some ⟨q0, 0, none⟩)), (.pointer (some ⟨b9, o10 + ((Int.toNat a1)) * 2, none⟩)), (.int .u32 (IntKind.u32.wrap (IntKind.i64.wrap (a1 + 1)))), (.int .i64 a2)] w4 (fun e11 w12 =>
 ∃ n13 b14 b15 b16, e11 = .returned (.agg #[(.int .i64 n13), (.bool b14), (.bool b15), (.bool b16)]) ∧
 (w12.there w0.heap.size 0 4 ∧ (∀ w17, w17 = w12.setCells w0.heap.size 0 [(.int .i64 n13), (.bool b14), (.bool b15), (.bool b16)] →
 (∀ w18, w18 = w17.drew → (∃ p19, w18.cell? ⟨q0, 0, none⟩ = some (.pointer p19) ∧
 (∃ n20, w18.cell? ⟨w0.heap.size, 0, none⟩ = some (.int .i64 n20) ∧ (Calls Tryz.prog 140 #[(.pointer p19), (.int .i64 a1), (.int .i64 n20)] w18 (fun e21 w22 =>
 ∃ b23, e21 = .returned (.bool b23) ∧ (Br b23 (∃ p24 l25 c26, w22.cell? ⟨q0, 3, none⟩ = some (.slice p24 l25 c26) ∧
 (((0 : Int) ≤ a1 ∧ a1 < ((l25 : Nat) : Int)) ∧ (PtrSome p24 (fun b27 o28 => w22.there b27 (o28 + ((Int.toNat a1)) * 2) 2 ∧
 (∀ w29, w29 = w22.setCells b27 (o28 + ((Int.toNat a1)) * 2) [(.int .i64 0), (.int .u32 0)] →
 (∃ n30, w29.cell? ⟨w0.heap.size, 0, none⟩ = some (.int .i64 n30) ∧ (∃ b31, w29.cell? ⟨w0.heap.size, 1, none⟩ = some (.bool b31) ∧
 (∃ b32, w29.cell? ⟨w0.heap.size, 2, none⟩ = some (.bool b32) ∧ (∃ b33, w29.cell? ⟨w0.heap.size, 3, none⟩ = some (.bool b33) ∧
 (w29.there w.heap.size 0 4 ∧ (∀ w34, w34 = w29.setCells w.heap.size 0 [(.int .i64 n30), (.bool b31), (.bool b32), (.bool b33)] →
 (∃ n35, w34.cell? ⟨w.heap.size, 0, none⟩ = some (.int .i64 n35) ∧ (∃ b36, w34.cell? ⟨w.heap.size, 1, none⟩ = some (.bool b36) ∧
 (∃ b37, w34.cell? ⟨w.heap.size, 2, none⟩ = some (.bool b37) ∧ (∃ b38, w34.cell? ⟨w.heap.size, 3, none⟩ = some (.bool b38) ∧
 (R (.returned (.agg #[(.int .i64 n35), (.bool b36), (.bool b37), (.bool b38)])) w34)))))))))))))))) (∃ n39, w22.cell? ⟨w0.heap.size, 0, none⟩ = some (.int .i64 n39) ∧
 (∃ b40, w22.cell? ⟨w0.heap.size, 1, none⟩ = some (.bool b40) ∧ (∃ b41, w22.cell? ⟨w0.heap.size, 2, none⟩ = some (.bool b41) ∧
 (∃ b42, w22.cell? ⟨w0.heap.size, 3, none⟩ = some (.bool b42) ∧ (w22.there w.heap.size 0 4 ∧
 (∀ w43, w43 = w22.setCells w.heap.size 0 [(.int .i64 n39), (.bool b40), (.bool b41), (.bool b42)] →
 (∃ n44, w43.cell? ⟨w.heap.size, 0, none⟩ = some (.int .i64 n44) ∧ (∃ b45, w43.cell? ⟨w.heap.size, 1, none⟩ = some (.bool b45) ∧
 (∃ b46, w43.cell? ⟨w.heap.size, 2, none⟩ = some (.bool b46) ∧ (∃ b47, w43.cell? ⟨w.heap.size, 3, none⟩ = some (.bool b47) ∧
 (R (.returned (.agg #[(.int .i64 n44), (.bool b45), (.bool b46), (.bool b47)])) w43)))))))))))))))))))))))) (Br (n5 == 3) (∃ p48 l49 c50, w4.cell? ⟨q0, 3, none⟩ = some (.slice p48 l49 c50) ∧
 (((0 : Int) ≤ a1 ∧ a1 < ((l49 : Nat) : Int)) ∧ (PtrSome p48 (fun b51 o52 => Calls Tryz.prog 306 #[(.pointer (some ⟨q0, 0, none⟩)), (.pointer (some ⟨b51, o52 + ((Int.toNat a1)) * 2, none⟩)), (.int .u32 (IntKind.u32.wrap (IntKind.i64.wrap (a1 + 1)))), (.int .i64 a2)] w4 (fun e53 w54 =>
 ∃ n55, e53 = .returned (.int .i64 n55) ∧ (CanSet w54 w0.heap.size 0 ∧ (∀ w56, w56 = w54.setCell ⟨w0.heap.size, 0, none⟩ (.int .i64 n55) →
 (∀ w57, w57 = w56.drew → (∃ p58, w57.cell? ⟨q0, 0, none⟩ = some (.pointer p58) ∧
 (∃ n59, w57.cell? ⟨w0.heap.size, 0, none⟩ = some (.int .i64 n59) ∧ (Calls Tryz.prog 140 #[(.pointer p58), (.int .i64 a1), (.int .i64 n59)] w57 (fun e60 w61 =>
 ∃ b62, e60 = .returned (.bool b62) ∧ (Br b62 (∃ p63 l64 c65, w61.cell? ⟨q0, 3, none⟩ = some (.slice p63 l64 c65) ∧
 (((0 : Int) ≤ a1 ∧ a1 < ((l64 : Nat) : Int)) ∧ (PtrSome p63 (fun b66 o67 => w61.there b66 (o67 + ((Int.toNat a1)) * 2) 2 ∧
 (∀ w68, w68 = w61.setCells b66 (o67 + ((Int.toNat a1)) * 2) [(.int .i64 0), (.int .u32 0)] →
 (∃ n69, w68.cell? ⟨w0.heap.size, 0, none⟩ = some (.int .i64 n69) ∧ (∃ b70, w68.cell? ⟨w0.heap.size, 1, none⟩ = some (.bool b70) ∧
 (∃ b71, w68.cell? ⟨w0.heap.size, 2, none⟩ = some (.bool b71) ∧ (∃ b72, w68.cell? ⟨w0.heap.size, 3, none⟩ = some (.bool b72) ∧
 (w68.there w.heap.size 0 4 ∧ (∀ w73, w73 = w68.setCells w.heap.size 0 [(.int .i64 n69), (.bool b70), (.bool b71), (.bool b72)] →
 (∃ n74, w73.cell? ⟨w.heap.size, 0, none⟩ = some (.int .i64 n74) ∧ (∃ b75, w73.cell? ⟨w.heap.size, 1, none⟩ = some (.bool b75) ∧
 (∃ b76, w73.cell? ⟨w.heap.size, 2, none⟩ = some (.bool b76) ∧ (∃ b77, w73.cell? ⟨w.heap.size, 3, none⟩ = some (.bool b77) ∧
 (R (.returned (.agg #[(.int .i64 n74), (.bool b75), (.bool b76), (.bool b77)])) w73)))))))))))))))) (∃ n78, w61.cell? ⟨w0.heap.size, 0, none⟩ = some (.int .i64 n78) ∧
 (∃ b79, w61.cell? ⟨w0.heap.size, 1, none⟩ = some (.bool b79) ∧ (∃ b80, w61.cell? ⟨w0.heap.size, 2, none⟩ = some (.bool b80) ∧
 (∃ b81, w61.cell? ⟨w0.heap.size, 3, none⟩ = some (.bool b81) ∧ (w61.there w.heap.size 0 4 ∧
 (∀ w82, w82 = w61.setCells w.heap.size 0 [(.int .i64 n78), (.bool b79), (.bool b80), (.bool b81)] →
 (∃ n83, w82.cell? ⟨w.heap.size, 0, none⟩ = some (.int .i64 n83) ∧ (∃ b84, w82.cell? ⟨w.heap.size, 1, none⟩ = some (.bool b84) ∧
 (∃ b85, w82.cell? ⟨w.heap.size, 2, none⟩ = some (.bool b85) ∧ (∃ b86, w82.cell? ⟨w.heap.size, 3, none⟩ = some (.bool b86) ∧
 (R (.returned (.agg #[(.int .i64 n83), (.bool b84), (.bool b85), (.bool b86)])) w82)))))))))))))))))))))))) (Br (n5 == 4) (CanSet w4 w0.heap.size 0 ∧
 (∀ w87, w87 = w4.setCell ⟨w0.heap.size, 0, none⟩ (.int .i64 5) → (∀ w88, w88 = w87.drew →
 (∃ p89, w88.cell? ⟨q0, 1, none⟩ = some (.pointer p89) ∧ (Calls Tryz.prog 307 #[(.pointer (some ⟨q0, 0, none⟩)), (.int .u32 (IntKind.u32.wrap (IntKind.i64.wrap (a1 + 1))))] w88 (fun e90 w91 =>
 ∃ n92, e90 = .returned (.int .i64 n92) ∧ ((w91.cell? ⟨q0, 1, none⟩ = some (.pointer p89)) ∧
 (Calls Tryz.prog 200 #[(.pointer p89), (.int .i64 a2), (.int .i64 n92)] w91 (fun e93 w94 =>
 ∃ n95, e93 = .returned (.int .u32 n95) ∧ (Br (n95 == 0) (CanSet w94 w0.heap.size 0 ∧
 (∀ w96, w96 = w94.setCell ⟨w0.heap.size, 0, none⟩ (.int .i64 4) → (∀ w97, w97 = w96.drew →
 (∃ p98, w97.cell? ⟨q0, 0, none⟩ = some (.pointer p98) ∧ (∃ n99, w97.cell? ⟨w0.heap.size, 0, none⟩ = some (.int .i64 n99) ∧
 (Calls Tryz.prog 140 #[(.pointer p98), (.int .i64 a1), (.int .i64 n99)] w97 (fun e100 w101 =>
 ∃ b102, e100 = .returned (.bool b102) ∧ (Br b102 (∃ p103 l104 c105, w101.cell? ⟨q0, 3, none⟩ = some (.slice p103 l104 c105) ∧
 (((0 : Int) ≤ a1 ∧ a1 < ((l104 : Nat) : Int)) ∧ (PtrSome p103 (fun b106 o107 => w101.there b106 (o107 + ((Int.toNat a1)) * 2) 2 ∧
 (∀ w108, w108 = w101.setCells b106 (o107 + ((Int.toNat a1)) * 2) [(.int .i64 0), (.int .u32 0)] →
 (∃ n109, w108.cell? ⟨w0.heap.size, 0, none⟩ = some (.int .i64 n109) ∧ (∃ b110, w108.cell? ⟨w0.heap.size, 1, none⟩ = some (.bool b110) ∧
 (∃ b111, w108.cell? ⟨w0.heap.size, 2, none⟩ = some (.bool b111) ∧ (∃ b112, w108.cell? ⟨w0.heap.size, 3, none⟩ = some (.bool b112) ∧
 (w108.there w.heap.size 0 4 ∧ (∀ w113, w113 = w108.setCells w.heap.size 0 [(.int .i64 n109), (.bool b110), (.bool b111), (.bool b112)] →
 (∃ n114, w113.cell? ⟨w.heap.size, 0, none⟩ = some (.int .i64 n114) ∧ (∃ b115, w113.cell? ⟨w.heap.size, 1, none⟩ = some (.bool b115) ∧
 (∃ b116, w113.cell? ⟨w.heap.size, 2, none⟩ = some (.bool b116) ∧ (∃ b117, w113.cell? ⟨w.heap.size, 3, none⟩ = some (.bool b117) ∧
 (R (.returned (.agg #[(.int .i64 n114), (.bool b115), (.bool b116), (.bool b117)])) w113)))))))))))))))) (∃ n118, w101.cell? ⟨w0.heap.size, 0, none⟩ = some (.int .i64 n118) ∧
 (∃ b119, w101.cell? ⟨w0.heap.size, 1, none⟩ = some (.bool b119) ∧ (∃ b120, w101.cell? ⟨w0.heap.size, 2, none⟩ = some (.bool b120) ∧
 (∃ b121, w101.cell? ⟨w0.heap.size, 3, none⟩ = some (.bool b121) ∧ (w101.there w.heap.size 0 4 ∧
 (∀ w122, w122 = w101.setCells w.heap.size 0 [(.int .i64 n118), (.bool b119), (.bool b120), (.bool b121)] →
 (∃ n123, w122.cell? ⟨w.heap.size, 0, none⟩ = some (.int .i64 n123) ∧ (∃ b124, w122.cell? ⟨w.heap.size, 1, none⟩ = some (.bool b124) ∧
 (∃ b125, w122.cell? ⟨w.heap.size, 2, none⟩ = some (.bool b125) ∧ (∃ b126, w122.cell? ⟨w.heap.size, 3, none⟩ = some (.bool b126) ∧
 (R (.returned (.agg #[(.int .i64 n123), (.bool b124), (.bool b125), (.bool b126)])) w122))))))))))))))))))) (∀ w127, w127 = w94.drew →
 (∃ p128, w127.cell? ⟨q0, 0, none⟩ = some (.pointer p128) ∧ (∃ n129, w127.cell? ⟨w0.heap.size, 0, none⟩ = some (.int .i64 n129) ∧
 (Calls Tryz.prog 140 #[(.pointer p128), (.int .i64 a1), (.int .i64 n129)] w127 (fun e130 w131 =>
 ∃ b132, e130 = .returned (.bool b132) ∧ (Br b132 (∃ p133 l134 c135, w131.cell? ⟨q0, 3, none⟩ = some (.slice p133 l134 c135) ∧
 (((0 : Int) ≤ a1 ∧ a1 < ((l134 : Nat) : Int)) ∧ (PtrSome p133 (fun b136 o137 => w131.there b136 (o137 + ((Int.toNat a1)) * 2) 2 ∧
 (∀ w138, w138 = w131.setCells b136 (o137 + ((Int.toNat a1)) * 2) [(.int .i64 0), (.int .u32 0)] →
 (∃ n139, w138.cell? ⟨w0.heap.size, 0, none⟩ = some (.int .i64 n139) ∧ (∃ b140, w138.cell? ⟨w0.heap.size, 1, none⟩ = some (.bool b140) ∧
 (∃ b141, w138.cell? ⟨w0.heap.size, 2, none⟩ = some (.bool b141) ∧ (∃ b142, w138.cell? ⟨w0.heap.size, 3, none⟩ = some (.bool b142) ∧
 (w138.there w.heap.size 0 4 ∧ (∀ w143, w143 = w138.setCells w.heap.size 0 [(.int .i64 n139), (.bool b140), (.bool b141), (.bool b142)] →
 (∃ n144, w143.cell? ⟨w.heap.size, 0, none⟩ = some (.int .i64 n144) ∧ (∃ b145, w143.cell? ⟨w.heap.size, 1, none⟩ = some (.bool b145) ∧
 (∃ b146, w143.cell? ⟨w.heap.size, 2, none⟩ = some (.bool b146) ∧ (∃ b147, w143.cell? ⟨w.heap.size, 3, none⟩ = some (.bool b147) ∧
 (R (.returned (.agg #[(.int .i64 n144), (.bool b145), (.bool b146), (.bool b147)])) w143)))))))))))))))) (∃ n148, w131.cell? ⟨w0.heap.size, 0, none⟩ = some (.int .i64 n148) ∧
 (∃ b149, w131.cell? ⟨w0.heap.size, 1, none⟩ = some (.bool b149) ∧ (∃ b150, w131.cell? ⟨w0.heap.size, 2, none⟩ = some (.bool b150) ∧
 (∃ b151, w131.cell? ⟨w0.heap.size, 3, none⟩ = some (.bool b151) ∧ (w131.there w.heap.size 0 4 ∧
 (∀ w152, w152 = w131.setCells w.heap.size 0 [(.int .i64 n148), (.bool b149), (.bool b150), (.bool b151)] →
 (∃ n153, w152.cell? ⟨w.heap.size, 0, none⟩ = some (.int .i64 n153) ∧ (∃ b154, w152.cell? ⟨w.heap.size, 1, none⟩ = some (.bool b154) ∧
 (∃ b155, w152.cell? ⟨w.heap.size, 2, none⟩ = some (.bool b155) ∧ (∃ b156, w152.cell? ⟨w.heap.size, 3, none⟩ = some (.bool b156) ∧
 (R (.returned (.agg #[(.int .i64 n153), (.bool b154), (.bool b155), (.bool b156)])) w152))))))))))))))))))))))))))) (∀ w157, w157 = w4.drew →
 (∃ p158, w157.cell? ⟨q0, 0, none⟩ = some (.pointer p158) ∧ (∃ n159, w157.cell? ⟨w0.heap.size, 0, none⟩ = some (.int .i64 n159) ∧
 (Calls Tryz.prog 140 #[(.pointer p158), (.int .i64 a1), (.int .i64 n159)] w157 (fun e160 w161 =>
 ∃ b162, e160 = .returned (.bool b162) ∧ (Br b162 (∃ p163 l164 c165, w161.cell? ⟨q0, 3, none⟩ = some (.slice p163 l164 c165) ∧
 (((0 : Int) ≤ a1 ∧ a1 < ((l164 : Nat) : Int)) ∧ (PtrSome p163 (fun b166 o167 => w161.there b166 (o167 + ((Int.toNat a1)) * 2) 2 ∧
 (∀ w168, w168 = w161.setCells b166 (o167 + ((Int.toNat a1)) * 2) [(.int .i64 0), (.int .u32 0)] →
 (∃ n169, w168.cell? ⟨w0.heap.size, 0, none⟩ = some (.int .i64 n169) ∧ (∃ b170, w168.cell? ⟨w0.heap.size, 1, none⟩ = some (.bool b170) ∧
 (∃ b171, w168.cell? ⟨w0.heap.size, 2, none⟩ = some (.bool b171) ∧ (∃ b172, w168.cell? ⟨w0.heap.size, 3, none⟩ = some (.bool b172) ∧
 (w168.there w.heap.size 0 4 ∧ (∀ w173, w173 = w168.setCells w.heap.size 0 [(.int .i64 n169), (.bool b170), (.bool b171), (.bool b172)] →
 (∃ n174, w173.cell? ⟨w.heap.size, 0, none⟩ = some (.int .i64 n174) ∧ (∃ b175, w173.cell? ⟨w.heap.size, 1, none⟩ = some (.bool b175) ∧
 (∃ b176, w173.cell? ⟨w.heap.size, 2, none⟩ = some (.bool b176) ∧ (∃ b177, w173.cell? ⟨w.heap.size, 3, none⟩ = some (.bool b177) ∧
 (R (.returned (.agg #[(.int .i64 n174), (.bool b175), (.bool b176), (.bool b177)])) w173)))))))))))))))) (∃ n178, w161.cell? ⟨w0.heap.size, 0, none⟩ = some (.int .i64 n178) ∧
 (∃ b179, w161.cell? ⟨w0.heap.size, 1, none⟩ = some (.bool b179) ∧ (∃ b180, w161.cell? ⟨w0.heap.size, 2, none⟩ = some (.bool b180) ∧
 (∃ b181, w161.cell? ⟨w0.heap.size, 3, none⟩ = some (.bool b181) ∧ (w161.there w.heap.size 0 4 ∧
 (∀ w182, w182 = w161.setCells w.heap.size 0 [(.int .i64 n178), (.bool b179), (.bool b180), (.bool b181)] →
 (∃ n183, w182.cell? ⟨w.heap.size, 0, none⟩ = some (.int .i64 n183) ∧ (∃ b184, w182.cell? ⟨w.heap.size, 1, none⟩ = some (.bool b184) ∧
 (∃ b185, w182.cell? ⟨w.heap.size, 2, none⟩ = some (.bool b185) ∧ (∃ b186, w182.cell? ⟨w.heap.size, 3, none⟩ = some (.bool b186) ∧
 (R (.returned (.agg #[(.int .i64 n183), (.bool b184), (.bool b185), (.bool b186)])) w182))))))))))))))))))))))))
theorem callsMcsLockStep (q0 : Nat) (a1 a2 a3 : Int) (R : Ending → 
    World → Prop) (w : World) (h : preMcsLockStep q0 a1 a2 a3 R w) : Calls Tryz.prog 303 #[(.pointer (some ⟨q0, 0, none⟩)), (.int .i64 a1), (.int .i64 a2), (.int .i64 a3)] w R :=
  calls_of_sym Tryz.func303 (c := bodyOf Tryz.f303) rfl (Eq.mpr (by kernel_rfl) h)

/-- (*weighlock/mcs.Lock).Use -/
def preMcsLockUse (q0 : Nat) (q1 : Nat) (R : Ending → World → Prop) (w : World) : Prop :=
  CanSet w q0 1 ∧
 (∀ w0, w0 = w.setCell ⟨q0, 1, none⟩ (.pointer (some ⟨q1, 0, none⟩)) → (R (.returned (.tuple #[])) w0))
theorem callsMcsLockUse (q0 : Nat) (q1 : Nat) (R : Ending → 
    World → Prop) (w : World) (h : preMcsLockUse q0 q1 R w) : Calls Tryz.prog 304 #[(.pointer (some ⟨q0, 0, none⟩)), (.pointer (some ⟨q1, 0, none⟩))] w R :=
  calls_of_sym Tryz.func304 (c := bodyOf Tryz.f304) rfl (Eq.mpr (by kernel_rfl) h)

/-- (*weighlock/mcs.Lock).lock -/
def preMcsLock_lock (q0 : Nat) (q1 qo1 : Nat) (a2 a3 : Int) (R : Ending → 
    World → Prop) (w : World) : Prop :=
  ∀ w0, w0 = w.alloc (.cells #[(.int .i64 0), (.bool false), (.bool false), (.bool false)] 86) →
 (∃ n1, w0.cell? ⟨q1, qo1, none⟩ = some (.int .i64 n1) ∧ (CanSet w0 q1 qo1 ∧ (∀ w2, w2 = w0.setCell ⟨q1, qo1, none⟩ (.int .i64 (minI (IntKind.i64.wrap (n1 + 1)) 4)) →
 (Br (n1 == 0) (∀ w3, w3 = w2.drew → (∃ p4, w3.cell? ⟨q0, 1, none⟩ = some (.pointer p4) ∧
 (Calls Tryz.prog 307 #[(.pointer (some ⟨q0, 0, none⟩)), (.int .u32 a2)] w3 (fun e5 w6 =>
 ∃ n7, e5 = .returned (.int .i64 n7) ∧ ((w6.cell? ⟨q0, 1, none⟩ = some (.pointer p4)) ∧
 (Calls Tryz.prog 216 #[(.pointer p4), (.int .i64 a3), (.int .i64 n7), (.int .u32 0)] w6 (fun e8 w9 =>
 e8 = .returned (.tuple #[]) ∧ (w9.there w.heap.size 0 4 ∧ (∀ w10, w10 = w9.setCells w.heap.size 0 [(.int .i64 0), (.bool false), (.bool false), (.bool false)] →
 (∃ n11, w10.cell? ⟨w.heap.size, 0, none⟩ = some (.int .i64 n11) ∧ (∃ b12, w10.cell? ⟨w.heap.size, 1, none⟩ = some (.bool b12) ∧
 (∃ b13, w10.cell? ⟨w.heap.size, 2, none⟩ = some (.bool b13) ∧ (∃ b14, w10.cell? ⟨w.heap.size, 3, none⟩ = some (.bool b14) ∧
 (R (.returned (.agg #[(.int .i64 n11), (.bool b12), (.bool b13), (.bool b14)])) w10)))))))))))))) (Br (n1 == 1) (∀ w15, w15 = w2.drew →
 (∃ p16, w15.cell? ⟨q0, 1, none⟩ = some (.pointer p16) ∧ (∃ n17, w15.cell? ⟨q0, 2, none⟩ = some (.int .i64 n17) ∧
 (Calls Tryz.prog 299 #[(.pointer p16), (.int .i64 a3), (.int .i64 n17), (.int .u32 a2)] w15 (fun e18 w19 =>
 ∃ n20, e18 = .returned (.int .u32 n20) ∧ (CanSet w19 q1 (qo1 + 1) ∧ (∀ w21, w21 = w19.setCell ⟨q1, qo1 + 1, none⟩ (.int .u32 n20) →
 (∃ n22, w21.cell? ⟨q1, qo1 + 1, none⟩ = some (.int .u32 n22) ∧ (Br (n22 == 0) (w21.there w.heap.size 0 4 ∧
 (∀ w23, w23 = w21.setCells w.heap.size 0 [(.int .i64 1), (.bool true), (.bool false), (.bool false)] →
 (∃ n24, w23.cell? ⟨w.heap.size, 0, none⟩ = some (.int .i64 n24) ∧ (∃ b25, w23.cell? ⟨w.heap.size, 1, none⟩ = some (.bool b25) ∧
 (∃ b26, w23.cell? ⟨w.heap.size, 2, none⟩ = some (.bool b26) ∧ (∃ b27, w23.cell? ⟨w.heap.size, 3, none⟩ = some (.bool b27) ∧
 (R (.returned (.agg #[(.int .i64 n24), (.bool b25), (.bool b26), (.bool b27)])) w23))))))) (w21.there w.heap.size 0 4 ∧
 (∀ w28, w28 = w21.setCells w.heap.size 0 [(.int .i64 0), (.bool true), (.bool false), (.bool false)] →
 (∃ n29, w28.cell? ⟨w.heap.size, 0, none⟩ = some (.int .i64 n29) ∧ (∃ b30, w28.cell? ⟨w.heap.size, 1, none⟩ = some (.bool b30) ∧
 (∃ b31, w28.cell? ⟨w.heap.size, 2, none⟩ = some (.bool b31) ∧ (∃ b32, w28.cell? ⟨w.heap.size, 3, none⟩ = some (.bool b32) ∧
 (R (.returned (.agg #[(.int .i64 n29), (.bool b30), (.bool b31), (.bool b32)])) w28)))))))))))))))) (Br (n1 == 2) (∀ w33, w33 = w2.drew →
 (∃ p34, w33.cell? ⟨q0, 1, none⟩ = some (.pointer p34) ∧ (Calls Tryz.prog 307 #[(.pointer (some ⟨q0, 0, none⟩)), (.int .u32 a2)] w33 (fun e35 w36 =>
 ∃ n37, e35 = .returned (.int .i64 n37) ∧ ((w36.cell? ⟨q0, 1, none⟩ = some (.pointer p34)) ∧
 (Calls Tryz.prog 216 #[(.pointer p34), (.int .i64 a3), (.int .i64 (IntKind.i64.wrap (n37 + 1))), (.int .u32 1)] w36 (fun e38 w39 =>
 e38 = .returned (.tuple #[]) ∧ (w39.there w.heap.size 0 4 ∧ (∀ w40, w40 = w39.setCells w.heap.size 0 [(.int .i64 0), (.bool false), (.bool false), (.bool false)] →
 (∃ n41, w40.cell? ⟨w.heap.size, 0, none⟩ = some (.int .i64 n41) ∧ (∃ b42, w40.cell? ⟨w.heap.size, 1, none⟩ = some (.bool b42) ∧
 (∃ b43, w40.cell? ⟨w.heap.size, 2, none⟩ = some (.bool b43) ∧ (∃ b44, w40.cell? ⟨w.heap.size, 3, none⟩ = some (.bool b44) ∧
 (R (.returned (.agg #[(.int .i64 n41), (.bool b42), (.bool b43), (.bool b44)])) w40)))))))))))))) (Br (n1 == 3) (∀ w45, w45 = w2.drew →
 (∃ p46, w45.cell? ⟨q0, 1, none⟩ = some (.pointer p46) ∧ (∃ n47, w45.cell? ⟨q1, qo1 + 1, none⟩ = some (.int .u32 n47) ∧
 (Calls Tryz.prog 307 #[(.pointer (some ⟨q0, 0, none⟩)), (.int .u32 n47)] w45 (fun e48 w49 =>
 ∃ n50, e48 = .returned (.int .i64 n50) ∧ ((w49.cell? ⟨q0, 1, none⟩ = some (.pointer p46)) ∧
 (Calls Tryz.prog 216 #[(.pointer p46), (.int .i64 a3), (.int .i64 n50), (.int .u32 a2)] w49 (fun e51 w52 =>
 e51 = .returned (.tuple #[]) ∧ (w52.there w.heap.size 0 4 ∧ (∀ w53, w53 = w52.setCells w.heap.size 0 [(.int .i64 0), (.bool false), (.bool false), (.bool false)] →
 (∃ n54, w53.cell? ⟨w.heap.size, 0, none⟩ = some (.int .i64 n54) ∧ (∃ b55, w53.cell? ⟨w.heap.size, 1, none⟩ = some (.bool b55) ∧
 (∃ b56, w53.cell? ⟨w.heap.size, 2, none⟩ = some (.bool b56) ∧ (∃ b57, w53.cell? ⟨w.heap.size, 3, none⟩ = some (.bool b57) ∧
 (R (.returned (.agg #[(.int .i64 n54), (.bool b55), (.bool b56), (.bool b57)])) w53))))))))))))))) (Br (n1 == 4) (∀ w58, w58 = w2.drew →
 (∃ p59, w58.cell? ⟨q0, 1, none⟩ = some (.pointer p59) ∧ (Calls Tryz.prog 307 #[(.pointer (some ⟨q0, 0, none⟩)), (.int .u32 a2)] w58 (fun e60 w61 =>
 ∃ n62, e60 = .returned (.int .i64 n62) ∧ ((w61.cell? ⟨q0, 1, none⟩ = some (.pointer p59)) ∧
 (Calls Tryz.prog 200 #[(.pointer p59), (.int .i64 a3), (.int .i64 (IntKind.i64.wrap (n62 + 1)))] w61 (fun e63 w64 =>
 ∃ n65, e63 = .returned (.int .u32 n65) ∧ (Br (n65 == 0) (w64.there w.heap.size 0 4 ∧
 (∀ w66, w66 = w64.setCells w.heap.size 0 [(.int .i64 1), (.bool false), (.bool false), (.bool false)] →
 (∃ n67, w66.cell? ⟨w.heap.size, 0, none⟩ = some (.int .i64 n67) ∧ (∃ b68, w66.cell? ⟨w.heap.size, 1, none⟩ = some (.bool b68) ∧
 (∃ b69, w66.cell? ⟨w.heap.size, 2, none⟩ = some (.bool b69) ∧ (∃ b70, w66.cell? ⟨w.heap.size, 3, none⟩ = some (.bool b70) ∧
 (R (.returned (.agg #[(.int .i64 n67), (.bool b68), (.bool b69), (.bool b70)])) w66))))))) (w64.there w.heap.size 0 4 ∧
 (∀ w71, w71 = w64.setCells w.heap.size 0 [(.int .i64 0), (.bool false), (.bool false), (.bool false)] →
 (∃ n72, w71.cell? ⟨w.heap.size, 0, none⟩ = some (.int .i64 n72) ∧ (∃ b73, w71.cell? ⟨w.heap.size, 1, none⟩ = some (.bool b73) ∧
 (∃ b74, w71.cell? ⟨w.heap.size, 2, none⟩ = some (.bool b74) ∧ (∃ b75, w71.cell? ⟨w.heap.size, 3, none⟩ = some (.bool b75) ∧
 (R (.returned (.agg #[(.int .i64 n72), (.bool b73), (.bool b74), (.bool b75)])) w71))))))))))))))) (w2.there w.heap.size 0 4 ∧
 (∀ w76, w76 = w2.setCells w.heap.size 0 [(.int .i64 0), (.bool false), (.bool false), (.bool false)] →
 (∃ n77, w76.cell? ⟨w.heap.size, 0, none⟩ = some (.int .i64 n77) ∧ (∃ b78, w76.cell? ⟨w.heap.size, 1, none⟩ = some (.bool b78) ∧
 (∃ b79, w76.cell? ⟨w.heap.size, 2, none⟩ = some (.bool b79) ∧ (∃ b80, w76.cell? ⟨w.heap.size, 3, none⟩ = some (.bool b80) ∧
 (R (.returned (.agg #[(.int .i64 n77), (.bool b78), (.bool b79), (.bool b80)])) w76)))))))))))))))
theorem callsMcsLock_lock (q0 : Nat) (q1 qo1 : Nat) (a2 a3 : Int) (R : Ending → 
    World → Prop) (w : World) (h : preMcsLock_lock q0 q1 qo1 a2 a3 R w) : Calls Tryz.prog 305 #[(.pointer (some ⟨q0, 0, none⟩)), (.pointer (some ⟨q1, qo1, none⟩)), (.int .u32 a2), (.int .i64 a3)] w R :=
  calls_of_sym Tryz.func305 (c := bodyOf Tryz.f305) rfl (Eq.mpr (by kernel_rfl) h)

/-- (*weighlock/mcs.Lock).unlock -/
def preMcsLock_unlock (q0 : Nat) (q1 qo1 : Nat) (a2 a3 : Int) (R : Ending → 
    World → Prop) (w : World) : Prop :=
  ∃ n0, w.cell? ⟨q1, qo1, none⟩ = some (.int .i64 n0) ∧ (Br (n0 == 0) (Br (n0 == 0) (∀ w1, w1 = w.drew →
 (∃ p2, w1.cell? ⟨q0, 1, none⟩ = some (.pointer p2) ∧ (Calls Tryz.prog 307 #[(.pointer (some ⟨q0, 0, none⟩)), (.int .u32 a2)] w1 (fun e3 w4 =>
 ∃ n5, e3 = .returned (.int .i64 n5) ∧ ((w4.cell? ⟨q0, 1, none⟩ = some (.pointer p2)) ∧
 (Calls Tryz.prog 200 #[(.pointer p2), (.int .i64 a3), (.int .i64 n5)] w4 (fun e6 w7 =>
 ∃ n8, e6 = .returned (.int .u32 n8) ∧ (CanSet w7 q1 (qo1 + 1) ∧ (∀ w9, w9 = w7.setCell ⟨q1, qo1 + 1, none⟩ (.int .u32 n8) →
 (∃ n10, w9.cell? ⟨q1, qo1 + 1, none⟩ = some (.int .u32 n10) ∧ (Br (n10 != 0) (CanSet w9 q1 qo1 ∧
 (∀ w11, w11 = w9.setCell ⟨q1, qo1, none⟩ (.int .i64 3) → (R (.returned (.int .i64 0)) w11))) (∃ n12, w9.cell? ⟨q1, qo1, none⟩ = some (.int .i64 n12) ∧
 (Br (n12 == 0) (CanSet w9 q1 qo1 ∧ (∀ w13, w13 = w9.setCell ⟨q1, qo1, none⟩ (.int .i64 1) →
 (R (.returned (.int .i64 0)) w13))) (R (.returned (.int .i64 0)) w9)))))))))))))) (Br (n0 == 1) (∀ w14, w14 = w.drew →
 (∃ p15, w14.cell? ⟨q0, 1, none⟩ = some (.pointer p15) ∧ (∃ n16, w14.cell? ⟨q0, 2, none⟩ = some (.int .i64 n16) ∧
 (Calls Tryz.prog 308 #[(.pointer p15), (.int .i64 a3), (.int .i64 n16), (.int .u32 a2), (.int .u32 0)] w14 (fun e17 w18 =>
 ∃ b19, e17 = .returned (.bool b19) ∧ (Br b19 (R (.returned (.int .i64 3)) w18) (CanSet w18 q1 qo1 ∧
 (∀ w20, w20 = w18.setCell ⟨q1, qo1, none⟩ (.int .i64 2) → (R (.returned (.int .i64 0)) w20))))))))) (∀ w21, w21 = w.drew →
 (∃ p22, w21.cell? ⟨q0, 1, none⟩ = some (.pointer p22) ∧ (∃ n23, w21.cell? ⟨q1, qo1 + 1, none⟩ = some (.int .u32 n23) ∧
 (Calls Tryz.prog 307 #[(.pointer (some ⟨q0, 0, none⟩)), (.int .u32 n23)] w21 (fun e24 w25 =>
 ∃ n26, e24 = .returned (.int .i64 n26) ∧ ((w25.cell? ⟨q0, 1, none⟩ = some (.pointer p22)) ∧
 (Calls Tryz.prog 216 #[(.pointer p22), (.int .i64 a3), (.int .i64 (IntKind.i64.wrap (n26 + 1))), (.int .u32 0)] w25 (fun e27 w28 =>
 e27 = .returned (.tuple #[]) ∧ (R (.returned (.int .i64 3)) w28))))))))))) (Br (n0 == 2) (∀ w29, w29 = w.drew →
 (∃ p30, w29.cell? ⟨q0, 1, none⟩ = some (.pointer p30) ∧ (Calls Tryz.prog 307 #[(.pointer (some ⟨q0, 0, none⟩)), (.int .u32 a2)] w29 (fun e31 w32 =>
 ∃ n33, e31 = .returned (.int .i64 n33) ∧ ((w32.cell? ⟨q0, 1, none⟩ = some (.pointer p30)) ∧
 (Calls Tryz.prog 200 #[(.pointer p30), (.int .i64 a3), (.int .i64 n33)] w32 (fun e34 w35 =>
 ∃ n36, e34 = .returned (.int .u32 n36) ∧ (CanSet w35 q1 (qo1 + 1) ∧ (∀ w37, w37 = w35.setCell ⟨q1, qo1 + 1, none⟩ (.int .u32 n36) →
 (∃ n38, w37.cell? ⟨q1, qo1 + 1, none⟩ = some (.int .u32 n38) ∧ (Br (n38 != 0) (CanSet w37 q1 qo1 ∧
 (∀ w39, w39 = w37.setCell ⟨q1, qo1, none⟩ (.int .i64 3) → (R (.returned (.int .i64 0)) w39))) (∃ n40, w37.cell? ⟨q1, qo1, none⟩ = some (.int .i64 n40) ∧
 (Br (n40 == 0) (CanSet w37 q1 qo1 ∧ (∀ w41, w41 = w37.setCell ⟨q1, qo1, none⟩ (.int .i64 1) →
 (R (.returned (.int .i64 0)) w41))) (R (.returned (.int .i64 0)) w37)))))))))))))) (Br (n0 == 1) (∀ w42, w42 = w.drew →
 (∃ p43, w42.cell? ⟨q0, 1, none⟩ = some (.pointer p43) ∧ (∃ n44, w42.cell? ⟨q0, 2, none⟩ = some (.int .i64 n44) ∧
 (Calls Tryz.prog 308 #[(.pointer p43), (.int .i64 a3), (.int .i64 n44), (.int .u32 a2), (.int .u32 0)] w42 (fun e45 w46 =>
 ∃ b47, e45 = .returned (.bool b47) ∧ (Br b47 (R (.returned (.int .i64 3)) w46) (CanSet w46 q1 qo1 ∧
 (∀ w48, w48 = w46.setCell ⟨q1, qo1, none⟩ (.int .i64 2) → (R (.returned (.int .i64 0)) w48))))))))) (∀ w49, w49 = w.drew →
 (∃ p50, w49.cell? ⟨q0, 1, none⟩ = some (.pointer p50) ∧ (∃ n51, w49.cell? ⟨q1, qo1 + 1, none⟩ = some (.int .u32 n51) ∧
 (Calls Tryz.prog 307 #[(.pointer (some ⟨q0, 0, none⟩)), (.int .u32 n51)] w49 (fun e52 w53 =>
 ∃ n54, e52 = .returned (.int .i64 n54) ∧ ((w53.cell? ⟨q0, 1, none⟩ = some (.pointer p50)) ∧
 (Calls Tryz.prog 216 #[(.pointer p50), (.int .i64 a3), (.int .i64 (IntKind.i64.wrap (n54 + 1))), (.int .u32 0)] w53 (fun e55 w56 =>
 e55 = .returned (.tuple #[]) ∧ (R (.returned (.int .i64 3)) w56))))))))))))
theorem callsMcsLock_unlock (q0 : Nat) (q1 qo1 : Nat) (a2 a3 : Int) (R : Ending → 
    World → Prop) (w : World) (h : preMcsLock_unlock q0 q1 qo1 a2 a3 R w) : Calls Tryz.prog 306 #[(.pointer (some ⟨q0, 0, none⟩)), (.pointer (some ⟨q1, qo1, none⟩)), (.int .u32 a2), (.int .i64 a3)] w R :=
  calls_of_sym Tryz.func306 (c := bodyOf Tryz.f306) rfl (Eq.mpr (by kernel_rfl) h)

/-- (*weighlock/mcs.Lock).next -/
def preMcsLock_next (q0 : Nat) (a1 : Int) (R : Ending → World → Prop) (w : World) : Prop :=
  ∃ n0, w.cell? ⟨q0, 2, none⟩ = some (.int .i64 n0) ∧
 (R (.returned (.int .i64 (IntKind.i64.wrap ((IntKind.i64.wrap (n0 + (IntKind.i64.wrap (2 * (IntKind.i64.wrap a1))))) - 1)))) w)
theorem callsMcsLock_next (q0 : Nat) (a1 : Int) (R : Ending → 
    World → Prop) (w : World) (h : preMcsLock_next q0 a1 R w) : Calls Tryz.prog 307 #[(.pointer (some ⟨q0, 0, none⟩)), (.int .u32 a1)] w R :=
  calls_of_sym Tryz.func307 (c := bodyOf Tryz.f307) rfl (Eq.mpr (by kernel_rfl) h)

/-- (*weighlock/slots.Lock).Step -/
def preSlotsLockStep (q0 : Nat) (a1 a2 a3 : Int) (R : Ending → 
    World → Prop) (w : World) : Prop :=
  ∀ w0, w0 = w.alloc (.cells #[(.int .i64 0), (.bool false), (.bool false), (.bool false)] 86) →
 (∀ w1, w1 = w0.alloc (.cells #[(.int .i64 0), (.bool false), (.bool false), (.bool false)] 86) →
 (∃ p2, w1.cell? ⟨q0, 0, none⟩ = some (.pointer p2) ∧ (Calls Tryz.prog 138 #[(.pointer p2), (.int .i64 a1)] w1 (fun e3 w4 =>
 ∃ n5, e3 = .returned (.int .i64 n5) ∧ (Br (n5 == 1) (∃ p6 l7 c8, w4.cell? ⟨q0, 4, none⟩ = some (.slice p6 l7 c8) ∧
 (((0 : Int) ≤ a1 ∧ a1 < ((l7 : Nat) : Int)) ∧ (PtrSome p6 (fun b9 o10 => Calls Tryz.prog 314 #[(.pointer (some ⟨q0, 0, none⟩)), (.pointer (some ⟨b9, o10 + ((Int.toNat a1)) * 2, none⟩)), (.int .i64 a2)] w4 (fun e11 w12 =>
 ∃ n13 b14 b15 b16, e11 = .returned (.agg #[(.int .i64 n13), (.bool b14), (.bool b15), (.bool b16)]) ∧
 (w12.there w0.heap.size 0 4 ∧ (∀ w17, w17 = w12.setCells w0.heap.size 0 [(.int .i64 n13), (.bool b14), (.bool b15), (.bool b16)] →
 (∀ w18, w18 = w17.drew → (∃ p19, w18.cell? ⟨q0, 0, none⟩ = some (.pointer p19) ∧
 (∃ n20, w18.cell? ⟨w0.heap.size, 0, none⟩ = some (.int .i64 n20) ∧ (Calls Tryz.prog 140 #[(.pointer p19), (.int .i64 a1), (.int .i64 n20)] w18 (fun e21 w22 =>
 ∃ b23, e21 = .returned (.bool b23) ∧ (∃ n24, w22.cell? ⟨w0.heap.size, 0, none⟩ = some (.int .i64 n24) ∧
 (∃ b25, w22.cell? ⟨w0.heap.size, 1, none⟩ = some (.bool b25) ∧ (∃ b26, w22.cell? ⟨w0.heap.size, 2, none⟩ = some (.bool b26) ∧
 (∃ b27, w22.cell? ⟨w0.heap.size, 3, none⟩ = some (.bool b27) ∧ (w22.there w.heap.size 0 4 ∧
 (∀ w28, w28 = w22.setCells w.heap.size 0 [(.int .i64 n24), (.bool b25), (.bool b26), (.bool b27)] →
 (∃ n29, w28.cell? ⟨w.heap.size, 0, none⟩ = some (.int .i64 n29) ∧ (∃ b30, w28.cell? ⟨w.heap.size, 1, none⟩ = some (.bool b30) ∧
 (∃ b31, w28.cell? ⟨w.heap.size, 2, none⟩ = some (.bool b31) ∧ (∃ b32, w28.cell? ⟨w.heap.size, 3, none⟩ = some (.bool b32) ∧
 (R (.returned (.agg #[(.int .i64 n29), (.bool b30), (.bool b31), (.bool b32)])) w28))))))))))))))))))))))) (Br (n5 == 3) (∀ w33, w33 = w4.drew →
 (∃ p34, w33.cell? ⟨q0, 1, none⟩ = some (.pointer p34) ∧ (∃ p35 l36 c37, w33.cell? ⟨q0, 4, none⟩ = some (.slice p35 l36 c37) ∧
 (((0 : Int) ≤ a1 ∧ a1 < ((l36 : Nat) : Int)) ∧ (PtrSome p35 (fun b38 o39 => ∃ n40, w33.cell? ⟨b38, o39 + ((Int.toNat a1)) * 2, none⟩ = some (.int .u32 n40) ∧
 (Calls Tryz.prog 315 #[(.pointer (some ⟨q0, 0, none⟩)), (.int .u32 (IntKind.u32.wrap (n40 + 1)))] w33 (fun e41 w42 =>
 ∃ n43, e41 = .returned (.int .i64 n43) ∧ ((w42.cell? ⟨q0, 1, none⟩ = some (.pointer p34)) ∧
 (Calls Tryz.prog 216 #[(.pointer p34), (.int .i64 a2), (.int .i64 n43), (.int .u32 1)] w42 (fun e44 w45 =>
 e44 = .returned (.tuple #[]) ∧ (∃ p46 l47 c48, w45.cell? ⟨q0, 4, none⟩ = some (.slice p46 l47 c48) ∧
 (((0 : Int) ≤ a1 ∧ a1 < ((l47 : Nat) : Int)) ∧ (PtrSome p46 (fun b49 o50 => w45.there b49 (o50 + ((Int.toNat a1)) * 2) 2 ∧
 (∀ w51, w51 = w45.setCells b49 (o50 + ((Int.toNat a1)) * 2) [(.int .u32 0), (.int .i64 0)] →
 (CanSet w51 w0.heap.size 0 ∧ (∀ w52, w52 = w51.setCell ⟨w0.heap.size, 0, none⟩ (.int .i64 3) →
 (∀ w53, w53 = w52.drew → (∃ p54, w53.cell? ⟨q0, 0, none⟩ = some (.pointer p54) ∧
 (∃ n55, w53.cell? ⟨w0.heap.size, 0, none⟩ = some (.int .i64 n55) ∧ (Calls Tryz.prog 140 #[(.pointer p54), (.int .i64 a1), (.int .i64 n55)] w53 (fun e56 w57 =>
 ∃ b58, e56 = .returned (.bool b58) ∧ (∃ n59, w57.cell? ⟨w0.heap.size, 0, none⟩ = some (.int .i64 n59) ∧
 (∃ b60, w57.cell? ⟨w0.heap.size, 1, none⟩ = some (.bool b60) ∧ (∃ b61, w57.cell? ⟨w0.heap.size, 2, none⟩ = some (.bool b61) ∧
 (∃ b62, w57.cell? ⟨w0.heap.size, 3, none⟩ = some (.bool b62) ∧ (w57.there w.heap.size 0 4 ∧
 (∀ w63, w63 = w57.setCells w.heap.size 0 [(.int .i64 n59), (.bool b60), (.bool b61), (.bool b62)] →
 (∃ n64, w63.cell? ⟨w.heap.size, 0, none⟩ = some (.int .i64 n64) ∧ (∃ b65, w63.cell? ⟨w.heap.size, 1, none⟩ = some (.bool b65) ∧
 (∃ b66, w63.cell? ⟨w.heap.size, 2, none⟩ = some (.bool b66) ∧ (∃ b67, w63.cell? ⟨w.heap.size, 3, none⟩ = some (.bool b67) ∧
 (R (.returned (.agg #[(.int .i64 n64), (.bool b65), (.bool b66), (.bool b67)])) w63)))))))))))))))))))))))))))))))))) (∀ w68, w68 = w4.drew →
 (∃ p69, w68.cell? ⟨q0, 0, none⟩ = some (.pointer p69) ∧ (∃ n70, w68.cell? ⟨w0.heap.size, 0, none⟩ = some (.int .i64 n70) ∧
 (Calls Tryz.prog 140 #[(.pointer p69), (.int .i64 a1), (.int .i64 n70)] w68 (fun e71 w72 =>
 ∃ b73, e71 = .returned (.bool b73) ∧ (∃ n74, w72.cell? ⟨w0.heap.size, 0, none⟩ = some (.int .i64 n74) ∧
 (∃ b75, w72.cell? ⟨w0.heap.size, 1, none⟩ = some (.bool b75) ∧ (∃ b76, w72.cell? ⟨w0.heap.size, 2, none⟩ = some (.bool b76) ∧
 (∃ b77, w72.cell? ⟨w0.heap.size, 3, none⟩ = some (.bool b77) ∧ (w72.there w.heap.size 0 4 ∧
 (∀ w78, w78 = w72.setCells w.heap.size 0 [(.int .i64 n74), (.bool b75), (.bool b76), (.bool b77)] →
 (∃ n79, w78.cell? ⟨w.heap.size, 0, none⟩ = some (.int .i64 n79) ∧ (∃ b80, w78.cell? ⟨w.heap.size, 1, none⟩ = some (.bool b80) ∧
 (∃ b81, w78.cell? ⟨w.heap.size, 2, none⟩ = some (.bool b81) ∧ (∃ b82, w78.cell? ⟨w.heap.size, 3, none⟩ = some (.bool b82) ∧
 (R (.returned (.agg #[(.int .i64 n79), (.bool b80), (.bool b81), (.bool b82)])) w78))))))))))))))))))))))
theorem callsSlotsLockStep (q0 : Nat) (a1 a2 a3 : Int) (R : Ending → 
    World → Prop) (w : World) (h : preSlotsLockStep q0 a1 a2 a3 R w) : Calls Tryz.prog 312 #[(.pointer (some ⟨q0, 0, none⟩)), (.int .i64 a1), (.int .i64 a2), (.int .i64 a3)] w R :=
  calls_of_sym Tryz.func312 (c := bodyOf Tryz.f312) rfl (Eq.mpr (by kernel_rfl) h)

/-- (*weighlock/slots.Lock).Use -/
def preSlotsLockUse (q0 : Nat) (q1 : Nat) (R : Ending → World → Prop) (w : World) : Prop :=
  CanSet w q0 1 ∧
 (∀ w0, w0 = w.setCell ⟨q0, 1, none⟩ (.pointer (some ⟨q1, 0, none⟩)) → (R (.returned (.tuple #[])) w0))
theorem callsSlotsLockUse (q0 : Nat) (q1 : Nat) (R : Ending → 
    World → Prop) (w : World) (h : preSlotsLockUse q0 q1 R w) : Calls Tryz.prog 313 #[(.pointer (some ⟨q0, 0, none⟩)), (.pointer (some ⟨q1, 0, none⟩))] w R :=
  calls_of_sym Tryz.func313 (c := bodyOf Tryz.f313) rfl (Eq.mpr (by kernel_rfl) h)

/-- (*weighlock/slots.Lock).lock -/
def preSlotsLock_lock (q0 : Nat) (q1 qo1 : Nat) (a2 : Int) (R : Ending → 
    World → Prop) (w : World) : Prop :=
  ∀ w0, w0 = w.alloc (.cells #[(.int .i64 0), (.bool false), (.bool false), (.bool false)] 86) →
 (∃ n1, w0.cell? ⟨q1, qo1 + 1, none⟩ = some (.int .i64 n1) ∧ (Br (n1 == 0) (∀ w2, w2 = w0.drew →
 (∃ p3, w2.cell? ⟨q0, 1, none⟩ = some (.pointer p3) ∧ (∃ n4, w2.cell? ⟨q0, 2, none⟩ = some (.int .i64 n4) ∧
 (Calls Tryz.prog 291 #[(.pointer p3), (.int .i64 a2), (.int .i64 n4), (.int .u32 1)] w2 (fun e5 w6 =>
 ∃ n7, e5 = .returned (.int .u32 n7) ∧ (CanSet w6 q1 qo1 ∧ (∀ w8, w8 = w6.setCell ⟨q1, qo1, none⟩ (.int .u32 n7) →
 (CanSet w8 q1 (qo1 + 1) ∧ (∀ w9, w9 = w8.setCell ⟨q1, qo1 + 1, none⟩ (.int .i64 1) → (w9.there w.heap.size 0 4 ∧
 (∀ w10, w10 = w9.setCells w.heap.size 0 [(.int .i64 0), (.bool true), (.bool false), (.bool false)] →
 (∃ n11, w10.cell? ⟨w.heap.size, 0, none⟩ = some (.int .i64 n11) ∧ (∃ b12, w10.cell? ⟨w.heap.size, 1, none⟩ = some (.bool b12) ∧
 (∃ b13, w10.cell? ⟨w.heap.size, 2, none⟩ = some (.bool b13) ∧ (∃ b14, w10.cell? ⟨w.heap.size, 3, none⟩ = some (.bool b14) ∧
 (R (.returned (.agg #[(.int .i64 n11), (.bool b12), (.bool b13), (.bool b14)])) w10)))))))))))))))) (Br (n1 == 1) (∀ w15, w15 = w0.drew →
 (∃ p16, w15.cell? ⟨q0, 1, none⟩ = some (.pointer p16) ∧ (∃ n17, w15.cell? ⟨q1, qo1, none⟩ = some (.int .u32 n17) ∧
 (Calls Tryz.prog 315 #[(.pointer (some ⟨q0, 0, none⟩)), (.int .u32 n17)] w15 (fun e18 w19 =>
 ∃ n20, e18 = .returned (.int .i64 n20) ∧ ((w19.cell? ⟨q0, 1, none⟩ = some (.pointer p16)) ∧
 (Calls Tryz.prog 200 #[(.pointer p16), (.int .i64 a2), (.int .i64 n20)] w19 (fun e21 w22 =>
 ∃ n23, e21 = .returned (.int .u32 n23) ∧ (Br (n23 != 0) (CanSet w22 q1 (qo1 + 1) ∧
 (∀ w24, w24 = w22.setCell ⟨q1, qo1 + 1, none⟩ (.int .i64 2) → (w24.there w.heap.size 0 4 ∧ (∀ w25, w25 = w24.setCells w.heap.size 0 [(.int .i64 0), (.bool false), (.bool false), (.bool false)] →
 (∃ n26, w25.cell? ⟨w.heap.size, 0, none⟩ = some (.int .i64 n26) ∧ (∃ b27, w25.cell? ⟨w.heap.size, 1, none⟩ = some (.bool b27) ∧
 (∃ b28, w25.cell? ⟨w.heap.size, 2, none⟩ = some (.bool b28) ∧ (∃ b29, w25.cell? ⟨w.heap.size, 3, none⟩ = some (.bool b29) ∧
 (R (.returned (.agg #[(.int .i64 n26), (.bool b27), (.bool b28), (.bool b29)])) w25))))))))) (w22.there w.heap.size 0 4 ∧
 (∀ w30, w30 = w22.setCells w.heap.size 0 [(.int .i64 0), (.bool false), (.bool false), (.bool false)] →
 (∃ n31, w30.cell? ⟨w.heap.size, 0, none⟩ = some (.int .i64 n31) ∧ (∃ b32, w30.cell? ⟨w.heap.size, 1, none⟩ = some (.bool b32) ∧
 (∃ b33, w30.cell? ⟨w.heap.size, 2, none⟩ = some (.bool b33) ∧ (∃ b34, w30.cell? ⟨w.heap.size, 3, none⟩ = some (.bool b34) ∧
 (R (.returned (.agg #[(.int .i64 n31), (.bool b32), (.bool b33), (.bool b34)])) w30)))))))))))))))) (∀ w35, w35 = w0.drew →
 (∃ p36, w35.cell? ⟨q0, 1, none⟩ = some (.pointer p36) ∧ (∃ n37, w35.cell? ⟨q1, qo1, none⟩ = some (.int .u32 n37) ∧
 (Calls Tryz.prog 315 #[(.pointer (some ⟨q0, 0, none⟩)), (.int .u32 n37)] w35 (fun e38 w39 =>
 ∃ n40, e38 = .returned (.int .i64 n40) ∧ ((w39.cell? ⟨q0, 1, none⟩ = some (.pointer p36)) ∧
 (Calls Tryz.prog 216 #[(.pointer p36), (.int .i64 a2), (.int .i64 n40), (.int .u32 0)] w39 (fun e41 w42 =>
 e41 = .returned (.tuple #[]) ∧ (w42.there w.heap.size 0 4 ∧ (∀ w43, w43 = w42.setCells w.heap.size 0 [(.int .i64 1), (.bool false), (.bool false), (.bool false)] →
 (∃ n44, w43.cell? ⟨w.heap.size, 0, none⟩ = some (.int .i64 n44) ∧ (∃ b45, w43.cell? ⟨w.heap.size, 1, none⟩ = some (.bool b45) ∧
 (∃ b46, w43.cell? ⟨w.heap.size, 2, none⟩ = some (.bool b46) ∧ (∃ b47, w43.cell? ⟨w.heap.size, 3, none⟩ = some (.bool b47) ∧
 (R (.returned (.agg #[(.int .i64 n44), (.bool b45), (.bool b46), (.bool b47)])) w43))))))))))))))))))
theorem callsSlotsLock_lock (q0 : Nat) (q1 qo1 : Nat) (a2 : Int) (R : Ending → 
    World → Prop) (w : World) (h : preSlotsLock_lock q0 q1 qo1 a2 R w) : Calls Tryz.prog 314 #[(.pointer (some ⟨q0, 0, none⟩)), (.pointer (some ⟨q1, qo1, none⟩)), (.int .i64 a2)] w R :=
  calls_of_sym Tryz.func314 (c := bodyOf Tryz.f314) rfl (Eq.mpr (by kernel_rfl) h)

/-- (*weighlock/slots.Lock).slot -/
def preSlotsLock_slot (q0 : Nat) (a1 : Int) (R : Ending → World → 
    Prop) (w : World) : Prop :=
  ∀ w0, w0 = w.drew → (∃ n1, w0.cell? ⟨q0, 2, none⟩ = some (.int .i64 n1) ∧
 (∃ n2, w0.cell? ⟨q0, 3, none⟩ = some (.int .i64 n2) ∧ (Calls Tryz.prog 188 #[(.int .u32 a1), (.int .i64 n2)] w0 (fun e3 w4 =>
 ∃ n5, e3 = .returned (.int .i64 n5) ∧ ((w4.cell? ⟨q0, 2, none⟩ = some (.int .i64 n1)) ∧
 (R (.returned (.int .i64 (IntKind.i64.wrap ((IntKind.i64.wrap (n1 + 1)) + n5)))) w4))))))
theorem callsSlotsLock_slot (q0 : Nat) (a1 : Int) (R : Ending → 
    World → Prop) (w : World) (h : preSlotsLock_slot q0 a1 R w) : Calls Tryz.prog 315 #[(.pointer (some ⟨q0, 0, none⟩)), (.int .u32 a1)] w R :=
  calls_of_sym Tryz.func315 (c := bodyOf Tryz.f315) rfl (Eq.mpr (by kernel_rfl) h)

/-- (*weighlock/pool.Pool).Row -/
def prePoolPoolRow (q0 : Nat) (a1 : Int) (R : Ending → World → Prop) (w : World) : Prop :=
  Br (decide ((a1 : Int) < 0)) (R (.returned (.slice none 0 0)) w) (∃ p0 l1 c2, w.cell? ⟨q0, 0, none⟩ = some (.slice p0 l1 c2) ∧
 (Br (decide ((a1 : Int) ≥ (((l1 : Nat) : Int)))) (R (.returned (.slice none 0 0)) w) (∃ p3 l4 c5, w.cell? ⟨q0, 0, none⟩ = some (.slice p3 l4 c5) ∧
 (((0 : Int) ≤ a1 ∧ a1 < ((l4 : Nat) : Int)) ∧ (PtrSome p3 (fun b6 o7 => ∃ p8 l9 c10, w.cell? ⟨b6, o7 + (Int.toNat a1), none⟩ = some (.slice p8 l9 c10) ∧
 (Calls Tryz.prog 104 #[(.slice p8 l9 c10)] w (fun e11 w12 => ∃ p13 l14 c15, e11 = .returned (.slice p13 l14 c15) ∧
 (R (.returned (.slice p13 l14 c15)) w12)))))))))
theorem callsPoolPoolRow (q0 : Nat) (a1 : Int) (R : Ending → 
    World → Prop) (w : World) (h : prePoolPoolRow q0 a1 R w) : Calls Tryz.prog 320 #[(.pointer (some ⟨q0, 0, none⟩)), (.int .i64 a1)] w R :=
  calls_of_sym Tryz.func320 (c := bodyOf Tryz.f320) rfl (Eq.mpr (by kernel_rfl) h)

/-- (*weighlock/pool.Pool).Len -/
def prePoolPoolLen (q0 : Nat) (R : Ending → World → Prop) (w : World) : Prop :=
  ∃ p0 l1 c2, w.cell? ⟨q0, 1, none⟩ = some (.slice p0 l1 c2) ∧
 (R (.returned (.int .i64 (IntKind.i64.wrap ((((l1 : Nat) : Int)) - 1)))) w)
theorem callsPoolPoolLen (q0 : Nat) (R : Ending → 
    World → Prop) (w : World) (h : prePoolPoolLen q0 R w) : Calls Tryz.prog 335 #[(.pointer (some ⟨q0, 0, none⟩))] w R :=
  calls_of_sym Tryz.func335 (c := bodyOf Tryz.f335) rfl (Eq.mpr (by kernel_rfl) h)

end Go.Proofs.YtollfjfcdofbaaaGreat
