/- What the functions of the program come to, as Props over the world's cells, printed by a program of this session (Gen.lean); the kernel holds each against the engine's own. -/
import Derived.Test.YtollfjfcdofbaaaGreatProg
import Derived.Test.YtollfjfcdofbaaaGreatEng6
import Derived.KernelRfl
namespace Go.Proofs.YtollfjfcdofbaaaGreat
open Go Go.Proofs
set_option maxRecDepth 100000
set_option linter.unusedVariables false
/-- weighlock/weighlocklaw18.MachineNews -/
def preWeighlocklaw18MachineNews (a0_0 : Int) (a0_1p : Option Addr) (a0_1l a0_1c : Nat) (a0_2 a0_3 : Int) (a0_4 a0_5 : Int) (a0_6 a0_7 : Int) (R : Ending → 
    World → Prop) (w : World) : Prop :=
  ∀ w0, w0 = w.alloc (.cells #[(.int .i64 a0_0), (.slice a0_1p a0_1l a0_1c), (.int .u32 a0_2), (.int .i64 a0_3), (.int .i64 a0_4), (.int .i64 a0_5), (.int .i64 a0_6), (.int .i64 a0_7)] 74) →
 (∃ p1 l2 c3, w0.cell? ⟨w.heap.size, 1, none⟩ = some (.slice p1 l2 c3) ∧ (Br (decide (((((l2 : Nat) : Int)) : Int) >
 80)) (Calls Tryz.prog 50 #[] w0 (fun e4 w5 => ∃ b6, e4 = .returned (.bool b6) ∧
 (R (.returned (.bool b6)) w5))) (∃ n7, w0.cell? ⟨w.heap.size, 0, none⟩ = some (.int .i64 n7) ∧
 (∃ p8 l9 c10, w0.cell? ⟨w.heap.size, 1, none⟩ = some (.slice p8 l9 c10) ∧ (∃ n11, w0.cell? ⟨w.heap.size, 2, none⟩ = some (.int .u32 n11) ∧
 (∃ n12, w0.cell? ⟨w.heap.size, 3, none⟩ = some (.int .i64 n12) ∧ (∃ n13, w0.cell? ⟨w.heap.size, 4, none⟩ = some (.int .i64 n13) ∧
 (∃ n14, w0.cell? ⟨w.heap.size, 5, none⟩ = some (.int .i64 n14) ∧ (∃ n15, w0.cell? ⟨w.heap.size, 6, none⟩ = some (.int .i64 n15) ∧
 (∃ n16, w0.cell? ⟨w.heap.size, 7, none⟩ = some (.int .i64 n16) ∧ (Calls Tryz.prog 51 #[(.agg #[(.int .i64 n7), (.slice p8 l9 c10), (.int .u32 n11), (.int .i64 n12), (.int .i64 n13), (.int .i64 n14), (.int .i64 n15), (.int .i64 n16)])] w0 (fun e17 w18 =>
 ∃ p19 n20, e17 = .returned (.tuple #[(.pointer p19), (.int .i64 n20)]) ∧
 (∃ n21, w18.cell? ⟨w.heap.size, 0, none⟩ = some (.int .i64 n21) ∧ (∃ p22 l23 c24, w18.cell? ⟨w.heap.size, 1, none⟩ = some (.slice p22 l23 c24) ∧
 (∃ n25, w18.cell? ⟨w.heap.size, 2, none⟩ = some (.int .u32 n25) ∧ (∃ n26, w18.cell? ⟨w.heap.size, 3, none⟩ = some (.int .i64 n26) ∧
 (∃ n27, w18.cell? ⟨w.heap.size, 4, none⟩ = some (.int .i64 n27) ∧ (∃ n28, w18.cell? ⟨w.heap.size, 5, none⟩ = some (.int .i64 n28) ∧
 (∃ n29, w18.cell? ⟨w.heap.size, 6, none⟩ = some (.int .i64 n29) ∧ (∃ n30, w18.cell? ⟨w.heap.size, 7, none⟩ = some (.int .i64 n30) ∧
 (Calls Tryz.prog 39 #[(.agg #[(.int .i64 n21), (.slice p22 l23 c24), (.int .u32 n25), (.int .i64 n26), (.int .i64 n27), (.int .i64 n28), (.int .i64 n29), (.int .i64 n30)])] w18 (fun e31 w32 =>
 ∃ n33 p34 l35 c36 n37 n38 n39 n40 n41 n42, e31 = .returned (.agg #[(.int .i64 n33), (.slice p34 l35 c36), (.int .u32 n37), (.int .i64 n38), (.int .i64 n39), (.int .i64 n40), (.int .i64 n41), (.int .i64 n42)]) ∧
 (Calls Tryz.prog 38 #[(.agg #[(.int .i64 n33), (.slice p34 l35 c36), (.int .u32 n37), (.int .i64 n38), (.int .i64 n39), (.int .i64 n40), (.int .i64 n41), (.int .i64 n42)])] w32 (fun e43 w44 =>
 ∃ n45, e43 = .returned (.int .i64 n45) ∧ (Br (n45 != 0) (Br (Option.isNone p19) (Br (n20 == n45) (Calls Tryz.prog 50 #[] w44 (fun e46 w47 =>
 ∃ b48, e46 = .returned (.bool b48) ∧ (R (.returned (.bool b48)) w47))) (R (.returned (.bool false)) w44)) (R (.returned (.bool false)) w44)) (∀ w49, w49 = w44.drew →
 (Br (n20 == 0) (Br (!(Option.isNone p19)) (∃ p50 l51 c52, w49.cell? ⟨w.heap.size, 1, none⟩ = some (.slice p50 l51 c52) ∧
 (Calls Tryz.prog 53 #[(.pointer p19)] w49 (fun e53 w54 => ∃ n55, e53 = .returned (.int .i64 n55) ∧
 ((w54.cell? ⟨w.heap.size, 1, none⟩ = some (.slice p50 l51 c52)) ∧ (Br (n55 == (((l51 : Nat) : Int))) (Calls Tryz.prog 56 #[(.pointer p19)] w54 (fun e56 w57 =>
 ∃ n58, e56 = .returned (.int .i64 n58) ∧ (Br (n58 == 0) (Calls Tryz.prog 55 #[(.pointer p19)] w57 (fun e59 w60 =>
 ∃ p61 l62 c63, e59 = .returned (.slice p61 l62 c63) ∧ (Br (((((l62 : Nat) : Int)) : Int) == 0) (Calls Tryz.prog 57 #[(.pointer p19)] w60 (fun e64 w65 =>
 ∃ n66, e64 = .returned (.int .i64 n66) ∧ (Br (n66 == 0) (Calls Tryz.prog 50 #[] w65 (fun e67 w68 =>
 ∃ b69, e67 = .returned (.bool b69) ∧ (R (.returned (.bool b69)) w68))) (R (.returned (.bool false)) w65)))) (R (.returned (.bool false)) w60)))) (R (.returned (.bool false)) w57)))) (R (.returned (.bool false)) w54)))))) (R (.returned (.bool false)) w49)) (R (.returned (.bool false)) w49))))))))))))))))))))))))))))
theorem callsWeighlocklaw18MachineNews (a0_0 : Int) (a0_1p : Option Addr) (a0_1l a0_1c : Nat) (a0_2 a0_3 : Int) (a0_4 a0_5 : Int) (a0_6 a0_7 : Int) (R : Ending → 
    World → Prop) (w : World) (h : preWeighlocklaw18MachineNews a0_0 a0_1p a0_1l a0_1c a0_2 a0_3 a0_4 a0_5 a0_6 a0_7 R w) : Calls Tryz.prog 10 #[(.agg #[(.int .i64 a0_0), (.slice a0_1p a0_1l a0_1c), (.int .u32 a0_2), (.int .i64 a0_3), (.int .i64 a0_4), (.int .i64 a0_5), (.int .i64 a0_6), (.int .i64 a0_7)])] w R :=
  calls_of_sym Tryz.func10 (c := bodyOf Tryz.f10) rfl (Eq.mpr (by kernel_rfl) h)

/-- weighlock/weighlockref02.Homes -/
def preWeighlockref02Homes (a0p : Option Addr) (a0l a0c : Nat) (R : Ending → 
    World → Prop) (w : World) : Prop :=
  ∃ (I0 : Bool → Int → World → Prop) (μ1 : Bool → Int → World → Nat), I0 false 0 w ∧
 ∀ (_g2 : Nat → Value) (w3 : World) (b4 : Bool) (n5 : Int), I0 b4 n5 w3 → (Br (decide (n5 < (((a0l : Nat) : Int)))) (((0 : Int) ≤ n5 ∧
 n5 < ((a0l : Nat) : Int)) ∧ (PtrSome a0p (fun b6 o7 => ∃ n8, w3.cell? ⟨b6, o7 + (Int.toNat n5), none⟩ = some (.int .i64 n8) ∧
 (Br (decide (n8 < 0)) (R (.returned (.bool false)) w3) (Br (decide (n8 > 7)) (R (.returned (.bool false)) w3) (I0 b4 (IntKind.i64.wrap (n5 + 1)) w3 ∧
 μ1 b4 (IntKind.i64.wrap (n5 + 1)) w3 < μ1 b4 n5 w3)))))) (R (.returned (.bool true)) w3))
theorem callsWeighlockref02Homes (a0p : Option Addr) (a0l a0c : Nat) (R : Ending → 
    World → Prop) (w : World) (h : preWeighlockref02Homes a0p a0l a0c R w) : Calls Tryz.prog 26 #[(.slice a0p a0l a0c)] w R :=
  calls_of_sym Tryz.func26 (c := bodyOf Tryz.f26) rfl (Eq.mpr (by kernel_rfl) h)

/-- weighlock/weighlockref17.Check -/
def preWeighlockref17Check (a0_0 : Int) (a0_1p : Option Addr) (a0_1l a0_1c : Nat) (a0_2 a0_3 : Int) (a0_4 a0_5 : Int) (a0_6 a0_7 : Int) (R : Ending → 
    World → Prop) (w : World) : Prop :=
  ∀ w0, w0 = w.alloc (.cells #[(.int .i64 a0_0), (.slice a0_1p a0_1l a0_1c), (.int .u32 a0_2), (.int .i64 a0_3), (.int .i64 a0_4), (.int .i64 a0_5), (.int .i64 a0_6), (.int .i64 a0_7)] 76) →
 (∃ n1, w0.cell? ⟨w.heap.size, 0, none⟩ = some (.int .i64 n1) ∧ (Br (decide (n1 < 1)) (R (.returned (.int .i64 7)) w0) (∃ n2, w0.cell? ⟨w.heap.size, 0, none⟩ = some (.int .i64 n2) ∧
 (Br (decide (n2 > 7)) (R (.returned (.int .i64 7)) w0) (∃ p3 l4 c5, w0.cell? ⟨w.heap.size, 1, none⟩ = some (.slice p3 l4 c5) ∧
 (Br (decide (((((l4 : Nat) : Int)) : Int) < 1)) (R (.returned (.int .i64 1)) w0) (∃ p6 l7 c8, w0.cell? ⟨w.heap.size, 1, none⟩ = some (.slice p6 l7 c8) ∧
 (Br (decide (((((l7 : Nat) : Int)) : Int) > 64)) (R (.returned (.int .i64 1)) w0) (∃ p9 l10 c11, w0.cell? ⟨w.heap.size, 1, none⟩ = some (.slice p9 l10 c11) ∧
 (Calls Tryz.prog 26 #[(.slice p9 l10 c11)] w0 (fun e12 w13 => ∃ b14, e12 = .returned (.bool b14) ∧
 (Br (!b14) (R (.returned (.int .i64 1)) w13) (∃ n15, w13.cell? ⟨w.heap.size, 0, none⟩ = some (.int .i64 n15) ∧
 (Br (n15 == 2) (∃ n16, w13.cell? ⟨w.heap.size, 3, none⟩ = some (.int .i64 n16) ∧ (Calls Tryz.prog 100 #[(.int .i64 n16)] w13 (fun e17 w18 =>
 ∃ b19, e17 = .returned (.bool b19) ∧ (Br (!b19) (R (.returned (.int .i64 7)) w18) (∃ n20, w18.cell? ⟨w.heap.size, 3, none⟩ = some (.int .i64 n20) ∧
 (∃ p21 l22 c23, w18.cell? ⟨w.heap.size, 1, none⟩ = some (.slice p21 l22 c23) ∧
 (Br (decide (n20 < (((l22 : Nat) : Int)))) (R (.returned (.int .i64 7)) w18) (R (.returned (.int .i64 0)) w18)))))))) (Br (n15 == 5) (∃ n24, w13.cell? ⟨w.heap.size, 4, none⟩ = some (.int .i64 n24) ∧
 (Br (decide (n24 < 1)) (R (.returned (.int .i64 7)) w13) (∃ n25, w13.cell? ⟨w.heap.size, 4, none⟩ = some (.int .i64 n25) ∧
 (Br (decide (n25 > 8)) (R (.returned (.int .i64 7)) w13) (R (.returned (.int .i64 0)) w13))))) (Br (n15 == 7) (∃ n26, w13.cell? ⟨w.heap.size, 6, none⟩ = some (.int .i64 n26) ∧
 (Br (n26 != 1) (∃ n27, w13.cell? ⟨w.heap.size, 6, none⟩ = some (.int .i64 n27) ∧ (Br (n27 != 4) (R (.returned (.int .i64 7)) w13) (∃ n28, w13.cell? ⟨w.heap.size, 7, none⟩ = some (.int .i64 n28) ∧
 (Br (n28 != 1) (∃ n29, w13.cell? ⟨w.heap.size, 7, none⟩ = some (.int .i64 n29) ∧ (Br (n29 != 3) (∃ n30, w13.cell? ⟨w.heap.size, 7, none⟩ = some (.int .i64 n30) ∧
 (Br (n30 != 4) (R (.returned (.int .i64 7)) w13) (∃ n31, w13.cell? ⟨w.heap.size, 5, none⟩ = some (.int .i64 n31) ∧
 (Br (decide (n31 < 1)) (R (.returned (.int .i64 7)) w13) (∃ n32, w13.cell? ⟨w.heap.size, 5, none⟩ = some (.int .i64 n32) ∧
 (Br (decide (n32 > 1000)) (R (.returned (.int .i64 7)) w13) (R (.returned (.int .i64 0)) w13))))))) (∃ n33, w13.cell? ⟨w.heap.size, 5, none⟩ = some (.int .i64 n33) ∧
 (Br (decide (n33 < 1)) (R (.returned (.int .i64 7)) w13) (∃ n34, w13.cell? ⟨w.heap.size, 5, none⟩ = some (.int .i64 n34) ∧
 (Br (decide (n34 > 1000)) (R (.returned (.int .i64 7)) w13) (R (.returned (.int .i64 0)) w13))))))) (∃ n35, w13.cell? ⟨w.heap.size, 5, none⟩ = some (.int .i64 n35) ∧
 (Br (decide (n35 < 1)) (R (.returned (.int .i64 7)) w13) (∃ n36, w13.cell? ⟨w.heap.size, 5, none⟩ = some (.int .i64 n36) ∧
 (Br (decide (n36 > 1000)) (R (.returned (.int .i64 7)) w13) (R (.returned (.int .i64 0)) w13))))))))) (∃ n37, w13.cell? ⟨w.heap.size, 7, none⟩ = some (.int .i64 n37) ∧
 (Br (n37 != 1) (∃ n38, w13.cell? ⟨w.heap.size, 7, none⟩ = some (.int .i64 n38) ∧ (Br (n38 != 3) (∃ n39, w13.cell? ⟨w.heap.size, 7, none⟩ = some (.int .i64 n39) ∧
 (Br (n39 != 4) (R (.returned (.int .i64 7)) w13) (∃ n40, w13.cell? ⟨w.heap.size, 5, none⟩ = some (.int .i64 n40) ∧
 (Br (decide (n40 < 1)) (R (.returned (.int .i64 7)) w13) (∃ n41, w13.cell? ⟨w.heap.size, 5, none⟩ = some (.int .i64 n41) ∧
 (Br (decide (n41 > 1000)) (R (.returned (.int .i64 7)) w13) (R (.returned (.int .i64 0)) w13))))))) (∃ n42, w13.cell? ⟨w.heap.size, 5, none⟩ = some (.int .i64 n42) ∧
 (Br (decide (n42 < 1)) (R (.returned (.int .i64 7)) w13) (∃ n43, w13.cell? ⟨w.heap.size, 5, none⟩ = some (.int .i64 n43) ∧
 (Br (decide (n43 > 1000)) (R (.returned (.int .i64 7)) w13) (R (.returned (.int .i64 0)) w13))))))) (∃ n44, w13.cell? ⟨w.heap.size, 5, none⟩ = some (.int .i64 n44) ∧
 (Br (decide (n44 < 1)) (R (.returned (.int .i64 7)) w13) (∃ n45, w13.cell? ⟨w.heap.size, 5, none⟩ = some (.int .i64 n45) ∧
 (Br (decide (n45 > 1000)) (R (.returned (.int .i64 7)) w13) (R (.returned (.int .i64 0)) w13))))))))) (R (.returned (.int .i64 0)) w13)))))))))))))))))
theorem callsWeighlockref17Check (a0_0 : Int) (a0_1p : Option Addr) (a0_1l a0_1c : Nat) (a0_2 a0_3 : Int) (a0_4 a0_5 : Int) (a0_6 a0_7 : Int) (R : Ending → 
    World → Prop) (w : World) (h : preWeighlockref17Check a0_0 a0_1p a0_1l a0_1c a0_2 a0_3 a0_4 a0_5 a0_6 a0_7 R w) : Calls Tryz.prog 38 #[(.agg #[(.int .i64 a0_0), (.slice a0_1p a0_1l a0_1c), (.int .u32 a0_2), (.int .i64 a0_3), (.int .i64 a0_4), (.int .i64 a0_5), (.int .i64 a0_6), (.int .i64 a0_7)])] w R :=
  calls_of_sym Tryz.func38 (c := bodyOf Tryz.f38) rfl (Eq.mpr (by kernel_rfl) h)

/-- weighlock/weighlocklaw17.Ref -/
def preWeighlocklaw17Ref (a0_0 : Int) (a0_1p : Option Addr) (a0_1l a0_1c : Nat) (a0_2 a0_3 : Int) (a0_4 a0_5 : Int) (a0_6 a0_7 : Int) (R : Ending → 
    World → Prop) (w : World) : Prop :=
  ∀ w0, w0 = w.alloc (.cells #[(.int .i64 a0_0), (.slice a0_1p a0_1l a0_1c), (.int .u32 a0_2), (.int .i64 a0_3), (.int .i64 a0_4), (.int .i64 a0_5), (.int .i64 a0_6), (.int .i64 a0_7)] 74) →
 (∀ w1, w1 = w0.alloc (.cells #[(.int .i64 0), (.slice none 0 0), (.int .u32 0), (.int .i64 0), (.int .i64 0), (.int .i64 0), (.int .i64 0), (.int .i64 0)] 76) →
 (∃ n2, w1.cell? ⟨w.heap.size, 0, none⟩ = some (.int .i64 n2) ∧ (∃ p3 l4 c5, w1.cell? ⟨w.heap.size, 1, none⟩ = some (.slice p3 l4 c5) ∧
 (∃ n6, w1.cell? ⟨w.heap.size, 2, none⟩ = some (.int .u32 n6) ∧ (∃ n7, w1.cell? ⟨w.heap.size, 3, none⟩ = some (.int .i64 n7) ∧
 (∃ n8, w1.cell? ⟨w.heap.size, 4, none⟩ = some (.int .i64 n8) ∧ (∃ n9, w1.cell? ⟨w.heap.size, 5, none⟩ = some (.int .i64 n9) ∧
 (∃ n10, w1.cell? ⟨w.heap.size, 6, none⟩ = some (.int .i64 n10) ∧ (∃ n11, w1.cell? ⟨w.heap.size, 7, none⟩ = some (.int .i64 n11) ∧
 (w1.there w0.heap.size 0 8 ∧ (∀ w12, w12 = w1.setCells w0.heap.size 0 [(.int .i64 n2), (.slice p3 l4 c5), (.int .u32 n6), (.int .i64 n7), (.int .i64 n8), (.int .i64 n9), (.int .i64 n10), (.int .i64 n11)] →
 (∃ n13, w12.cell? ⟨w0.heap.size, 0, none⟩ = some (.int .i64 n13) ∧ (∃ p14 l15 c16, w12.cell? ⟨w0.heap.size, 1, none⟩ = some (.slice p14 l15 c16) ∧
 (∃ n17, w12.cell? ⟨w0.heap.size, 2, none⟩ = some (.int .u32 n17) ∧ (∃ n18, w12.cell? ⟨w0.heap.size, 3, none⟩ = some (.int .i64 n18) ∧
 (∃ n19, w12.cell? ⟨w0.heap.size, 4, none⟩ = some (.int .i64 n19) ∧ (∃ n20, w12.cell? ⟨w0.heap.size, 5, none⟩ = some (.int .i64 n20) ∧
 (∃ n21, w12.cell? ⟨w0.heap.size, 6, none⟩ = some (.int .i64 n21) ∧ (∃ n22, w12.cell? ⟨w0.heap.size, 7, none⟩ = some (.int .i64 n22) ∧
 (R (.returned (.agg #[(.int .i64 n13), (.slice p14 l15 c16), (.int .u32 n17), (.int .i64 n18), (.int .i64 n19), (.int .i64 n20), (.int .i64 n21), (.int .i64 n22)])) w12))))))))))))))))))))
theorem callsWeighlocklaw17Ref (a0_0 : Int) (a0_1p : Option Addr) (a0_1l a0_1c : Nat) (a0_2 a0_3 : Int) (a0_4 a0_5 : Int) (a0_6 a0_7 : Int) (R : Ending → 
    World → Prop) (w : World) (h : preWeighlocklaw17Ref a0_0 a0_1p a0_1l a0_1c a0_2 a0_3 a0_4 a0_5 a0_6 a0_7 R w) : Calls Tryz.prog 39 #[(.agg #[(.int .i64 a0_0), (.slice a0_1p a0_1l a0_1c), (.int .u32 a0_2), (.int .i64 a0_3), (.int .i64 a0_4), (.int .i64 a0_5), (.int .i64 a0_6), (.int .i64 a0_7)])] w R :=
  calls_of_sym Tryz.func39 (c := bodyOf Tryz.f39) rfl (Eq.mpr (by kernel_rfl) h)

/-- weighlock/weighlocklaw18.awake -/
def preWeighlocklaw18Awake  (R : Ending → World → Prop) (w : World) : Prop :=
  ∀ w0, w0 = w.alloc (.cells #[(.int .i64 0)] 3) →
 (Calls Tryz.prog 51 #[(.agg #[(.int .i64 1), (.slice (some ⟨w.heap.size, 0, none⟩) 1 1), (.int .u32 0), (.int .i64 0), (.int .i64 0), (.int .i64 0), (.int .i64 0), (.int .i64 0)])] w0 (fun e1 w2 =>
 ∃ p3 n4, e1 = .returned (.tuple #[(.pointer p3), (.int .i64 n4)]) ∧ (Br (n4 != 0) (R (.returned (.bool false)) w2) (Br (Option.isNone p3) (R (.returned (.bool false)) w2) (∀ w5, w5 = w2.alloc (.cells #[(.int .i64 3), (.int .i64 0), (.int .i64 ((-1))), (.int .i64 1), (.int .i64 0), (.int .i64 0), (.int .i64 1), (.int .i64 0), (.int .i64 0)] 107) →
 (Calls Tryz.prog 58 #[(.pointer p3), (.slice (some ⟨w2.heap.size, 0, none⟩) 3 3)] w5 (fun e6 w7 =>
 ∃ n8, e6 = .returned (.int .i64 n8) ∧ (Calls Tryz.prog 55 #[(.pointer p3)] w7 (fun e9 w10 =>
 ∃ p11 l12 c13, e9 = .returned (.slice p11 l12 c13) ∧ (Br (n8 == 3) (Br (((((l12 : Nat) : Int)) : Int) == 3) (((0 : Int) ≤ 0 ∧
 0 < ((l12 : Nat) : Int)) ∧ (PtrSome p11 (fun b14 o15 => ∃ n16, w10.cell? ⟨b14, o15, none⟩ = some (.int .i64 n16) ∧
 (Br (n16 == 1) (((0 : Int) ≤ 1 ∧ 1 < ((l12 : Nat) : Int)) ∧ (PtrSome p11 (fun b17 o18 => ∃ n19, w10.cell? ⟨b17, o18 + 4, none⟩ = some (.int .i64 n19) ∧
 (Br (n19 == 2) (((0 : Int) ≤ 2 ∧ 2 < ((l12 : Nat) : Int)) ∧ (PtrSome p11 (fun b20 o21 => ∃ n22, w10.cell? ⟨b20, o21 + 8, none⟩ = some (.int .i64 n22) ∧
 (Br (n22 == 4) (Calls Tryz.prog 54 #[(.pointer p3), (.int .i64 0)] w10 (fun e23 w24 =>
 ∃ n25, e23 = .returned (.int .i64 n25) ∧ (R (.returned (.bool (n25 == 2))) w24))) (R (.returned (.bool false)) w10))))) (R (.returned (.bool false)) w10))))) (R (.returned (.bool false)) w10))))) (R (.returned (.bool false)) w10)) (R (.returned (.bool false)) w10)))))))))))
theorem callsWeighlocklaw18Awake  (R : Ending → 
    World → Prop) (w : World) (h : preWeighlocklaw18Awake  R w) : Calls Tryz.prog 50 #[] w R :=
  calls_of_sym Tryz.func50 (c := bodyOf Tryz.f50) rfl (Eq.mpr (by kernel_rfl) h)

/-- weighlock/weighlockref01.Size -/
def preWeighlockref01Size (a0 : Int) (R : Ending → World → Prop) (w : World) : Prop :=
  ∃ (I0 : Bool →
 Int → World → Prop) (μ1 : Bool → Int → World → Nat), I0 false 1 w ∧ ∀ (_g2 : Nat → Value) (w3 : World) (b4 : Bool) (n5 : Int), I0 b4 n5 w3 →
 (Br (decide (n5 ≤ 64)) (Br (n5 == a0) (R (.returned (.bool true)) w3) (I0 b4 (IntKind.i64.wrap (n5 * 2)) w3 ∧
 μ1 b4 (IntKind.i64.wrap (n5 * 2)) w3 < μ1 b4 n5 w3)) (R (.returned (.bool false)) w3))
theorem callsWeighlockref01Size (a0 : Int) (R : Ending → 
    World → Prop) (w : World) (h : preWeighlockref01Size a0 R w) : Calls Tryz.prog 100 #[(.int .i64 a0)] w R :=
  calls_of_sym Tryz.func100 (c := bodyOf Tryz.f100) rfl (Eq.mpr (by kernel_rfl) h)

end Go.Proofs.YtollfjfcdofbaaaGreat
