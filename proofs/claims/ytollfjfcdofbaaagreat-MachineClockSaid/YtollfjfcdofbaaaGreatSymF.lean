/- What the functions of the program come to, as Props over the world's cells, printed by a program of this session (Gen.lean); the kernel holds each against the engine's own. -/
import Derived.Test.YtollfjfcdofbaaaGreatProg
import Derived.Test.YtollfjfcdofbaaaGreatEng6
import Derived.KernelRfl
namespace Go.Proofs.YtollfjfcdofbaaaGreat
open Go Go.Proofs
set_option maxRecDepth 100000
set_option linter.unusedVariables false
/-- weighlock/weighlocklaw18.MachineClock -/
def preWeighlocklaw18MachineClock (a0_0 : Int) (a0_1p : Option Addr) (a0_1l a0_1c : Nat) (a0_2 a0_3 : Int) (a0_4 a0_5 : Int) (a0_6 a0_7 : Int) (a1p : Option Addr) (a1l a1c : Nat) (R : Ending → 
    World → Prop) (w : World) : Prop :=
  ∀ w0, w0 = w.alloc (.cells #[(.int .i64 a0_0), (.slice a0_1p a0_1l a0_1c), (.int .u32 a0_2), (.int .i64 a0_3), (.int .i64 a0_4), (.int .i64 a0_5), (.int .i64 a0_6), (.int .i64 a0_7)] 74) →
 (∃ n1, w0.cell? ⟨w.heap.size, 0, none⟩ = some (.int .i64 n1) ∧ (∃ p2 l3 c4, w0.cell? ⟨w.heap.size, 1, none⟩ = some (.slice p2 l3 c4) ∧
 (∃ n5, w0.cell? ⟨w.heap.size, 2, none⟩ = some (.int .u32 n5) ∧ (∃ n6, w0.cell? ⟨w.heap.size, 3, none⟩ = some (.int .i64 n6) ∧
 (∃ n7, w0.cell? ⟨w.heap.size, 4, none⟩ = some (.int .i64 n7) ∧ (∃ n8, w0.cell? ⟨w.heap.size, 5, none⟩ = some (.int .i64 n8) ∧
 (∃ n9, w0.cell? ⟨w.heap.size, 6, none⟩ = some (.int .i64 n9) ∧ (∃ n10, w0.cell? ⟨w.heap.size, 7, none⟩ = some (.int .i64 n10) ∧
 (Calls Tryz.prog 49 #[(.agg #[(.int .i64 n1), (.slice p2 l3 c4), (.int .u32 n5), (.int .i64 n6), (.int .i64 n7), (.int .i64 n8), (.int .i64 n9), (.int .i64 n10)]), (.slice a1p a1l a1c), (.int .i64 300)] w0 (fun e11 w12 =>
 ∃ b13, e11 = .returned (.bool b13) ∧ (Br (!b13) (Calls Tryz.prog 50 #[] w12 (fun e14 w15 =>
 ∃ b16, e14 = .returned (.bool b16) ∧ (R (.returned (.bool b16)) w15))) (∃ n17, w12.cell? ⟨w.heap.size, 0, none⟩ = some (.int .i64 n17) ∧
 (∃ p18 l19 c20, w12.cell? ⟨w.heap.size, 1, none⟩ = some (.slice p18 l19 c20) ∧
 (∃ n21, w12.cell? ⟨w.heap.size, 2, none⟩ = some (.int .u32 n21) ∧ (∃ n22, w12.cell? ⟨w.heap.size, 3, none⟩ = some (.int .i64 n22) ∧
 (∃ n23, w12.cell? ⟨w.heap.size, 4, none⟩ = some (.int .i64 n23) ∧ (∃ n24, w12.cell? ⟨w.heap.size, 5, none⟩ = some (.int .i64 n24) ∧
 (∃ n25, w12.cell? ⟨w.heap.size, 6, none⟩ = some (.int .i64 n25) ∧ (∃ n26, w12.cell? ⟨w.heap.size, 7, none⟩ = some (.int .i64 n26) ∧
 (Calls Tryz.prog 51 #[(.agg #[(.int .i64 n17), (.slice p18 l19 c20), (.int .u32 n21), (.int .i64 n22), (.int .i64 n23), (.int .i64 n24), (.int .i64 n25), (.int .i64 n26)])] w12 (fun e27 w28 =>
 ∃ p29 n30, e27 = .returned (.tuple #[(.pointer p29), (.int .i64 n30)]) ∧
 (Br (n30 != 0) (R (.returned (.bool false)) w28) (Br (Option.isNone p29) (R (.returned (.bool false)) w28) (∃ (I31 : Bool →
 Int → Int → World → Prop) (μ32 : Bool → Int → Int → World → Nat), I31 false 0 0 w28 ∧ ∀ (_g33 : Nat →
 Value) (w34 : World) (b35 : Bool) (n36 : Int) (n37 : Int), I31 b35 n36 n37 w34 → (Br (decide (n37 < (((a1l : Nat) : Int)))) (((0 : Int) ≤ n37 ∧
 n37 < ((a1l : Nat) : Int)) ∧ (PtrSome a1p (fun b38 o39 => ∃ n40, w34.cell? ⟨b38, o39 + ((Int.toNat n37)) * 3, none⟩ = some (.int .i64 n40) ∧
 (∃ n41, w34.cell? ⟨b38, o39 + ((Int.toNat n37)) * 3 + 1, none⟩ = some (.int .i64 n41) ∧ (∃ n42, w34.cell? ⟨b38, o39 + ((Int.toNat n37)) * 3 + 2, none⟩ = some (.int .i64 n42) ∧
 (∀ w43, w43 = w34.alloc (.cells #[(.int .i64 0), (.int .i64 0), (.int .i64 0)] 107) → (w43.there w34.heap.size 0 3 ∧
 (∀ w44, w44 = w43.setCells w34.heap.size 0 [(.int .i64 n40), (.int .i64 n41), (.int .i64 n42)] →
 (Calls Tryz.prog 55 #[(.pointer p29)] w44 (fun e45 w46 => ∃ p47 l48 c49, e45 = .returned (.slice p47 l48 c49) ∧
 (∃ n50, w46.cell? ⟨w34.heap.size, 0, none⟩ = some (.int .i64 n50) ∧ (∃ n51, w46.cell? ⟨w34.heap.size, 1, none⟩ = some (.int .i64 n51) ∧
 (∃ n52, w46.cell? ⟨w34.heap.size, 2, none⟩ = some (.int .i64 n52) ∧ (Calls Tryz.prog 52 #[(.pointer p29), (.agg #[(.int .i64 n50), (.int .i64 n51), (.int .i64 n52)])] w46 (fun e53 w54 =>
 ∃ b55, e53 = .returned (.bool b55) ∧ (∃ n56, w54.cell? ⟨w34.heap.size, 0, none⟩ = some (.int .i64 n56) ∧
 (Br (n56 == 2) (Calls Tryz.prog 55 #[(.pointer p29)] w54 (fun e57 w58 =>
 ∃ p59 l60 c61, e57 = .returned (.slice p59 l60 c61) ∧ (Calls Tryz.prog 56 #[(.pointer p29)] w58 (fun e62 w63 =>
 ∃ n64, e62 = .returned (.int .i64 n64) ∧ (Br (n64 != (IntKind.i64.wrap (n36 + 1))) (R (.returned (.bool false)) w63) (Br (decide (((((l60 : Nat) : Int)) : Int) < (((l48 : Nat) : Int)))) (R (.returned (.bool false)) w63) (((0 : Int) ≤ (((l48 : Nat) : Int)) ∧
 (((l48 : Nat) : Int)) ≤ ((l60 : Nat) : Int)) ∧ (∃ (I65 : Bool → Int → World → Prop) (μ66 : Bool → Int →
 World → Nat), I65 b35 0 w63 ∧ ∀ (_g67 : Nat → Value) (w68 : World) (b69 : Bool) (n70 : Int), I65 b69 n70 w68 →
 (Br (decide (n70 < (((l60 - (Int.toNat (((l48 : Nat) : Int))) : Nat) : Int)))) (((0 : Int) ≤ n70 ∧
 n70 < ((l60 - (Int.toNat (((l48 : Nat) : Int))) : Nat) : Int)) ∧ (PtrSome (if (c61 : Nat) = (Int.toNat (((l48 : Nat) : Int))) then p59 else p59.map (·.add ((Int.toNat (((l48 : Nat) : Int))) * 4))) (fun b71 o72 =>
 ∃ n73, w68.cell? ⟨b71, o72 + ((Int.toNat n70)) * 4, none⟩ = some (.int .i64 n73) ∧ (∃ n74, w68.cell? ⟨b71, o72 + ((Int.toNat n70)) * 4 + 1, none⟩ = some (.int .i64 n74) ∧
 (∃ n75, w68.cell? ⟨b71, o72 + ((Int.toNat n70)) * 4 + 2, none⟩ = some (.int .i64 n75) ∧ (∃ b76, w68.cell? ⟨b71, o72 + ((Int.toNat n70)) * 4 + 3, none⟩ = some (.bool b76) ∧
 (∀ w77, w77 = w68.alloc (.cells #[(.int .i64 0), (.int .i64 0), (.int .i64 0), (.bool false)] 113) →
 (w77.there w68.heap.size 0 4 ∧ (∀ w78, w78 = w77.setCells w68.heap.size 0 [(.int .i64 n73), (.int .i64 n74), (.int .i64 n75), (.bool b76)] →
 (∃ n79, w78.cell? ⟨w68.heap.size, 2, none⟩ = some (.int .i64 n79) ∧ (Br (n79 != (IntKind.i64.wrap (n36 + 1))) (R (.returned (.bool false)) w78) (I65 b69 (IntKind.i64.wrap (n70 + 1)) w78 ∧
 μ66 b69 (IntKind.i64.wrap (n70 + 1)) w78 < μ66 b69 n70 w68)))))))))))) (I31 b69 (IntKind.i64.wrap (n36 + 1)) (IntKind.i64.wrap (n37 + 1)) w68 ∧
 μ32 b69 (IntKind.i64.wrap (n36 + 1)) (IntKind.i64.wrap (n37 + 1)) w68 < μ32 b35 n36 n37 w34)))))))))) (Calls Tryz.prog 55 #[(.pointer p29)] w54 (fun e80 w81 =>
 ∃ p82 l83 c84, e80 = .returned (.slice p82 l83 c84) ∧ (Calls Tryz.prog 56 #[(.pointer p29)] w81 (fun e85 w86 =>
 ∃ n87, e85 = .returned (.int .i64 n87) ∧ (Br (n87 != n36) (R (.returned (.bool false)) w86) (Br (decide (((((l83 : Nat) : Int)) : Int) < (((l48 : Nat) : Int)))) (R (.returned (.bool false)) w86) (((0 : Int) ≤ (((l48 : Nat) : Int)) ∧
 (((l48 : Nat) : Int)) ≤ ((l83 : Nat) : Int)) ∧ (∃ (I88 : Bool → Int → World → Prop) (μ89 : Bool → Int →
 World → Nat), I88 b35 0 w86 ∧ ∀ (_g90 : Nat → Value) (w91 : World) (b92 : Bool) (n93 : Int), I88 b92 n93 w91 →
 (Br (decide (n93 < (((l83 - (Int.toNat (((l48 : Nat) : Int))) : Nat) : Int)))) (((0 : Int) ≤ n93 ∧
 n93 < ((l83 - (Int.toNat (((l48 : Nat) : Int))) : Nat) : Int)) ∧ (PtrSome (if (c84 : Nat) = (Int.toNat (((l48 : Nat) : Int))) then p82 else p82.map (·.add ((Int.toNat (((l48 : Nat) : Int))) * 4))) (fun b94 o95 =>
 ∃ n96, w91.cell? ⟨b94, o95 + ((Int.toNat n93)) * 4, none⟩ = some (.int .i64 n96) ∧ (∃ n97, w91.cell? ⟨b94, o95 + ((Int.toNat n93)) * 4 + 1, none⟩ = some (.int .i64 n97) ∧
 (∃ n98, w91.cell? ⟨b94, o95 + ((Int.toNat n93)) * 4 + 2, none⟩ = some (.int .i64 n98) ∧ (∃ b99, w91.cell? ⟨b94, o95 + ((Int.toNat n93)) * 4 + 3, none⟩ = some (.bool b99) ∧
 (∀ w100, w100 = w91.alloc (.cells #[(.int .i64 0), (.int .i64 0), (.int .i64 0), (.bool false)] 113) →
 (w100.there w91.heap.size 0 4 ∧ (∀ w101, w101 = w100.setCells w91.heap.size 0 [(.int .i64 n96), (.int .i64 n97), (.int .i64 n98), (.bool b99)] →
 (∃ n102, w101.cell? ⟨w91.heap.size, 2, none⟩ = some (.int .i64 n102) ∧ (Br (n102 != n36) (R (.returned (.bool false)) w101) (I88 b92 (IntKind.i64.wrap (n93 + 1)) w101 ∧
 μ89 b92 (IntKind.i64.wrap (n93 + 1)) w101 < μ89 b92 n93 w91)))))))))))) (I31 b92 n36 (IntKind.i64.wrap (n37 + 1)) w91 ∧
 μ32 b92 n36 (IntKind.i64.wrap (n37 + 1)) w91 < μ32 b35 n36 n37 w34))))))))))))))))))))))))))) (Calls Tryz.prog 50 #[] w34 (fun e103 w104 =>
 ∃ b105, e103 = .returned (.bool b105) ∧ (R (.returned (.bool b105)) w104))))))))))))))))))))))))))))
theorem callsWeighlocklaw18MachineClock (a0_0 : Int) (a0_1p : Option Addr) (a0_1l a0_1c : Nat) (a0_2 a0_3 : Int) (a0_4 a0_5 : Int) (a0_6 a0_7 : Int) (a1p : Option Addr) (a1l a1c : Nat) (R : Ending → 
    World → Prop) (w : World) (h : preWeighlocklaw18MachineClock a0_0 a0_1p a0_1l a0_1c a0_2 a0_3 a0_4 a0_5 a0_6 a0_7 a1p a1l a1c R w) : Calls Tryz.prog 9 #[(.agg #[(.int .i64 a0_0), (.slice a0_1p a0_1l a0_1c), (.int .u32 a0_2), (.int .i64 a0_3), (.int .i64 a0_4), (.int .i64 a0_5), (.int .i64 a0_6), (.int .i64 a0_7)]), (.slice a1p a1l a1c)] w R :=
  calls_of_sym Tryz.func9 (c := bodyOf Tryz.f9) rfl (Eq.mpr (by kernel_rfl) h)

/-- weighlock/weighlocklaw18.Fine -/
def preWeighlocklaw18Fine (a0_0 : Int) (a0_1p : Option Addr) (a0_1l a0_1c : Nat) (a0_2 a0_3 : Int) (a0_4 a0_5 : Int) (a0_6 a0_7 : Int) (a1p : Option Addr) (a1l a1c : Nat) (a2 : Int) (R : Ending → 
    World → Prop) (w : World) : Prop :=
  ∀ w0, w0 = w.alloc (.cells #[(.int .i64 a0_0), (.slice a0_1p a0_1l a0_1c), (.int .u32 a0_2), (.int .i64 a0_3), (.int .i64 a0_4), (.int .i64 a0_5), (.int .i64 a0_6), (.int .i64 a0_7)] 74) →
 (∃ p1 l2 c3, w0.cell? ⟨w.heap.size, 1, none⟩ = some (.slice p1 l2 c3) ∧ (Br (decide (((((l2 : Nat) : Int)) : Int) ≤ 8)) (∃ n4, w0.cell? ⟨w.heap.size, 0, none⟩ = some (.int .i64 n4) ∧
 (∃ p5 l6 c7, w0.cell? ⟨w.heap.size, 1, none⟩ = some (.slice p5 l6 c7) ∧ (∃ n8, w0.cell? ⟨w.heap.size, 2, none⟩ = some (.int .u32 n8) ∧
 (∃ n9, w0.cell? ⟨w.heap.size, 3, none⟩ = some (.int .i64 n9) ∧ (∃ n10, w0.cell? ⟨w.heap.size, 4, none⟩ = some (.int .i64 n10) ∧
 (∃ n11, w0.cell? ⟨w.heap.size, 5, none⟩ = some (.int .i64 n11) ∧ (∃ n12, w0.cell? ⟨w.heap.size, 6, none⟩ = some (.int .i64 n12) ∧
 (∃ n13, w0.cell? ⟨w.heap.size, 7, none⟩ = some (.int .i64 n13) ∧ (Calls Tryz.prog 39 #[(.agg #[(.int .i64 n4), (.slice p5 l6 c7), (.int .u32 n8), (.int .i64 n9), (.int .i64 n10), (.int .i64 n11), (.int .i64 n12), (.int .i64 n13)])] w0 (fun e14 w15 =>
 ∃ n16 p17 l18 c19 n20 n21 n22 n23 n24 n25, e14 = .returned (.agg #[(.int .i64 n16), (.slice p17 l18 c19), (.int .u32 n20), (.int .i64 n21), (.int .i64 n22), (.int .i64 n23), (.int .i64 n24), (.int .i64 n25)]) ∧
 (Calls Tryz.prog 38 #[(.agg #[(.int .i64 n16), (.slice p17 l18 c19), (.int .u32 n20), (.int .i64 n21), (.int .i64 n22), (.int .i64 n23), (.int .i64 n24), (.int .i64 n25)])] w15 (fun e26 w27 =>
 ∃ n28, e26 = .returned (.int .i64 n28) ∧ (Br (n28 == 0) (R (.returned (.bool (decide (((((a1l : Nat) : Int)) : Int) ≤ a2)))) w27) (R (.returned (.bool false)) w27)))))))))))))) (R (.returned (.bool false)) w0)))
theorem callsWeighlocklaw18Fine (a0_0 : Int) (a0_1p : Option Addr) (a0_1l a0_1c : Nat) (a0_2 a0_3 : Int) (a0_4 a0_5 : Int) (a0_6 a0_7 : Int) (a1p : Option Addr) (a1l a1c : Nat) (a2 : Int) (R : Ending → 
    World → Prop) (w : World) (h : preWeighlocklaw18Fine a0_0 a0_1p a0_1l a0_1c a0_2 a0_3 a0_4 a0_5 a0_6 a0_7 a1p a1l a1c a2 R w) : Calls Tryz.prog 49 #[(.agg #[(.int .i64 a0_0), (.slice a0_1p a0_1l a0_1c), (.int .u32 a0_2), (.int .i64 a0_3), (.int .i64 a0_4), (.int .i64 a0_5), (.int .i64 a0_6), (.int .i64 a0_7)]), (.slice a1p a1l a1c), (.int .i64 a2)] w R :=
  calls_of_sym Tryz.func49 (c := bodyOf Tryz.f49) rfl (Eq.mpr (by kernel_rfl) h)

end Go.Proofs.YtollfjfcdofbaaaGreat
