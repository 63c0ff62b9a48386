/- What the functions of the program come to, as Props over the world's cells, printed by a program of this session (Gen.lean); the kernel holds each against the engine's own. -/
import Derived.Test.YtollfjfcdofbaaaGreatProg
import Derived.Test.YtollfjfcdofbaaaGreatEng6
import Derived.KernelRfl
namespace Go.Proofs.YtollfjfcdofbaaaGreat
open Go Go.Proofs
set_option maxRecDepth 100000
set_option linter.unusedVariables false
/-- weighlock/abort.New -/
def preAbortNew (q0 : Nat) (a1p : Option Addr) (a1l a1c : Nat) (a2 : Int) (R : Ending → 
    World → Prop) (w : World) : Prop :=
  Calls Tryz.prog 86 #[(.int .i64 (((a1l : Nat) : Int))), (.bool true), (.bool false)] w (fun e0 w1 =>
 ∃ p2 n3, e0 = .returned (.tuple #[(.pointer p2), (.int .i64 n3)]) ∧ (Br (n3 != 0) (R (.returned (.tuple #[(.pointer none), (.int .i64 1)])) w1) (Calls Tryz.prog 87 #[(.slice a1p a1l a1c), (.func (.func 189) #[] #[])] w1 (fun e4 w5 =>
 ∃ b6, e4 = .returned (.bool b6) ∧ (Br b6 (R (.returned (.tuple #[(.pointer none), (.int .i64 1)])) w5) (Calls Tryz.prog 190 #[(.int .i64 (((a1l : Nat) : Int))), (.int .i64 a2)] w5 (fun e7 w8 =>
 ∃ p9 n10, e7 = .returned (.tuple #[(.pointer p9), (.int .i64 n10)]) ∧ (Br (n10 != 0) (R (.returned (.tuple #[(.pointer none), (.int .i64 7)])) w8) (∀ w11, w11 = w8.drew →
 (((0 : Int) ≤ 0 ∧ 0 < ((a1l : Nat) : Int)) ∧ (PtrSome a1p (fun b12 o13 => ∃ n14, w11.cell? ⟨b12, o13, none⟩ = some (.int .i64 n14) ∧
 ((Calls Tryz.prog 90 #[(.pointer (some ⟨q0, 0, none⟩)), (.int .i64 n14), (.int .u32 0)] w11 (fun e15 w16 =>
 ∃ n17, e15 = .returned (.int .i64 n17) ∧ (((0 : Int) ≤ (((a1l : Nat) : Int)) ∧ (((a1l : Nat) : Int)) ≤ (((a1l : Nat) : Int)) ∧
 ((32 : Nat) : Int) * (((a1l : Nat) : Int)) ≤ 281474976710656 ∧ (((a1l : Nat) : Int)) ≤ 9223372036854775807) ∧
 (∀ w18, w18 = w16.alloc (.cells (madeCells #[(.int .i64 0), (.int .i64 0), (.int .i64 0), (.int .i64 0)] (((Int.toNat (((a1l : Nat) : Int)))) * 4)) 423) →
 (∀ w19, w19 = w18.alloc (.cells #[(.pointer p2), (.pointer none), (.pointer p9), (.int .i64 n17), (.slice (some ⟨w16.heap.size, 0, none⟩) ((Int.toNat (((a1l : Nat) : Int)))) ((Int.toNat (((a1l : Nat) : Int)))))] 337) →
 (∃ (I20 : Int → World → Prop) (μ21 : Int → World → Nat), I20 0 w19 ∧ ∀ (_g22 : Nat → Value) (w23 : World) (n24 : Int), I20 n24 w23 →
 (Br (decide (n24 < (((a1l : Nat) : Int)))) (((0 : Int) ≤ n24 ∧ n24 < ((a1l : Nat) : Int)) ∧ (PtrSome a1p (fun b25 o26 =>
 ∃ n27, w23.cell? ⟨b25, o26 + (Int.toNat n24), none⟩ = some (.int .i64 n27) ∧ (Calls Tryz.prog 24 #[(.pointer (some ⟨q0, 0, none⟩)), (.int .i64 (IntKind.i64.wrap (3 * a2))), (.int .i64 n27), (.int .u32 0)] w23 (fun e28 w29 =>
 ∃ n30, e28 = .returned (.int .i64 n30) ∧ (I20 (IntKind.i64.wrap (n24 + 1)) w29 ∧ μ21 (IntKind.i64.wrap (n24 + 1)) w29 < μ21 n24 w23)))))) (R (.returned (.tuple #[(.pointer (some ⟨w18.heap.size, 0, none⟩)), (.int .i64 0)])) w23)))))))) ∧
 (((0 : Int) ≤ (((a1l : Nat) : Int)) ∧ (((a1l : Nat) : Int)) ≤ (((a1l : Nat) : Int)) ∧ ((32 : Nat) : Int) * (((a1l : Nat) : Int)) ≤ 281474976710656 ∧
 (((a1l : Nat) : Int)) ≤ 9223372036854775807) ∧ (∀ w31, w31 = w11.alloc (.cells (madeCells #[(.int .i64 0), (.int .i64 0), (.int .i64 0), (.int .i64 0)] (((Int.toNat (((a1l : Nat) : Int)))) * 4)) 423) →
 ((w31.cell? ⟨b12, o13, none⟩ = some (.int .i64 n14)) ∧ (Calls Tryz.prog 90 #[(.pointer (some ⟨q0, 0, none⟩)), (.int .i64 n14), (.int .u32 0)] w31 (fun e32 w33 =>
 ∃ n34, e32 = .returned (.int .i64 n34) ∧ (∀ w35, w35 = w33.alloc (.cells #[(.pointer p2), (.pointer none), (.pointer p9), (.int .i64 n34), (.slice (some ⟨w11.heap.size, 0, none⟩) ((Int.toNat (((a1l : Nat) : Int)))) ((Int.toNat (((a1l : Nat) : Int)))))] 337) →
 (∃ (I36 : Int → World → Prop) (μ37 : Int → World → Nat), I36 0 w35 ∧ ∀ (_g38 : Nat → Value) (w39 : World) (n40 : Int), I36 n40 w39 →
 (Br (decide (n40 < (((a1l : Nat) : Int)))) (((0 : Int) ≤ n40 ∧ n40 < ((a1l : Nat) : Int)) ∧ (PtrSome a1p (fun b41 o42 =>
 ∃ n43, w39.cell? ⟨b41, o42 + (Int.toNat n40), none⟩ = some (.int .i64 n43) ∧ (Calls Tryz.prog 24 #[(.pointer (some ⟨q0, 0, none⟩)), (.int .i64 (IntKind.i64.wrap (3 * a2))), (.int .i64 n43), (.int .u32 0)] w39 (fun e44 w45 =>
 ∃ n46, e44 = .returned (.int .i64 n46) ∧ (I36 (IntKind.i64.wrap (n40 + 1)) w45 ∧ μ37 (IntKind.i64.wrap (n40 + 1)) w45 < μ37 n40 w39)))))) (R (.returned (.tuple #[(.pointer (some ⟨w33.heap.size, 0, none⟩)), (.int .i64 0)])) w39))))))))))))))))))))))
theorem callsAbortNew (q0 : Nat) (a1p : Option Addr) (a1l a1c : Nat) (a2 : Int) (R : Ending → 
    World → Prop) (w : World) (h : preAbortNew q0 a1p a1l a1c a2 R w) : Calls Tryz.prog 155 #[(.pointer (some ⟨q0, 0, none⟩)), (.slice a1p a1l a1c), (.int .i64 a2)] w R :=
  calls_of_sym Tryz.func155 (c := bodyOf Tryz.f155) rfl (Eq.mpr (by kernel_rfl) h)

/-- weighlock/hier.New -/
def preHierNew (q0 : Nat) (a1p : Option Addr) (a1l a1c : Nat) (R : Ending → 
    World → Prop) (w : World) : Prop :=
  Calls Tryz.prog 86 #[(.int .i64 (((a1l : Nat) : Int))), (.bool false), (.bool false)] w (fun e0 w1 =>
 ∃ p2 n3, e0 = .returned (.tuple #[(.pointer p2), (.int .i64 n3)]) ∧ (Br (n3 != 0) (R (.returned (.tuple #[(.pointer none), (.int .i64 1)])) w1) (Calls Tryz.prog 87 #[(.slice a1p a1l a1c), (.func (.func 191) #[] #[])] w1 (fun e4 w5 =>
 ∃ b6, e4 = .returned (.bool b6) ∧ (Br b6 (R (.returned (.tuple #[(.pointer none), (.int .i64 1)])) w5) (((0 : Int) ≤ 0 ∧
 0 < ((a1l : Nat) : Int)) ∧ (PtrSome a1p (fun b7 o8 => ∃ n9, w5.cell? ⟨b7, o8, none⟩ = some (.int .i64 n9) ∧
 (Calls Tryz.prog 90 #[(.pointer (some ⟨q0, 0, none⟩)), (.int .i64 n9), (.int .u32 (IntKind.u32.wrap (IntKind.i64.wrap ((((a1l : Nat) : Int)) + 1))))] w5 (fun e10 w11 =>
 ∃ n12, e10 = .returned (.int .i64 n12) ∧ (∀ w13, w13 = w11.alloc (.cells #[(.pointer p2), (.pointer none), (.int .i64 n12), (.slice none 0 0)] 340) →
 (∃ (I14 : Int → World → Prop) (μ15 : Int → World → Nat), I14 0 w13 ∧ ∀ (_g16 : Nat → Value) (w17 : World) (n18 : Int), I14 n18 w17 →
 (Br (decide (n18 < 8)) (Calls Tryz.prog 90 #[(.pointer (some ⟨q0, 0, none⟩)), (.int .i64 n18), (.int .u32 0)] w17 (fun e19 w20 =>
 ∃ n21, e19 = .returned (.int .i64 n21) ∧ (I14 (IntKind.i64.wrap (n18 + 1)) w20 ∧ μ15 (IntKind.i64.wrap (n18 + 1)) w20 < μ15 n18 w17))) (∃ (I22 : Int →
 World → Prop) (μ23 : Int → World → Nat), I22 0 w17 ∧ ∀ (_g24 : Nat → Value) (w25 : World) (n26 : Int), I22 n26 w25 →
 (Br (decide (n26 < (((a1l : Nat) : Int)))) (((0 : Int) ≤ n26 ∧ n26 < ((a1l : Nat) : Int)) ∧ (PtrSome a1p (fun b27 o28 =>
 ∃ n29, w25.cell? ⟨b27, o28 + (Int.toNat n26), none⟩ = some (.int .i64 n29) ∧ (Calls Tryz.prog 90 #[(.pointer (some ⟨q0, 0, none⟩)), (.int .i64 n29), (.int .u32 0)] w25 (fun e30 w31 =>
 ∃ n32, e30 = .returned (.int .i64 n32) ∧ (∃ p33 l34 c35, w31.cell? ⟨w11.heap.size, 3, none⟩ = some (.slice p33 l34 c35) ∧
 (∀ w36, w36 = w31.alloc (.cells #[(.int .i64 n29), (.int .i64 (IntKind.i64.wrap (n26 + 1))), (.int .i64 0), (.int .i64 0), (.int .u32 0), (.int .i64 0)] 342) →
 (AppQ Tryz.prog #[338, 338] 338 #[(.slice p33 l34 c35), (.slice (some ⟨w31.heap.size, 0, none⟩) 1 1)] w36 (fun p37 l38 c39 w40 =>
 CanSet w40 w11.heap.size 3 ∧ (∀ w41, w41 = w40.setCell ⟨w11.heap.size, 3, none⟩ (.slice p37 l38 c39) →
 (I22 (IntKind.i64.wrap (n26 + 1)) w41 ∧ μ23 (IntKind.i64.wrap (n26 + 1)) w41 < μ23 n26 w25))))))))))) (∀ w42, w42 = w25.drew →
 (((0 : Int) ≤ 0 ∧ 0 < ((a1l : Nat) : Int)) ∧ (PtrSome a1p (fun b43 o44 => ∃ n45, w42.cell? ⟨b43, o44, none⟩ = some (.int .i64 n45) ∧
 (Calls Tryz.prog 192 #[(.int .i64 1073741823), (.bool false), (.bool false)] w42 (fun e46 w47 =>
 ∃ n48, e46 = .returned (.int .u32 n48) ∧ ((w47.cell? ⟨b43, o44, none⟩ = some (.int .i64 n45)) ∧
 (Calls Tryz.prog 90 #[(.pointer (some ⟨q0, 0, none⟩)), (.int .i64 n45), (.int .u32 n48)] w47 (fun e49 w50 =>
 ∃ n51, e49 = .returned (.int .i64 n51) ∧ (R (.returned (.tuple #[(.pointer (some ⟨w11.heap.size, 0, none⟩)), (.int .i64 0)])) w50)))))))))))))))))))))))))
theorem callsHierNew (q0 : Nat) (a1p : Option Addr) (a1l a1c : Nat) (R : Ending → 
    World → Prop) (w : World) (h : preHierNew q0 a1p a1l a1c R w) : Calls Tryz.prog 156 #[(.pointer (some ⟨q0, 0, none⟩)), (.slice a1p a1l a1c)] w R :=
  calls_of_sym Tryz.func156 (c := bodyOf Tryz.f156) rfl (Eq.mpr (by kernel_rfl) h)

/-- weighlock/abort.New$1 -/
def preAbortNew1 (a0 : Int) (R : Ending → World → Prop) (w : World) : Prop :=
  Br (decide ((a0 : Int) < 0)) (R (.returned (.bool true)) w) (R (.returned (.bool (decide ((a0 : Int) ≥ 8)))) w)
theorem callsAbortNew1 (a0 : Int) (R : Ending → 
    World → Prop) (w : World) (h : preAbortNew1 a0 R w) : Calls Tryz.prog 189 #[(.int .i64 a0)] w R :=
  calls_of_sym Tryz.func189 (c := bodyOf Tryz.f189) rfl (Eq.mpr (by kernel_rfl) h)

/-- weighlock/hier.New$1 -/
def preHierNew1 (a0 : Int) (R : Ending → World → Prop) (w : World) : Prop :=
  Br (decide ((a0 : Int) < 0)) (R (.returned (.bool true)) w) (R (.returned (.bool (decide ((a0 : Int) ≥ 8)))) w)
theorem callsHierNew1 (a0 : Int) (R : Ending → 
    World → Prop) (w : World) (h : preHierNew1 a0 R w) : Calls Tryz.prog 191 #[(.int .i64 a0)] w R :=
  calls_of_sym Tryz.func191 (c := bodyOf Tryz.f191) rfl (Eq.mpr (by kernel_rfl) h)

/-- (*weighlock/abort.Lock).Step -/
def preAbortLockStep (q0 : Nat) (a1 a2 a3 : Int) (R : Ending → 
    World → Prop) (w : World) : Prop :=
  ∀ w0, w0 = w.alloc (.cells #[(.int .i64 0), (.bool false), (.bool false), (.bool false)] 86) →
 (∀ w1, w1 = w0.alloc (.cells #[(.int .i64 0), (.bool false), (.bool false), (.bool false)] 86) →
 (∃ p2, w1.cell? ⟨q0, 0, none⟩ = some (.pointer p2) ∧ (Calls Tryz.prog 138 #[(.pointer p2), (.int .i64 a1)] w1 (fun e3 w4 =>
 ∃ n5, e3 = .returned (.int .i64 n5) ∧ (Br (n5 == 1) (∃ p6, w4.cell? ⟨q0, 0, none⟩ = some (.pointer p6) ∧
 (Calls Tryz.prog 318 #[(.pointer p6), (.int .i64 a1)] w4 (fun e7 w8 => ∃ n9, e7 = .returned (.int .i64 n9) ∧
 (Br (decide (n9 ≥ 0)) (∃ p10, w8.cell? ⟨q0, 0, none⟩ = some (.pointer p10) ∧
 (Calls Tryz.prog 318 #[(.pointer p10), (.int .i64 a1)] w8 (fun e11 w12 => ∃ n13, e11 = .returned (.int .i64 n13) ∧
 (∀ w14, w14 = w12.drew → (∃ p15 l16 c17, w14.cell? ⟨q0, 4, none⟩ = some (.slice p15 l16 c17) ∧
 (((0 : Int) ≤ a1 ∧ a1 < ((l16 : Nat) : Int)) ∧ (PtrSome p15 (fun b18 o19 => ∃ p20, w14.cell? ⟨q0, 2, none⟩ = some (.pointer p20) ∧
 (Calls Tryz.prog 320 #[(.pointer p20), (.int .i64 a1)] w14 (fun e21 w22 => ∃ p23 l24 c25, e21 = .returned (.slice p23 l24 c25) ∧
 ((w22.cell? ⟨q0, 4, none⟩ = some (.slice p15 l16 c17)) ∧ (Calls Tryz.prog 319 #[(.pointer (some ⟨q0, 0, none⟩)), (.pointer (some ⟨b18, o19 + ((Int.toNat a1)) * 4, none⟩)), (.slice p23 l24 c25), (.int .i64 a2), (.bool (decide ((a3 : Int) ≥ n13)))] w22 (fun e26 w27 =>
 ∃ n28 b29 b30 b31, e26 = .returned (.agg #[(.int .i64 n28), (.bool b29), (.bool b30), (.bool b31)]) ∧
 (w27.there w0.heap.size 0 4 ∧ (∀ w32, w32 = w27.setCells w0.heap.size 0 [(.int .i64 n28), (.bool b29), (.bool b30), (.bool b31)] →
 (∀ w33, w33 = w32.drew → (∃ p34, w33.cell? ⟨q0, 0, none⟩ = some (.pointer p34) ∧
 (∃ n35, w33.cell? ⟨w0.heap.size, 0, none⟩ = some (.int .i64 n35) ∧ (Calls Tryz.prog 140 #[(.pointer p34), (.int .i64 a1), (.int .i64 n35)] w33 (fun e36 w37 =>
 ∃ b38, e36 = .returned (.bool b38) ∧ (Br b38 (∀ w39, w39 = w37.drew → (∃ p40 l41 c42, w39.cell? ⟨q0, 4, none⟩ = some (.slice p40 l41 c42) ∧
 (∃ p43 l44 c45, w39.cell? ⟨q0, 4, none⟩ = some (.slice p43 l44 c45) ∧ (((0 : Int) ≤ a1 ∧
 a1 < ((l44 : Nat) : Int)) ∧ (PtrSome p43 (fun b46 o47 => ∃ n48, w39.cell? ⟨b46, o47 + ((Int.toNat a1)) * 4 + 2, none⟩ = some (.int .i64 n48) ∧
 (((0 : Int) ≤ a1 ∧ a1 < ((l41 : Nat) : Int)) ∧ (PtrSome p40 (fun b49 o50 => w39.there b49 (o50 + ((Int.toNat a1)) * 4) 4 ∧
 (∀ w51, w51 = w39.setCells b49 (o50 + ((Int.toNat a1)) * 4) [(.int .i64 0), (.int .i64 0), (.int .i64 n48), (.int .i64 0)] →
 (∃ n52, w51.cell? ⟨w0.heap.size, 0, none⟩ = some (.int .i64 n52) ∧ (∃ b53, w51.cell? ⟨w0.heap.size, 1, none⟩ = some (.bool b53) ∧
 (∃ b54, w51.cell? ⟨w0.heap.size, 2, none⟩ = some (.bool b54) ∧ (∃ b55, w51.cell? ⟨w0.heap.size, 3, none⟩ = some (.bool b55) ∧
 (w51.there w.heap.size 0 4 ∧ (∀ w56, w56 = w51.setCells w.heap.size 0 [(.int .i64 n52), (.bool b53), (.bool b54), (.bool b55)] →
 (∃ n57, w56.cell? ⟨w.heap.size, 0, none⟩ = some (.int .i64 n57) ∧ (∃ b58, w56.cell? ⟨w.heap.size, 1, none⟩ = some (.bool b58) ∧
 (∃ b59, w56.cell? ⟨w.heap.size, 2, none⟩ = some (.bool b59) ∧ (∃ b60, w56.cell? ⟨w.heap.size, 3, none⟩ = some (.bool b60) ∧
 (R (.returned (.agg #[(.int .i64 n57), (.bool b58), (.bool b59), (.bool b60)])) w56))))))))))))))))))))) (∃ n61, w37.cell? ⟨w0.heap.size, 0, none⟩ = some (.int .i64 n61) ∧
 (∃ b62, w37.cell? ⟨w0.heap.size, 1, none⟩ = some (.bool b62) ∧ (∃ b63, w37.cell? ⟨w0.heap.size, 2, none⟩ = some (.bool b63) ∧
 (∃ b64, w37.cell? ⟨w0.heap.size, 3, none⟩ = some (.bool b64) ∧ (w37.there w.heap.size 0 4 ∧
 (∀ w65, w65 = w37.setCells w.heap.size 0 [(.int .i64 n61), (.bool b62), (.bool b63), (.bool b64)] →
 (∃ n66, w65.cell? ⟨w.heap.size, 0, none⟩ = some (.int .i64 n66) ∧ (∃ b67, w65.cell? ⟨w.heap.size, 1, none⟩ = some (.bool b67) ∧
 (∃ b68, w65.cell? ⟨w.heap.size, 2, none⟩ = some (.bool b68) ∧ (∃ b69, w65.cell? ⟨w.heap.size, 3, none⟩ = some (.bool b69) ∧
 (R (.returned (.agg #[(.int .i64 n66), (.bool b67), (.bool b68), (.bool b69)])) w65)))))))))))))))))))))))))))))))) (∀ w70, w70 = w8.drew →
 (∃ p71 l72 c73, w70.cell? ⟨q0, 4, none⟩ = some (.slice p71 l72 c73) ∧ (((0 : Int) ≤ a1 ∧
 a1 < ((l72 : Nat) : Int)) ∧ (PtrSome p71 (fun b74 o75 => ∃ p76, w70.cell? ⟨q0, 2, none⟩ = some (.pointer p76) ∧
 (Calls Tryz.prog 320 #[(.pointer p76), (.int .i64 a1)] w70 (fun e77 w78 => ∃ p79 l80 c81, e77 = .returned (.slice p79 l80 c81) ∧
 ((w78.cell? ⟨q0, 4, none⟩ = some (.slice p71 l72 c73)) ∧ (Calls Tryz.prog 319 #[(.pointer (some ⟨q0, 0, none⟩)), (.pointer (some ⟨b74, o75 + ((Int.toNat a1)) * 4, none⟩)), (.slice p79 l80 c81), (.int .i64 a2), (.bool false)] w78 (fun e82 w83 =>
 ∃ n84 b85 b86 b87, e82 = .returned (.agg #[(.int .i64 n84), (.bool b85), (.bool b86), (.bool b87)]) ∧
 (w83.there w0.heap.size 0 4 ∧ (∀ w88, w88 = w83.setCells w0.heap.size 0 [(.int .i64 n84), (.bool b85), (.bool b86), (.bool b87)] →
 (∀ w89, w89 = w88.drew → (∃ p90, w89.cell? ⟨q0, 0, none⟩ = some (.pointer p90) ∧
 (∃ n91, w89.cell? ⟨w0.heap.size, 0, none⟩ = some (.int .i64 n91) ∧ (Calls Tryz.prog 140 #[(.pointer p90), (.int .i64 a1), (.int .i64 n91)] w89 (fun e92 w93 =>
 ∃ b94, e92 = .returned (.bool b94) ∧ (Br b94 (∀ w95, w95 = w93.drew → (∃ p96 l97 c98, w95.cell? ⟨q0, 4, none⟩ = some (.slice p96 l97 c98) ∧
 (∃ p99 l100 c101, w95.cell? ⟨q0, 4, none⟩ = some (.slice p99 l100 c101) ∧ (((0 : Int) ≤ a1 ∧
 a1 < ((l100 : Nat) : Int)) ∧ (PtrSome p99 (fun b102 o103 => ∃ n104, w95.cell? ⟨b102, o103 + ((Int.toNat a1)) * 4 + 2, none⟩ = some (.int .i64 n104) ∧
 (((0 : Int) ≤ a1 ∧ a1 < ((l97 : Nat) : Int)) ∧ (PtrSome p96 (fun b105 o106 => w95.there b105 (o106 + ((Int.toNat a1)) * 4) 4 ∧
 (∀ w107, w107 = w95.setCells b105 (o106 + ((Int.toNat a1)) * 4) [(.int .i64 0), (.int .i64 0), (.int .i64 n104), (.int .i64 0)] →
 (∃ n108, w107.cell? ⟨w0.heap.size, 0, none⟩ = some (.int .i64 n108) ∧ (∃ b109, w107.cell? ⟨w0.heap.size, 1, none⟩ = some (.bool b109) ∧
 (∃ b110, w107.cell? ⟨w0.heap.size, 2, none⟩ = some (.bool b110) ∧ (∃ b111, w107.cell? ⟨w0.heap.size, 3, none⟩ = some (.bool b111) ∧
 (w107.there w.heap.size 0 4 ∧ (∀ w112, w112 = w107.setCells w.heap.size 0 [(.int .i64 n108), (.bool b109), (.bool b110), (.bool b111)] →
 (∃ n113, w112.cell? ⟨w.heap.size, 0, none⟩ = some (.int .i64 n113) ∧ (∃ b114, w112.cell? ⟨w.heap.size, 1, none⟩ = some (.bool b114) ∧
 (∃ b115, w112.cell? ⟨w.heap.size, 2, none⟩ = some (.bool b115) ∧ (∃ b116, w112.cell? ⟨w.heap.size, 3, none⟩ = some (.bool b116) ∧
 (R (.returned (.agg #[(.int .i64 n113), (.bool b114), (.bool b115), (.bool b116)])) w112))))))))))))))))))))) (∃ n117, w93.cell? ⟨w0.heap.size, 0, none⟩ = some (.int .i64 n117) ∧
 (∃ b118, w93.cell? ⟨w0.heap.size, 1, none⟩ = some (.bool b118) ∧ (∃ b119, w93.cell? ⟨w0.heap.size, 2, none⟩ = some (.bool b119) ∧
 (∃ b120, w93.cell? ⟨w0.heap.size, 3, none⟩ = some (.bool b120) ∧ (w93.there w.heap.size 0 4 ∧
 (∀ w121, w121 = w93.setCells w.heap.size 0 [(.int .i64 n117), (.bool b118), (.bool b119), (.bool b120)] →
 (∃ n122, w121.cell? ⟨w.heap.size, 0, none⟩ = some (.int .i64 n122) ∧ (∃ b123, w121.cell? ⟨w.heap.size, 1, none⟩ = some (.bool b123) ∧
 (∃ b124, w121.cell? ⟨w.heap.size, 2, none⟩ = some (.bool b124) ∧ (∃ b125, w121.cell? ⟨w.heap.size, 3, none⟩ = some (.bool b125) ∧
 (R (.returned (.agg #[(.int .i64 n122), (.bool b123), (.bool b124), (.bool b125)])) w121))))))))))))))))))))))))))))))))) (Br (n5 == 3) (∃ p126 l127 c128, w4.cell? ⟨q0, 4, none⟩ = some (.slice p126 l127 c128) ∧
 (((0 : Int) ≤ a1 ∧ a1 < ((l127 : Nat) : Int)) ∧ (PtrSome p126 (fun b129 o130 => Calls Tryz.prog 321 #[(.pointer (some ⟨q0, 0, none⟩)), (.pointer (some ⟨b129, o130 + ((Int.toNat a1)) * 4, none⟩)), (.int .i64 a2)] w4 (fun e131 w132 =>
 ∃ n133, e131 = .returned (.int .i64 n133) ∧ (CanSet w132 w0.heap.size 0 ∧ (∀ w134, w134 = w132.setCell ⟨w0.heap.size, 0, none⟩ (.int .i64 n133) →
 (∀ w135, w135 = w134.drew → (∃ p136, w135.cell? ⟨q0, 0, none⟩ = some (.pointer p136) ∧
 (∃ n137, w135.cell? ⟨w0.heap.size, 0, none⟩ = some (.int .i64 n137) ∧ (Calls Tryz.prog 140 #[(.pointer p136), (.int .i64 a1), (.int .i64 n137)] w135 (fun e138 w139 =>
 ∃ b140, e138 = .returned (.bool b140) ∧ (Br b140 (∀ w141, w141 = w139.drew → (∃ p142 l143 c144, w141.cell? ⟨q0, 4, none⟩ = some (.slice p142 l143 c144) ∧
 (∃ p145 l146 c147, w141.cell? ⟨q0, 4, none⟩ = some (.slice p145 l146 c147) ∧
 (((0 : Int) ≤ a1 ∧ a1 < ((l146 : Nat) : Int)) ∧ (PtrSome p145 (fun b148 o149 => ∃ n150, w141.cell? ⟨b148, o149 + ((Int.toNat a1)) * 4 + 2, none⟩ = some (.int .i64 n150) ∧
 (((0 : Int) ≤ a1 ∧ a1 < ((l143 : Nat) : Int)) ∧ (PtrSome p142 (fun b151 o152 => w141.there b151 (o152 + ((Int.toNat a1)) * 4) 4 ∧
 (∀ w153, w153 = w141.setCells b151 (o152 + ((Int.toNat a1)) * 4) [(.int .i64 0), (.int .i64 0), (.int .i64 n150), (.int .i64 0)] →
 (∃ n154, w153.cell? ⟨w0.heap.size, 0, none⟩ = some (.int .i64 n154) ∧ (∃ b155, w153.cell? ⟨w0.heap.size, 1, none⟩ = some (.bool b155) ∧
 (∃ b156, w153.cell? ⟨w0.heap.size, 2, none⟩ = some (.bool b156) ∧ (∃ b157, w153.cell? ⟨w0.heap.size, 3, none⟩ = some (.bool b157) ∧
 (w153.there w.heap.size 0 4 ∧ (∀ w158, w158 = w153.setCells w.heap.size 0 [(.int .i64 n154), (.bool b155), (.bool b156), (.bool b157)] →
 (∃ n159, w158.cell? ⟨w.heap.size, 0, none⟩ = some (.int .i64 n159) ∧ (∃ b160, w158.cell? ⟨w.heap.size, 1, none⟩ = some (.bool b160) ∧
 (∃ b161, w158.cell? ⟨w.heap.size, 2, none⟩ = some (.bool b161) ∧ (∃ b162, w158.cell? ⟨w.heap.size, 3, none⟩ = some (.bool b162) ∧
 (R (.returned (.agg #[(.int .i64 n159), (.bool b160), (.bool b161), (.bool b162)])) w158))))))))))))))))))))) (∃ n163, w139.cell? ⟨w0.heap.size, 0, none⟩ = some (.int .i64 n163) ∧
 (∃ b164, w139.cell? ⟨w0.heap.size, 1, none⟩ = some (.bool b164) ∧ (∃ b165, w139.cell? ⟨w0.heap.size, 2, none⟩ = some (.bool b165) ∧
 (∃ b166, w139.cell? ⟨w0.heap.size, 3, none⟩ = some (.bool b166) ∧ (w139.there w.heap.size 0 4 ∧
 (∀ w167, w167 = w139.setCells w.heap.size 0 [(.int .i64 n163), (.bool b164), (.bool b165), (.bool b166)] →
 (∃ n168, w167.cell? ⟨w.heap.size, 0, none⟩ = some (.int .i64 n168) ∧ (∃ b169, w167.cell? ⟨w.heap.size, 1, none⟩ = some (.bool b169) ∧
 (∃ b170, w167.cell? ⟨w.heap.size, 2, none⟩ = some (.bool b170) ∧ (∃ b171, w167.cell? ⟨w.heap.size, 3, none⟩ = some (.bool b171) ∧
 (R (.returned (.agg #[(.int .i64 n168), (.bool b169), (.bool b170), (.bool b171)])) w167)))))))))))))))))))))))) (∀ w172, w172 = w4.drew →
 (∃ p173, w172.cell? ⟨q0, 0, none⟩ = some (.pointer p173) ∧ (∃ n174, w172.cell? ⟨w0.heap.size, 0, none⟩ = some (.int .i64 n174) ∧
 (Calls Tryz.prog 140 #[(.pointer p173), (.int .i64 a1), (.int .i64 n174)] w172 (fun e175 w176 =>
 ∃ b177, e175 = .returned (.bool b177) ∧ (Br b177 (∀ w178, w178 = w176.drew → (∃ p179 l180 c181, w178.cell? ⟨q0, 4, none⟩ = some (.slice p179 l180 c181) ∧
 (∃ p182 l183 c184, w178.cell? ⟨q0, 4, none⟩ = some (.slice p182 l183 c184) ∧
 (((0 : Int) ≤ a1 ∧ a1 < ((l183 : Nat) : Int)) ∧ (PtrSome p182 (fun b185 o186 => ∃ n187, w178.cell? ⟨b185, o186 + ((Int.toNat a1)) * 4 + 2, none⟩ = some (.int .i64 n187) ∧
 (((0 : Int) ≤ a1 ∧ a1 < ((l180 : Nat) : Int)) ∧ (PtrSome p179 (fun b188 o189 => w178.there b188 (o189 + ((Int.toNat a1)) * 4) 4 ∧
 (∀ w190, w190 = w178.setCells b188 (o189 + ((Int.toNat a1)) * 4) [(.int .i64 0), (.int .i64 0), (.int .i64 n187), (.int .i64 0)] →
 (∃ n191, w190.cell? ⟨w0.heap.size, 0, none⟩ = some (.int .i64 n191) ∧ (∃ b192, w190.cell? ⟨w0.heap.size, 1, none⟩ = some (.bool b192) ∧
 (∃ b193, w190.cell? ⟨w0.heap.size, 2, none⟩ = some (.bool b193) ∧ (∃ b194, w190.cell? ⟨w0.heap.size, 3, none⟩ = some (.bool b194) ∧
 (w190.there w.heap.size 0 4 ∧ (∀ w195, w195 = w190.setCells w.heap.size 0 [(.int .i64 n191), (.bool b192), (.bool b193), (.bool b194)] →
 (∃ n196, w195.cell? ⟨w.heap.size, 0, none⟩ = some (.int .i64 n196) ∧ (∃ b197, w195.cell? ⟨w.heap.size, 1, none⟩ = some (.bool b197) ∧
 (∃ b198, w195.cell? ⟨w.heap.size, 2, none⟩ = some (.bool b198) ∧ (∃ b199, w195.cell? ⟨w.heap.size, 3, none⟩ = some (.bool b199) ∧
 (R (.returned (.agg #[(.int .i64 n196), (.bool b197), (.bool b198), (.bool b199)])) w195))))))))))))))))))))) (∃ n200, w176.cell? ⟨w0.heap.size, 0, none⟩ = some (.int .i64 n200) ∧
 (∃ b201, w176.cell? ⟨w0.heap.size, 1, none⟩ = some (.bool b201) ∧ (∃ b202, w176.cell? ⟨w0.heap.size, 2, none⟩ = some (.bool b202) ∧
 (∃ b203, w176.cell? ⟨w0.heap.size, 3, none⟩ = some (.bool b203) ∧ (w176.there w.heap.size 0 4 ∧
 (∀ w204, w204 = w176.setCells w.heap.size 0 [(.int .i64 n200), (.bool b201), (.bool b202), (.bool b203)] →
 (∃ n205, w204.cell? ⟨w.heap.size, 0, none⟩ = some (.int .i64 n205) ∧ (∃ b206, w204.cell? ⟨w.heap.size, 1, none⟩ = some (.bool b206) ∧
 (∃ b207, w204.cell? ⟨w.heap.size, 2, none⟩ = some (.bool b207) ∧ (∃ b208, w204.cell? ⟨w.heap.size, 3, none⟩ = some (.bool b208) ∧
 (R (.returned (.agg #[(.int .i64 n205), (.bool b206), (.bool b207), (.bool b208)])) w204)))))))))))))))))))))))
theorem callsAbortLockStep (q0 : Nat) (a1 a2 a3 : Int) (R : Ending → 
    World → Prop) (w : World) (h : preAbortLockStep q0 a1 a2 a3 R w) : Calls Tryz.prog 316 #[(.pointer (some ⟨q0, 0, none⟩)), (.int .i64 a1), (.int .i64 a2), (.int .i64 a3)] w R :=
  calls_of_sym Tryz.func316 (c := bodyOf Tryz.f316) rfl (Eq.mpr (by kernel_rfl) h)

/-- (*weighlock/abort.Lock).Use -/
def preAbortLockUse (q0 : Nat) (q1 : Nat) (R : Ending → World → Prop) (w : World) : Prop :=
  CanSet w q0 1 ∧
 (∀ w0, w0 = w.setCell ⟨q0, 1, none⟩ (.pointer (some ⟨q1, 0, none⟩)) → (R (.returned (.tuple #[])) w0))
theorem callsAbortLockUse (q0 : Nat) (q1 : Nat) (R : Ending → 
    World → Prop) (w : World) (h : preAbortLockUse q0 q1 R w) : Calls Tryz.prog 317 #[(.pointer (some ⟨q0, 0, none⟩)), (.pointer (some ⟨q1, 0, none⟩))] w R :=
  calls_of_sym Tryz.func317 (c := bodyOf Tryz.f317) rfl (Eq.mpr (by kernel_rfl) h)

/-- (*weighlock/abort.Lock).lock -/
def preAbortLock_lock (q0 : Nat) (q1 qo1 : Nat) (a2p : Option Addr) (a2l a2c : Nat) (a3 : Int) (a4 : Bool) (R : Ending → 
    World → Prop) (w : World) : Prop :=
  ∀ w0, w0 = w.alloc (.cells #[(.int .i64 0), (.bool false), (.bool false), (.bool false)] 86) →
 (∃ n1, w0.cell? ⟨q1, qo1 + 2, none⟩ = some (.int .i64 n1) ∧ (Calls Tryz.prog 322 #[(.pointer (some ⟨q0, 0, none⟩)), (.int .i64 n1)] w0 (fun e2 w3 =>
 ∃ n4, e2 = .returned (.int .i64 n4) ∧ (∃ n5, w3.cell? ⟨q1, qo1, none⟩ = some (.int .i64 n5) ∧
 (Br (n5 == 0) (Calls Tryz.prog 323 #[(.pointer (some ⟨q0, 0, none⟩)), (.pointer (some ⟨q1, qo1, none⟩)), (.slice a2p a2l a2c), (.int .i64 a3)] w3 (fun e6 w7 =>
 ∃ n8 b9 b10 b11, e6 = .returned (.agg #[(.int .i64 n8), (.bool b9), (.bool b10), (.bool b11)]) ∧
 (w7.there w.heap.size 0 4 ∧ (∀ w12, w12 = w7.setCells w.heap.size 0 [(.int .i64 n8), (.bool b9), (.bool b10), (.bool b11)] →
 (∃ n13, w12.cell? ⟨w.heap.size, 0, none⟩ = some (.int .i64 n13) ∧ (∃ b14, w12.cell? ⟨w.heap.size, 1, none⟩ = some (.bool b14) ∧
 (∃ b15, w12.cell? ⟨w.heap.size, 2, none⟩ = some (.bool b15) ∧ (∃ b16, w12.cell? ⟨w.heap.size, 3, none⟩ = some (.bool b16) ∧
 (R (.returned (.agg #[(.int .i64 n13), (.bool b14), (.bool b15), (.bool b16)])) w12))))))))) (Br (n5 == 1) (∃ p17, w3.cell? ⟨q0, 1, none⟩ = some (.pointer p17) ∧
 (Calls Tryz.prog 216 #[(.pointer p17), (.int .i64 a3), (.int .i64 (IntKind.i64.wrap (n4 + 2))), (.int .u32 1)] w3 (fun e18 w19 =>
 e18 = .returned (.tuple #[]) ∧ (∃ n20, w19.cell? ⟨q1, qo1, none⟩ = some (.int .i64 n20) ∧
 (CanSet w19 q1 qo1 ∧ (∀ w21, w21 = w19.setCell ⟨q1, qo1, none⟩ (.int .i64 (IntKind.i64.wrap (n20 + 1))) →
 (w21.there w.heap.size 0 4 ∧ (∀ w22, w22 = w21.setCells w.heap.size 0 [(.int .i64 0), (.bool false), (.bool false), (.bool false)] →
 (∃ n23, w22.cell? ⟨w.heap.size, 0, none⟩ = some (.int .i64 n23) ∧ (∃ b24, w22.cell? ⟨w.heap.size, 1, none⟩ = some (.bool b24) ∧
 (∃ b25, w22.cell? ⟨w.heap.size, 2, none⟩ = some (.bool b25) ∧ (∃ b26, w22.cell? ⟨w.heap.size, 3, none⟩ = some (.bool b26) ∧
 (R (.returned (.agg #[(.int .i64 n23), (.bool b24), (.bool b25), (.bool b26)])) w22))))))))))))) (Br (n5 == 2) (∃ p27, w3.cell? ⟨q0, 1, none⟩ = some (.pointer p27) ∧
 (Calls Tryz.prog 216 #[(.pointer p27), (.int .i64 a3), (.int .i64 n4), (.int .u32 0)] w3 (fun e28 w29 =>
 e28 = .returned (.tuple #[]) ∧ (∃ n30, w29.cell? ⟨q1, qo1, none⟩ = some (.int .i64 n30) ∧
 (CanSet w29 q1 qo1 ∧ (∀ w31, w31 = w29.setCell ⟨q1, qo1, none⟩ (.int .i64 (IntKind.i64.wrap (n30 + 1))) →
 (w31.there w.heap.size 0 4 ∧ (∀ w32, w32 = w31.setCells w.heap.size 0 [(.int .i64 0), (.bool false), (.bool false), (.bool false)] →
 (∃ n33, w32.cell? ⟨w.heap.size, 0, none⟩ = some (.int .i64 n33) ∧ (∃ b34, w32.cell? ⟨w.heap.size, 1, none⟩ = some (.bool b34) ∧
 (∃ b35, w32.cell? ⟨w.heap.size, 2, none⟩ = some (.bool b35) ∧ (∃ b36, w32.cell? ⟨w.heap.size, 3, none⟩ = some (.bool b36) ∧
 (R (.returned (.agg #[(.int .i64 n33), (.bool b34), (.bool b35), (.bool b36)])) w32))))))))))))) (Br (n5 == 3) (∃ p37, w3.cell? ⟨q0, 1, none⟩ = some (.pointer p37) ∧
 (Calls Tryz.prog 216 #[(.pointer p37), (.int .i64 a3), (.int .i64 (IntKind.i64.wrap (n4 + 1))), (.int .u32 0)] w3 (fun e38 w39 =>
 e38 = .returned (.tuple #[]) ∧ (∃ n40, w39.cell? ⟨q1, qo1, none⟩ = some (.int .i64 n40) ∧
 (CanSet w39 q1 qo1 ∧ (∀ w41, w41 = w39.setCell ⟨q1, qo1, none⟩ (.int .i64 (IntKind.i64.wrap (n40 + 1))) →
 (w41.there w.heap.size 0 4 ∧ (∀ w42, w42 = w41.setCells w.heap.size 0 [(.int .i64 0), (.bool false), (.bool false), (.bool false)] →
 (∃ n43, w42.cell? ⟨w.heap.size, 0, none⟩ = some (.int .i64 n43) ∧ (∃ b44, w42.cell? ⟨w.heap.size, 1, none⟩ = some (.bool b44) ∧
 (∃ b45, w42.cell? ⟨w.heap.size, 2, none⟩ = some (.bool b45) ∧ (∃ b46, w42.cell? ⟨w.heap.size, 3, none⟩ = some (.bool b46) ∧
 (R (.returned (.agg #[(.int .i64 n43), (.bool b44), (.bool b45), (.bool b46)])) w42))))))))))))) (Br (n5 == 4) (∀ w47, w47 = w3.drew →
 (∃ p48, w47.cell? ⟨q0, 1, none⟩ = some (.pointer p48) ∧ (∃ n49, w47.cell? ⟨q0, 3, none⟩ = some (.int .i64 n49) ∧
 (∃ n50, w47.cell? ⟨q1, qo1 + 2, none⟩ = some (.int .i64 n50) ∧ (Calls Tryz.prog 299 #[(.pointer p48), (.int .i64 a3), (.int .i64 n49), (.int .u32 (IntKind.u32.wrap n50))] w47 (fun e51 w52 =>
 ∃ n53, e51 = .returned (.int .u32 n53) ∧ (CanSet w52 q1 (qo1 + 3) ∧ (∀ w54, w54 = w52.setCell ⟨q1, qo1 + 3, none⟩ (.int .i64 (IntKind.i64.wrap n53)) →
 (∃ n55, w54.cell? ⟨q1, qo1 + 3, none⟩ = some (.int .i64 n55) ∧ (Br (n55 == 0) (w54.there w.heap.size 0 4 ∧
 (∀ w56, w56 = w54.setCells w.heap.size 0 [(.int .i64 1), (.bool true), (.bool false), (.bool false)] →
 (∃ n57, w56.cell? ⟨w.heap.size, 0, none⟩ = some (.int .i64 n57) ∧ (∃ b58, w56.cell? ⟨w.heap.size, 1, none⟩ = some (.bool b58) ∧
 (∃ b59, w56.cell? ⟨w.heap.size, 2, none⟩ = some (.bool b59) ∧ (∃ b60, w56.cell? ⟨w.heap.size, 3, none⟩ = some (.bool b60) ∧
 (R (.returned (.agg #[(.int .i64 n57), (.bool b58), (.bool b59), (.bool b60)])) w56))))))) (CanSet w54 q1 qo1 ∧
 (∀ w61, w61 = w54.setCell ⟨q1, qo1, none⟩ (.int .i64 5) → (w61.there w.heap.size 0 4 ∧ (∀ w62, w62 = w61.setCells w.heap.size 0 [(.int .i64 0), (.bool true), (.bool false), (.bool false)] →
 (∃ n63, w62.cell? ⟨w.heap.size, 0, none⟩ = some (.int .i64 n63) ∧ (∃ b64, w62.cell? ⟨w.heap.size, 1, none⟩ = some (.bool b64) ∧
 (∃ b65, w62.cell? ⟨w.heap.size, 2, none⟩ = some (.bool b65) ∧ (∃ b66, w62.cell? ⟨w.heap.size, 3, none⟩ = some (.bool b66) ∧
 (R (.returned (.agg #[(.int .i64 n63), (.bool b64), (.bool b65), (.bool b66)])) w62))))))))))))))))))) (Br (n5 == 5) (∀ w67, w67 = w3.drew →
 (∃ p68, w67.cell? ⟨q0, 1, none⟩ = some (.pointer p68) ∧ (∃ n69, w67.cell? ⟨q1, qo1 + 3, none⟩ = some (.int .i64 n69) ∧
 (∃ n70, w67.cell? ⟨q1, qo1 + 2, none⟩ = some (.int .i64 n70) ∧ (Calls Tryz.prog 322 #[(.pointer (some ⟨q0, 0, none⟩)), (.int .i64 n69)] w67 (fun e71 w72 =>
 ∃ n73, e71 = .returned (.int .i64 n73) ∧ ((w72.cell? ⟨q1, qo1 + 2, none⟩ = some (.int .i64 n70)) ∧
 ((w72.cell? ⟨q0, 1, none⟩ = some (.pointer p68)) ∧ (Calls Tryz.prog 216 #[(.pointer p68), (.int .i64 a3), (.int .i64 (IntKind.i64.wrap (n73 + 1))), (.int .u32 (IntKind.u32.wrap n70))] w72 (fun e74 w75 =>
 e74 = .returned (.tuple #[]) ∧ (∃ n76, w75.cell? ⟨q1, qo1, none⟩ = some (.int .i64 n76) ∧
 (CanSet w75 q1 qo1 ∧ (∀ w77, w77 = w75.setCell ⟨q1, qo1, none⟩ (.int .i64 (IntKind.i64.wrap (n76 + 1))) →
 (w77.there w.heap.size 0 4 ∧ (∀ w78, w78 = w77.setCells w.heap.size 0 [(.int .i64 0), (.bool false), (.bool false), (.bool false)] →
 (∃ n79, w78.cell? ⟨w.heap.size, 0, none⟩ = some (.int .i64 n79) ∧ (∃ b80, w78.cell? ⟨w.heap.size, 1, none⟩ = some (.bool b80) ∧
 (∃ b81, w78.cell? ⟨w.heap.size, 2, none⟩ = some (.bool b81) ∧ (∃ b82, w78.cell? ⟨w.heap.size, 3, none⟩ = some (.bool b82) ∧
 (R (.returned (.agg #[(.int .i64 n79), (.bool b80), (.bool b81), (.bool b82)])) w78)))))))))))))))))))) (Br (n5 == 6) (∃ p83, w3.cell? ⟨q0, 1, none⟩ = some (.pointer p83) ∧
 (Calls Tryz.prog 200 #[(.pointer p83), (.int .i64 a3), (.int .i64 n4)] w3 (fun e84 w85 =>
 ∃ n86, e84 = .returned (.int .u32 n86) ∧ (Br (n86 != 0) (w85.there w.heap.size 0 4 ∧
 (∀ w87, w87 = w85.setCells w.heap.size 0 [(.int .i64 1), (.bool false), (.bool false), (.bool false)] →
 (∃ n88, w87.cell? ⟨w.heap.size, 0, none⟩ = some (.int .i64 n88) ∧ (∃ b89, w87.cell? ⟨w.heap.size, 1, none⟩ = some (.bool b89) ∧
 (∃ b90, w87.cell? ⟨w.heap.size, 2, none⟩ = some (.bool b90) ∧ (∃ b91, w87.cell? ⟨w.heap.size, 3, none⟩ = some (.bool b91) ∧
 (R (.returned (.agg #[(.int .i64 n88), (.bool b89), (.bool b90), (.bool b91)])) w87))))))) (Br (!a4) (w85.there w.heap.size 0 4 ∧
 (∀ w92, w92 = w85.setCells w.heap.size 0 [(.int .i64 0), (.bool false), (.bool false), (.bool false)] →
 (∃ n93, w92.cell? ⟨w.heap.size, 0, none⟩ = some (.int .i64 n93) ∧ (∃ b94, w92.cell? ⟨w.heap.size, 1, none⟩ = some (.bool b94) ∧
 (∃ b95, w92.cell? ⟨w.heap.size, 2, none⟩ = some (.bool b95) ∧ (∃ b96, w92.cell? ⟨w.heap.size, 3, none⟩ = some (.bool b96) ∧
 (R (.returned (.agg #[(.int .i64 n93), (.bool b94), (.bool b95), (.bool b96)])) w92))))))) (∃ n97, w85.cell? ⟨q1, qo1, none⟩ = some (.int .i64 n97) ∧
 (CanSet w85 q1 qo1 ∧ (∀ w98, w98 = w85.setCell ⟨q1, qo1, none⟩ (.int .i64 (IntKind.i64.wrap (n97 + 1))) →
 (w98.there w.heap.size 0 4 ∧ (∀ w99, w99 = w98.setCells w.heap.size 0 [(.int .i64 0), (.bool false), (.bool false), (.bool false)] →
 (∃ n100, w99.cell? ⟨w.heap.size, 0, none⟩ = some (.int .i64 n100) ∧ (∃ b101, w99.cell? ⟨w.heap.size, 1, none⟩ = some (.bool b101) ∧
 (∃ b102, w99.cell? ⟨w.heap.size, 2, none⟩ = some (.bool b102) ∧ (∃ b103, w99.cell? ⟨w.heap.size, 3, none⟩ = some (.bool b103) ∧
 (R (.returned (.agg #[(.int .i64 n100), (.bool b101), (.bool b102), (.bool b103)])) w99))))))))))))))) (Br (n5 == 7) (∃ p104, w3.cell? ⟨q0, 1, none⟩ = some (.pointer p104) ∧
 (Calls Tryz.prog 308 #[(.pointer p104), (.int .i64 a3), (.int .i64 n4), (.int .u32 0), (.int .u32 2)] w3 (fun e105 w106 =>
 ∃ b107, e105 = .returned (.bool b107) ∧ (Br b107 (w106.there w.heap.size 0 4 ∧ (∀ w108, w108 = w106.setCells w.heap.size 0 [(.int .i64 2), (.bool false), (.bool false), (.bool false)] →
 (∃ n109, w108.cell? ⟨w.heap.size, 0, none⟩ = some (.int .i64 n109) ∧ (∃ b110, w108.cell? ⟨w.heap.size, 1, none⟩ = some (.bool b110) ∧
 (∃ b111, w108.cell? ⟨w.heap.size, 2, none⟩ = some (.bool b111) ∧ (∃ b112, w108.cell? ⟨w.heap.size, 3, none⟩ = some (.bool b112) ∧
 (R (.returned (.agg #[(.int .i64 n109), (.bool b110), (.bool b111), (.bool b112)])) w108))))))) (w106.there w.heap.size 0 4 ∧
 (∀ w113, w113 = w106.setCells w.heap.size 0 [(.int .i64 1), (.bool false), (.bool false), (.bool false)] →
 (∃ n114, w113.cell? ⟨w.heap.size, 0, none⟩ = some (.int .i64 n114) ∧ (∃ b115, w113.cell? ⟨w.heap.size, 1, none⟩ = some (.bool b115) ∧
 (∃ b116, w113.cell? ⟨w.heap.size, 2, none⟩ = some (.bool b116) ∧ (∃ b117, w113.cell? ⟨w.heap.size, 3, none⟩ = some (.bool b117) ∧
 (R (.returned (.agg #[(.int .i64 n114), (.bool b115), (.bool b116), (.bool b117)])) w113))))))))))) (∃ n118, w3.cell? ⟨q1, qo1, none⟩ = some (.int .i64 n118) ∧
 (CanSet w3 q1 qo1 ∧ (∀ w119, w119 = w3.setCell ⟨q1, qo1, none⟩ (.int .i64 (IntKind.i64.wrap (n118 + 1))) →
 (w119.there w.heap.size 0 4 ∧ (∀ w120, w120 = w119.setCells w.heap.size 0 [(.int .i64 0), (.bool false), (.bool false), (.bool false)] →
 (∃ n121, w120.cell? ⟨w.heap.size, 0, none⟩ = some (.int .i64 n121) ∧ (∃ b122, w120.cell? ⟨w.heap.size, 1, none⟩ = some (.bool b122) ∧
 (∃ b123, w120.cell? ⟨w.heap.size, 2, none⟩ = some (.bool b123) ∧ (∃ b124, w120.cell? ⟨w.heap.size, 3, none⟩ = some (.bool b124) ∧
 (R (.returned (.agg #[(.int .i64 n121), (.bool b122), (.bool b123), (.bool b124)])) w120))))))))))))))))))))))
theorem callsAbortLock_lock (q0 : Nat) (q1 qo1 : Nat) (a2p : Option Addr) (a2l a2c : Nat) (a3 : Int) (a4 : Bool) (R : Ending → 
    World → Prop) (w : World) (h : preAbortLock_lock q0 q1 qo1 a2p a2l a2c a3 a4 R w) : Calls Tryz.prog 319 #[(.pointer (some ⟨q0, 0, none⟩)), (.pointer (some ⟨q1, qo1, none⟩)), (.slice a2p a2l a2c), (.int .i64 a3), (.bool a4)] w R :=
  calls_of_sym Tryz.func319 (c := bodyOf Tryz.f319) rfl (Eq.mpr (by kernel_rfl) h)

/-- (*weighlock/abort.Lock).unlock -/
def preAbortLock_unlock (q0 : Nat) (q1 qo1 : Nat) (a2 : Int) (R : Ending → 
    World → Prop) (w : World) : Prop :=
  ∃ n0, w.cell? ⟨q1, qo1 + 2, none⟩ = some (.int .i64 n0) ∧
 (Calls Tryz.prog 322 #[(.pointer (some ⟨q0, 0, none⟩)), (.int .i64 n0)] w (fun e1 w2 =>
 ∃ n3, e1 = .returned (.int .i64 n3) ∧ (∃ n4, w2.cell? ⟨q1, qo1, none⟩ = some (.int .i64 n4) ∧
 (Br (n4 == 0) (Br (n4 == 0) (∃ p5, w2.cell? ⟨q0, 1, none⟩ = some (.pointer p5) ∧
 (Calls Tryz.prog 200 #[(.pointer p5), (.int .i64 a2), (.int .i64 (IntKind.i64.wrap (n3 + 1)))] w2 (fun e6 w7 =>
 ∃ n8, e6 = .returned (.int .u32 n8) ∧ (CanSet w7 q1 (qo1 + 3) ∧ (∀ w9, w9 = w7.setCell ⟨q1, qo1 + 3, none⟩ (.int .i64 (IntKind.i64.wrap n8)) →
 (∃ n10, w9.cell? ⟨q1, qo1 + 3, none⟩ = some (.int .i64 n10) ∧ (Br (n10 != 0) (CanSet w9 q1 qo1 ∧
 (∀ w11, w11 = w9.setCell ⟨q1, qo1, none⟩ (.int .i64 3) → (R (.returned (.int .i64 0)) w11))) (∃ n12, w9.cell? ⟨q1, qo1, none⟩ = some (.int .i64 n12) ∧
 (Br (n12 == 0) (CanSet w9 q1 qo1 ∧ (∀ w13, w13 = w9.setCell ⟨q1, qo1, none⟩ (.int .i64 1) →
 (R (.returned (.int .i64 0)) w13))) (R (.returned (.int .i64 0)) w9)))))))))) (Br (n4 == 1) (CanSet w2 q1 qo1 ∧
 (∀ w14, w14 = w2.setCell ⟨q1, qo1, none⟩ (.int .i64 2) → (∀ w15, w15 = w14.drew → (∃ p16, w15.cell? ⟨q0, 1, none⟩ = some (.pointer p16) ∧
 (∃ n17, w15.cell? ⟨q0, 3, none⟩ = some (.int .i64 n17) ∧ (∃ n18, w15.cell? ⟨q1, qo1 + 2, none⟩ = some (.int .i64 n18) ∧
 (Calls Tryz.prog 308 #[(.pointer p16), (.int .i64 a2), (.int .i64 n17), (.int .u32 (IntKind.u32.wrap n18)), (.int .u32 0)] w15 (fun e19 w20 =>
 ∃ b21, e19 = .returned (.bool b21) ∧ (Br b21 (CanSet w20 q1 qo1 ∧ (∀ w22, w22 = w20.setCell ⟨q1, qo1, none⟩ (.int .i64 5) →
 (R (.returned (.int .i64 0)) w22))) (R (.returned (.int .i64 0)) w20)))))))))) (Br (n4 == 3) (CanSet w2 q1 qo1 ∧
 (∀ w23, w23 = w2.setCell ⟨q1, qo1, none⟩ (.int .i64 4) → (∀ w24, w24 = w23.drew → (∃ p25, w24.cell? ⟨q0, 1, none⟩ = some (.pointer p25) ∧
 (∃ n26, w24.cell? ⟨q1, qo1 + 3, none⟩ = some (.int .i64 n26) ∧ (Calls Tryz.prog 322 #[(.pointer (some ⟨q0, 0, none⟩)), (.int .i64 n26)] w24 (fun e27 w28 =>
 ∃ n29, e27 = .returned (.int .i64 n29) ∧ ((w28.cell? ⟨q0, 1, none⟩ = some (.pointer p25)) ∧
 (Calls Tryz.prog 308 #[(.pointer p25), (.int .i64 a2), (.int .i64 n29), (.int .u32 0), (.int .u32 1)] w28 (fun e30 w31 =>
 ∃ b32, e30 = .returned (.bool b32) ∧ (Br b32 (CanSet w31 q1 qo1 ∧ (∀ w33, w33 = w31.setCell ⟨q1, qo1, none⟩ (.int .i64 5) →
 (R (.returned (.int .i64 0)) w33))) (R (.returned (.int .i64 0)) w31)))))))))))) (Br (n4 == 4) (∃ p34, w2.cell? ⟨q0, 1, none⟩ = some (.pointer p34) ∧
 (Calls Tryz.prog 216 #[(.pointer p34), (.int .i64 a2), (.int .i64 (IntKind.i64.wrap (n3 + 2))), (.int .u32 0)] w2 (fun e35 w36 =>
 e35 = .returned (.tuple #[]) ∧ (∃ n37, w36.cell? ⟨q1, qo1 + 3, none⟩ = some (.int .i64 n37) ∧
 (w36.there q1 qo1 4 ∧ (∀ w38, w38 = w36.setCells q1 qo1 [(.int .i64 0), (.int .i64 0), (.int .i64 n37), (.int .i64 0)] →
 (R (.returned (.int .i64 0)) w38))))))) (Br (n4 == 5) (∃ p39, w2.cell? ⟨q0, 1, none⟩ = some (.pointer p39) ∧
 (Calls Tryz.prog 216 #[(.pointer p39), (.int .i64 a2), (.int .i64 (IntKind.i64.wrap (n3 + 2))), (.int .u32 0)] w2 (fun e40 w41 =>
 e40 = .returned (.tuple #[]) ∧ (R (.returned (.int .i64 3)) w41)))) (R (.returned (.int .i64 0)) w2)))))) (Br (n4 == 2) (∃ p42, w2.cell? ⟨q0, 1, none⟩ = some (.pointer p42) ∧
 (Calls Tryz.prog 200 #[(.pointer p42), (.int .i64 a2), (.int .i64 (IntKind.i64.wrap (n3 + 1)))] w2 (fun e43 w44 =>
 ∃ n45, e43 = .returned (.int .u32 n45) ∧ (CanSet w44 q1 (qo1 + 3) ∧ (∀ w46, w46 = w44.setCell ⟨q1, qo1 + 3, none⟩ (.int .i64 (IntKind.i64.wrap n45)) →
 (∃ n47, w46.cell? ⟨q1, qo1 + 3, none⟩ = some (.int .i64 n47) ∧ (Br (n47 != 0) (CanSet w46 q1 qo1 ∧
 (∀ w48, w48 = w46.setCell ⟨q1, qo1, none⟩ (.int .i64 3) → (R (.returned (.int .i64 0)) w48))) (∃ n49, w46.cell? ⟨q1, qo1, none⟩ = some (.int .i64 n49) ∧
 (Br (n49 == 0) (CanSet w46 q1 qo1 ∧ (∀ w50, w50 = w46.setCell ⟨q1, qo1, none⟩ (.int .i64 1) →
 (R (.returned (.int .i64 0)) w50))) (R (.returned (.int .i64 0)) w46)))))))))) (Br (n4 == 1) (CanSet w2 q1 qo1 ∧
 (∀ w51, w51 = w2.setCell ⟨q1, qo1, none⟩ (.int .i64 2) → (∀ w52, w52 = w51.drew → (∃ p53, w52.cell? ⟨q0, 1, none⟩ = some (.pointer p53) ∧
 (∃ n54, w52.cell? ⟨q0, 3, none⟩ = some (.int .i64 n54) ∧ (∃ n55, w52.cell? ⟨q1, qo1 + 2, none⟩ = some (.int .i64 n55) ∧
 (Calls Tryz.prog 308 #[(.pointer p53), (.int .i64 a2), (.int .i64 n54), (.int .u32 (IntKind.u32.wrap n55)), (.int .u32 0)] w52 (fun e56 w57 =>
 ∃ b58, e56 = .returned (.bool b58) ∧ (Br b58 (CanSet w57 q1 qo1 ∧ (∀ w59, w59 = w57.setCell ⟨q1, qo1, none⟩ (.int .i64 5) →
 (R (.returned (.int .i64 0)) w59))) (R (.returned (.int .i64 0)) w57)))))))))) (Br (n4 == 3) (CanSet w2 q1 qo1 ∧
 (∀ w60, w60 = w2.setCell ⟨q1, qo1, none⟩ (.int .i64 4) → (∀ w61, w61 = w60.drew → (∃ p62, w61.cell? ⟨q0, 1, none⟩ = some (.pointer p62) ∧
 (∃ n63, w61.cell? ⟨q1, qo1 + 3, none⟩ = some (.int .i64 n63) ∧ (Calls Tryz.prog 322 #[(.pointer (some ⟨q0, 0, none⟩)), (.int .i64 n63)] w61 (fun e64 w65 =>
 ∃ n66, e64 = .returned (.int .i64 n66) ∧ ((w65.cell? ⟨q0, 1, none⟩ = some (.pointer p62)) ∧
 (Calls Tryz.prog 308 #[(.pointer p62), (.int .i64 a2), (.int .i64 n66), (.int .u32 0), (.int .u32 1)] w65 (fun e67 w68 =>
 ∃ b69, e67 = .returned (.bool b69) ∧ (Br b69 (CanSet w68 q1 qo1 ∧ (∀ w70, w70 = w68.setCell ⟨q1, qo1, none⟩ (.int .i64 5) →
 (R (.returned (.int .i64 0)) w70))) (R (.returned (.int .i64 0)) w68)))))))))))) (Br (n4 == 4) (∃ p71, w2.cell? ⟨q0, 1, none⟩ = some (.pointer p71) ∧
 (Calls Tryz.prog 216 #[(.pointer p71), (.int .i64 a2), (.int .i64 (IntKind.i64.wrap (n3 + 2))), (.int .u32 0)] w2 (fun e72 w73 =>
 e72 = .returned (.tuple #[]) ∧ (∃ n74, w73.cell? ⟨q1, qo1 + 3, none⟩ = some (.int .i64 n74) ∧
 (w73.there q1 qo1 4 ∧ (∀ w75, w75 = w73.setCells q1 qo1 [(.int .i64 0), (.int .i64 0), (.int .i64 n74), (.int .i64 0)] →
 (R (.returned (.int .i64 0)) w75))))))) (Br (n4 == 5) (∃ p76, w2.cell? ⟨q0, 1, none⟩ = some (.pointer p76) ∧
 (Calls Tryz.prog 216 #[(.pointer p76), (.int .i64 a2), (.int .i64 (IntKind.i64.wrap (n3 + 2))), (.int .u32 0)] w2 (fun e77 w78 =>
 e77 = .returned (.tuple #[]) ∧ (R (.returned (.int .i64 3)) w78)))) (R (.returned (.int .i64 0)) w2))))))))))
theorem callsAbortLock_unlock (q0 : Nat) (q1 qo1 : Nat) (a2 : Int) (R : Ending → 
    World → Prop) (w : World) (h : preAbortLock_unlock q0 q1 qo1 a2 R w) : Calls Tryz.prog 321 #[(.pointer (some ⟨q0, 0, none⟩)), (.pointer (some ⟨q1, qo1, none⟩)), (.int .i64 a2)] w R :=
  calls_of_sym Tryz.func321 (c := bodyOf Tryz.f321) rfl (Eq.mpr (by kernel_rfl) h)

/-- (*weighlock/abort.Lock).state -/
def preAbortLock_state (q0 : Nat) (a1 : Int) (R : Ending → World → 
    Prop) (w : World) : Prop :=
  ∃ n0, w.cell? ⟨q0, 3, none⟩ = some (.int .i64 n0) ∧ (R (.returned (.int .i64 (IntKind.i64.wrap ((IntKind.i64.wrap (n0 + (IntKind.i64.wrap (3 * a1)))) - 2)))) w)
theorem callsAbortLock_state (q0 : Nat) (a1 : Int) (R : Ending → 
    World → Prop) (w : World) (h : preAbortLock_state q0 a1 R w) : Calls Tryz.prog 322 #[(.pointer (some ⟨q0, 0, none⟩)), (.int .i64 a1)] w R :=
  calls_of_sym Tryz.func322 (c := bodyOf Tryz.f322) rfl (Eq.mpr (by kernel_rfl) h)

/-- (*weighlock/abort.Lock).search -/
def preAbortLock_search (q0 : Nat) (q1 qo1 : Nat) (a2p : Option Addr) (a2l a2c : Nat) (a3 : Int) (R : Ending → 
    World → Prop) (w : World) : Prop :=
  ∀ w0, w0 = w.alloc (.cells #[(.int .i64 0), (.bool false), (.bool false), (.bool false)] 86) →
 (∃ n1, w0.cell? ⟨q1, qo1 + 1, none⟩ = some (.int .i64 n1) ∧ (((0 : Int) ≤ n1 ∧ n1 < ((a2l : Nat) : Int)) ∧
 (PtrSome a2p (fun b2 o3 => ∃ n4, w0.cell? ⟨b2, o3 + (Int.toNat n1), none⟩ = some (.int .i64 n4) ∧
 (CanSet w0 q1 (qo1 + 2) ∧ (∀ w5, w5 = w0.setCell ⟨q1, qo1 + 2, none⟩ (.int .i64 n4) → (∃ n6, w5.cell? ⟨q1, qo1 + 1, none⟩ = some (.int .i64 n6) ∧
 (CanSet w5 q1 (qo1 + 1) ∧ (∀ w7, w7 = w5.setCell ⟨q1, qo1 + 1, none⟩ (.int .i64 (IntKind.i64.wrap (n6 + 1))) →
 (∀ w8, w8 = w7.drew → (∃ p9, w8.cell? ⟨q0, 1, none⟩ = some (.pointer p9) ∧ (∃ n10, w8.cell? ⟨q1, qo1 + 2, none⟩ = some (.int .i64 n10) ∧
 (Calls Tryz.prog 322 #[(.pointer (some ⟨q0, 0, none⟩)), (.int .i64 n10)] w8 (fun e11 w12 =>
 ∃ n13, e11 = .returned (.int .i64 n13) ∧ ((w12.cell? ⟨q0, 1, none⟩ = some (.pointer p9)) ∧
 (Calls Tryz.prog 200 #[(.pointer p9), (.int .i64 a3), (.int .i64 (IntKind.i64.wrap (n13 + 2)))] w12 (fun e14 w15 =>
 ∃ n16, e14 = .returned (.int .u32 n16) ∧ (Br (n16 == 0) (CanSet w15 q1 qo1 ∧ (∀ w17, w17 = w15.setCell ⟨q1, qo1, none⟩ (.int .i64 1) →
 (w17.there w.heap.size 0 4 ∧ (∀ w18, w18 = w17.setCells w.heap.size 0 [(.int .i64 0), (.bool false), (.bool false), (.bool false)] →
 (∃ n19, w18.cell? ⟨w.heap.size, 0, none⟩ = some (.int .i64 n19) ∧ (∃ b20, w18.cell? ⟨w.heap.size, 1, none⟩ = some (.bool b20) ∧
 (∃ b21, w18.cell? ⟨w.heap.size, 2, none⟩ = some (.bool b21) ∧ (∃ b22, w18.cell? ⟨w.heap.size, 3, none⟩ = some (.bool b22) ∧
 (R (.returned (.agg #[(.int .i64 n19), (.bool b20), (.bool b21), (.bool b22)])) w18))))))))) (∃ n23, w15.cell? ⟨q1, qo1 + 1, none⟩ = some (.int .i64 n23) ∧
 (Br (n23 == (((a2l : Nat) : Int))) (w15.there w.heap.size 0 4 ∧ (∀ w24, w24 = w15.setCells w.heap.size 0 [(.int .i64 6), (.bool false), (.bool false), (.bool false)] →
 (∃ n25, w24.cell? ⟨w.heap.size, 0, none⟩ = some (.int .i64 n25) ∧ (∃ b26, w24.cell? ⟨w.heap.size, 1, none⟩ = some (.bool b26) ∧
 (∃ b27, w24.cell? ⟨w.heap.size, 2, none⟩ = some (.bool b27) ∧ (∃ b28, w24.cell? ⟨w.heap.size, 3, none⟩ = some (.bool b28) ∧
 (R (.returned (.agg #[(.int .i64 n25), (.bool b26), (.bool b27), (.bool b28)])) w24))))))) (w15.there w.heap.size 0 4 ∧
 (∀ w29, w29 = w15.setCells w.heap.size 0 [(.int .i64 0), (.bool false), (.bool false), (.bool false)] →
 (∃ n30, w29.cell? ⟨w.heap.size, 0, none⟩ = some (.int .i64 n30) ∧ (∃ b31, w29.cell? ⟨w.heap.size, 1, none⟩ = some (.bool b31) ∧
 (∃ b32, w29.cell? ⟨w.heap.size, 2, none⟩ = some (.bool b32) ∧ (∃ b33, w29.cell? ⟨w.heap.size, 3, none⟩ = some (.bool b33) ∧
 (R (.returned (.agg #[(.int .i64 n30), (.bool b31), (.bool b32), (.bool b33)])) w29)))))))))))))))))))))))))))
theorem callsAbortLock_search (q0 : Nat) (q1 qo1 : Nat) (a2p : Option Addr) (a2l a2c : Nat) (a3 : Int) (R : Ending → 
    World → Prop) (w : World) (h : preAbortLock_search q0 q1 qo1 a2p a2l a2c a3 R w) : Calls Tryz.prog 323 #[(.pointer (some ⟨q0, 0, none⟩)), (.pointer (some ⟨q1, qo1, none⟩)), (.slice a2p a2l a2c), (.int .i64 a3)] w R :=
  calls_of_sym Tryz.func323 (c := bodyOf Tryz.f323) rfl (Eq.mpr (by kernel_rfl) h)

/-- (*weighlock/hier.Lock).Step -/
def preHierLockStep (q0 : Nat) (a1 a2 a3 : Int) (R : Ending → 
    World → Prop) (w : World) : Prop :=
  ∀ w0, w0 = w.alloc (.cells #[(.int .i64 0), (.bool false), (.bool false), (.bool false)] 86) →
 (∀ w1, w1 = w0.alloc (.cells #[(.int .i64 0), (.bool false), (.bool false), (.bool false)] 86) →
 (∃ p2, w1.cell? ⟨q0, 0, none⟩ = some (.pointer p2) ∧ (Calls Tryz.prog 138 #[(.pointer p2), (.int .i64 a1)] w1 (fun e3 w4 =>
 ∃ n5, e3 = .returned (.int .i64 n5) ∧ (Br (n5 == 1) (∃ p6 l7 c8, w4.cell? ⟨q0, 3, none⟩ = some (.slice p6 l7 c8) ∧
 (((0 : Int) ≤ a1 ∧ a1 < ((l7 : Nat) : Int)) ∧ (PtrSome p6 (fun b9 o10 => Calls Tryz.prog 326 #[(.pointer (some ⟨q0, 0, none⟩)), (.pointer (some ⟨b9, o10 + ((Int.toNat a1)) * 6, none⟩)), (.int .i64 a2)] w4 (fun e11 w12 =>
 ∃ n13 b14 b15 b16, e11 = .returned (.agg #[(.int .i64 n13), (.bool b14), (.bool b15), (.bool b16)]) ∧
 (w12.there w0.heap.size 0 4 ∧ (∀ w17, w17 = w12.setCells w0.heap.size 0 [(.int .i64 n13), (.bool b14), (.bool b15), (.bool b16)] →
 (∀ w18, w18 = w17.drew → (∃ p19, w18.cell? ⟨q0, 0, none⟩ = some (.pointer p19) ∧
 (∃ n20, w18.cell? ⟨w0.heap.size, 0, none⟩ = some (.int .i64 n20) ∧ (Calls Tryz.prog 140 #[(.pointer p19), (.int .i64 a1), (.int .i64 n20)] w18 (fun e21 w22 =>
 ∃ b23, e21 = .returned (.bool b23) ∧ (∃ n24, w22.cell? ⟨w0.heap.size, 0, none⟩ = some (.int .i64 n24) ∧
 (∃ b25, w22.cell? ⟨w0.heap.size, 1, none⟩ = some (.bool b25) ∧ (∃ b26, w22.cell? ⟨w0.heap.size, 2, none⟩ = some (.bool b26) ∧
 (∃ b27, w22.cell? ⟨w0.heap.size, 3, none⟩ = some (.bool b27) ∧ (w22.there w.heap.size 0 4 ∧
 (∀ w28, w28 = w22.setCells w.heap.size 0 [(.int .i64 n24), (.bool b25), (.bool b26), (.bool b27)] →
 (∃ n29, w28.cell? ⟨w.heap.size, 0, none⟩ = some (.int .i64 n29) ∧ (∃ b30, w28.cell? ⟨w.heap.size, 1, none⟩ = some (.bool b30) ∧
 (∃ b31, w28.cell? ⟨w.heap.size, 2, none⟩ = some (.bool b31) ∧ (∃ b32, w28.cell? ⟨w.heap.size, 3, none⟩ = some (.bool b32) ∧
 (R (.returned (.agg #[(.int .i64 n29), (.bool b30), (.bool b31), (.bool b32)])) w28))))))))))))))))))))))) (Br (n5 == 3) (∃ p33 l34 c35, w4.cell? ⟨q0, 3, none⟩ = some (.slice p33 l34 c35) ∧
 (((0 : Int) ≤ a1 ∧ a1 < ((l34 : Nat) : Int)) ∧ (PtrSome p33 (fun b36 o37 => Calls Tryz.prog 327 #[(.pointer (some ⟨q0, 0, none⟩)), (.pointer (some ⟨b36, o37 + ((Int.toNat a1)) * 6, none⟩)), (.int .i64 a2)] w4 (fun e38 w39 =>
 ∃ n40, e38 = .returned (.int .i64 n40) ∧ (CanSet w39 w0.heap.size 0 ∧ (∀ w41, w41 = w39.setCell ⟨w0.heap.size, 0, none⟩ (.int .i64 n40) →
 (∀ w42, w42 = w41.drew → (∃ p43, w42.cell? ⟨q0, 0, none⟩ = some (.pointer p43) ∧
 (∃ n44, w42.cell? ⟨w0.heap.size, 0, none⟩ = some (.int .i64 n44) ∧ (Calls Tryz.prog 140 #[(.pointer p43), (.int .i64 a1), (.int .i64 n44)] w42 (fun e45 w46 =>
 ∃ b47, e45 = .returned (.bool b47) ∧ (∃ n48, w46.cell? ⟨w0.heap.size, 0, none⟩ = some (.int .i64 n48) ∧
 (∃ b49, w46.cell? ⟨w0.heap.size, 1, none⟩ = some (.bool b49) ∧ (∃ b50, w46.cell? ⟨w0.heap.size, 2, none⟩ = some (.bool b50) ∧
 (∃ b51, w46.cell? ⟨w0.heap.size, 3, none⟩ = some (.bool b51) ∧ (w46.there w.heap.size 0 4 ∧
 (∀ w52, w52 = w46.setCells w.heap.size 0 [(.int .i64 n48), (.bool b49), (.bool b50), (.bool b51)] →
 (∃ n53, w52.cell? ⟨w.heap.size, 0, none⟩ = some (.int .i64 n53) ∧ (∃ b54, w52.cell? ⟨w.heap.size, 1, none⟩ = some (.bool b54) ∧
 (∃ b55, w52.cell? ⟨w.heap.size, 2, none⟩ = some (.bool b55) ∧ (∃ b56, w52.cell? ⟨w.heap.size, 3, none⟩ = some (.bool b56) ∧
 (R (.returned (.agg #[(.int .i64 n53), (.bool b54), (.bool b55), (.bool b56)])) w52))))))))))))))))))))))) (∀ w57, w57 = w4.drew →
 (∃ p58, w57.cell? ⟨q0, 0, none⟩ = some (.pointer p58) ∧ (∃ n59, w57.cell? ⟨w0.heap.size, 0, none⟩ = some (.int .i64 n59) ∧
 (Calls Tryz.prog 140 #[(.pointer p58), (.int .i64 a1), (.int .i64 n59)] w57 (fun e60 w61 =>
 ∃ b62, e60 = .returned (.bool b62) ∧ (∃ n63, w61.cell? ⟨w0.heap.size, 0, none⟩ = some (.int .i64 n63) ∧
 (∃ b64, w61.cell? ⟨w0.heap.size, 1, none⟩ = some (.bool b64) ∧ (∃ b65, w61.cell? ⟨w0.heap.size, 2, none⟩ = some (.bool b65) ∧
 (∃ b66, w61.cell? ⟨w0.heap.size, 3, none⟩ = some (.bool b66) ∧ (w61.there w.heap.size 0 4 ∧
 (∀ w67, w67 = w61.setCells w.heap.size 0 [(.int .i64 n63), (.bool b64), (.bool b65), (.bool b66)] →
 (∃ n68, w67.cell? ⟨w.heap.size, 0, none⟩ = some (.int .i64 n68) ∧ (∃ b69, w67.cell? ⟨w.heap.size, 1, none⟩ = some (.bool b69) ∧
 (∃ b70, w67.cell? ⟨w.heap.size, 2, none⟩ = some (.bool b70) ∧ (∃ b71, w67.cell? ⟨w.heap.size, 3, none⟩ = some (.bool b71) ∧
 (R (.returned (.agg #[(.int .i64 n68), (.bool b69), (.bool b70), (.bool b71)])) w67))))))))))))))))))))))
theorem callsHierLockStep (q0 : Nat) (a1 a2 a3 : Int) (R : Ending → 
    World → Prop) (w : World) (h : preHierLockStep q0 a1 a2 a3 R w) : Calls Tryz.prog 324 #[(.pointer (some ⟨q0, 0, none⟩)), (.int .i64 a1), (.int .i64 a2), (.int .i64 a3)] w R :=
  calls_of_sym Tryz.func324 (c := bodyOf Tryz.f324) rfl (Eq.mpr (by kernel_rfl) h)

/-- (*weighlock/hier.Lock).Use -/
def preHierLockUse (q0 : Nat) (q1 : Nat) (R : Ending → World → Prop) (w : World) : Prop :=
  CanSet w q0 1 ∧
 (∀ w0, w0 = w.setCell ⟨q0, 1, none⟩ (.pointer (some ⟨q1, 0, none⟩)) → (R (.returned (.tuple #[])) w0))
theorem callsHierLockUse (q0 : Nat) (q1 : Nat) (R : Ending → 
    World → Prop) (w : World) (h : preHierLockUse q0 q1 R w) : Calls Tryz.prog 325 #[(.pointer (some ⟨q0, 0, none⟩)), (.pointer (some ⟨q1, 0, none⟩))] w R :=
  calls_of_sym Tryz.func325 (c := bodyOf Tryz.f325) rfl (Eq.mpr (by kernel_rfl) h)

/-- (*weighlock/hier.Lock).lock -/
def preHierLock_lock (q0 : Nat) (q1 qo1 : Nat) (a2 : Int) (R : Ending → 
    World → Prop) (w : World) : Prop :=
  ∀ w0, w0 = w.alloc (.cells #[(.int .i64 0), (.bool false), (.bool false), (.bool false)] 86) →
 (∀ w1, w1 = w0.drew → (∃ n2, w1.cell? ⟨q0, 2, none⟩ = some (.int .i64 n2) ∧ (∃ n3, w1.cell? ⟨q1, qo1, none⟩ = some (.int .i64 n3) ∧
 (∃ n4, w1.cell? ⟨q1, qo1 + 5, none⟩ = some (.int .i64 n4) ∧ (Br (n4 == 0) (∀ w5, w5 = w1.drew →
 (∃ p6, w5.cell? ⟨q0, 1, none⟩ = some (.pointer p6) ∧ (∃ n7, w5.cell? ⟨q1, qo1 + 1, none⟩ = some (.int .i64 n7) ∧
 (∃ n8, w5.cell? ⟨q1, qo1, none⟩ = some (.int .i64 n8) ∧ (Calls Tryz.prog 328 #[(.pointer (some ⟨q0, 0, none⟩)), (.int .i64 n7)] w5 (fun e9 w10 =>
 ∃ n11, e9 = .returned (.int .i64 n11) ∧ ((w10.cell? ⟨q1, qo1, none⟩ = some (.int .i64 n8)) ∧
 ((w10.cell? ⟨q0, 1, none⟩ = some (.pointer p6)) ∧ (Calls Tryz.prog 192 #[(.int .i64 n8), (.bool true), (.bool false)] w10 (fun e12 w13 =>
 ∃ n14, e12 = .returned (.int .u32 n14) ∧ ((w13.cell? ⟨q0, 1, none⟩ = some (.pointer p6)) ∧
 (Calls Tryz.prog 216 #[(.pointer p6), (.int .i64 a2), (.int .i64 n11), (.int .u32 n14)] w13 (fun e15 w16 =>
 e15 = .returned (.tuple #[]) ∧ (CanSet w16 q1 (qo1 + 5) ∧ (∀ w17, w17 = w16.setCell ⟨q1, qo1 + 5, none⟩ (.int .i64 1) →
 (w17.there w.heap.size 0 4 ∧ (∀ w18, w18 = w17.setCells w.heap.size 0 [(.int .i64 0), (.bool false), (.bool false), (.bool false)] →
 (∃ n19, w18.cell? ⟨w.heap.size, 0, none⟩ = some (.int .i64 n19) ∧ (∃ b20, w18.cell? ⟨w.heap.size, 1, none⟩ = some (.bool b20) ∧
 (∃ b21, w18.cell? ⟨w.heap.size, 2, none⟩ = some (.bool b21) ∧ (∃ b22, w18.cell? ⟨w.heap.size, 3, none⟩ = some (.bool b22) ∧
 (R (.returned (.agg #[(.int .i64 n19), (.bool b20), (.bool b21), (.bool b22)])) w18)))))))))))))))))))))) (Br (n4 == 1) (∀ w23, w23 = w1.drew →
 (∃ p24, w23.cell? ⟨q0, 1, none⟩ = some (.pointer p24) ∧ (∃ n25, w23.cell? ⟨q1, qo1 + 1, none⟩ = some (.int .i64 n25) ∧
 (Calls Tryz.prog 299 #[(.pointer p24), (.int .i64 a2), (.int .i64 (IntKind.i64.wrap ((IntKind.i64.wrap (n2 + 1)) + n3))), (.int .u32 (IntKind.u32.wrap n25))] w23 (fun e26 w27 =>
 ∃ n28, e26 = .returned (.int .u32 n28) ∧ (CanSet w27 q1 (qo1 + 2) ∧ (∀ w29, w29 = w27.setCell ⟨q1, qo1 + 2, none⟩ (.int .i64 (IntKind.i64.wrap n28)) →
 (CanSet w29 q1 (qo1 + 5) ∧ (∀ w30, w30 = w29.setCell ⟨q1, qo1 + 5, none⟩ (.int .i64 2) → (∃ n31, w30.cell? ⟨q1, qo1 + 2, none⟩ = some (.int .i64 n31) ∧
 (Br (n31 == 0) (CanSet w30 q1 (qo1 + 5) ∧ (∀ w32, w32 = w30.setCell ⟨q1, qo1 + 5, none⟩ (.int .i64 3) →
 (w32.there w.heap.size 0 4 ∧ (∀ w33, w33 = w32.setCells w.heap.size 0 [(.int .i64 0), (.bool true), (.bool false), (.bool false)] →
 (∃ n34, w33.cell? ⟨w.heap.size, 0, none⟩ = some (.int .i64 n34) ∧ (∃ b35, w33.cell? ⟨w.heap.size, 1, none⟩ = some (.bool b35) ∧
 (∃ b36, w33.cell? ⟨w.heap.size, 2, none⟩ = some (.bool b36) ∧ (∃ b37, w33.cell? ⟨w.heap.size, 3, none⟩ = some (.bool b37) ∧
 (R (.returned (.agg #[(.int .i64 n34), (.bool b35), (.bool b36), (.bool b37)])) w33))))))))) (w30.there w.heap.size 0 4 ∧
 (∀ w38, w38 = w30.setCells w.heap.size 0 [(.int .i64 0), (.bool true), (.bool false), (.bool false)] →
 (∃ n39, w38.cell? ⟨w.heap.size, 0, none⟩ = some (.int .i64 n39) ∧ (∃ b40, w38.cell? ⟨w.heap.size, 1, none⟩ = some (.bool b40) ∧
 (∃ b41, w38.cell? ⟨w.heap.size, 2, none⟩ = some (.bool b41) ∧ (∃ b42, w38.cell? ⟨w.heap.size, 3, none⟩ = some (.bool b42) ∧
 (R (.returned (.agg #[(.int .i64 n39), (.bool b40), (.bool b41), (.bool b42)])) w38)))))))))))))))))) (Br (n4 == 2) (∀ w43, w43 = w1.drew →
 (∃ p44, w43.cell? ⟨q0, 1, none⟩ = some (.pointer p44) ∧ (∃ n45, w43.cell? ⟨q1, qo1 + 2, none⟩ = some (.int .i64 n45) ∧
 (Calls Tryz.prog 328 #[(.pointer (some ⟨q0, 0, none⟩)), (.int .i64 n45)] w43 (fun e46 w47 =>
 ∃ n48, e46 = .returned (.int .i64 n48) ∧ ((w47.cell? ⟨q0, 1, none⟩ = some (.pointer p44)) ∧
 (Calls Tryz.prog 200 #[(.pointer p44), (.int .i64 a2), (.int .i64 n48)] w47 (fun e49 w50 =>
 ∃ n51, e49 = .returned (.int .u32 n51) ∧ (∀ w52, w52 = w50.drew → (∃ n53, w52.cell? ⟨q1, qo1, none⟩ = some (.int .i64 n53) ∧
 (Calls Tryz.prog 329 #[(.int .u32 n51)] w52 (fun e54 w55 => ∃ n56, e54 = .returned (.int .i64 n56) ∧
 ((w55.cell? ⟨q1, qo1, none⟩ = some (.int .i64 n53)) ∧ (Br (n56 != n53) (CanSet w55 q1 (qo1 + 5) ∧
 (∀ w57, w57 = w55.setCell ⟨q1, qo1 + 5, none⟩ (.int .i64 3) → (w57.there w.heap.size 0 4 ∧ (∀ w58, w58 = w57.setCells w.heap.size 0 [(.int .i64 0), (.bool false), (.bool false), (.bool false)] →
 (∃ n59, w58.cell? ⟨w.heap.size, 0, none⟩ = some (.int .i64 n59) ∧ (∃ b60, w58.cell? ⟨w.heap.size, 1, none⟩ = some (.bool b60) ∧
 (∃ b61, w58.cell? ⟨w.heap.size, 2, none⟩ = some (.bool b61) ∧ (∃ b62, w58.cell? ⟨w.heap.size, 3, none⟩ = some (.bool b62) ∧
 (R (.returned (.agg #[(.int .i64 n59), (.bool b60), (.bool b61), (.bool b62)])) w58))))))))) (Calls Tryz.prog 330 #[(.int .u32 n51)] w55 (fun e63 w64 =>
 ∃ b65, e63 = .returned (.bool b65) ∧ (Br b65 (CanSet w64 q1 (qo1 + 5) ∧ (∀ w66, w66 = w64.setCell ⟨q1, qo1 + 5, none⟩ (.int .i64 3) →
 (w66.there w.heap.size 0 4 ∧ (∀ w67, w67 = w66.setCells w.heap.size 0 [(.int .i64 0), (.bool false), (.bool false), (.bool false)] →
 (∃ n68, w67.cell? ⟨w.heap.size, 0, none⟩ = some (.int .i64 n68) ∧ (∃ b69, w67.cell? ⟨w.heap.size, 1, none⟩ = some (.bool b69) ∧
 (∃ b70, w67.cell? ⟨w.heap.size, 2, none⟩ = some (.bool b70) ∧ (∃ b71, w67.cell? ⟨w.heap.size, 3, none⟩ = some (.bool b71) ∧
 (R (.returned (.agg #[(.int .i64 n68), (.bool b69), (.bool b70), (.bool b71)])) w67))))))))) (Calls Tryz.prog 331 #[(.int .u32 n51)] w64 (fun e72 w73 =>
 ∃ b74, e72 = .returned (.bool b74) ∧ (Br (!b74) (Calls Tryz.prog 332 #[(.pointer (some ⟨q1, qo1, none⟩)), (.bool false)] w73 (fun e75 w76 =>
 ∃ n77 b78 b79 b80, e75 = .returned (.agg #[(.int .i64 n77), (.bool b78), (.bool b79), (.bool b80)]) ∧
 (w76.there w.heap.size 0 4 ∧ (∀ w81, w81 = w76.setCells w.heap.size 0 [(.int .i64 n77), (.bool b78), (.bool b79), (.bool b80)] →
 (∃ n82, w81.cell? ⟨w.heap.size, 0, none⟩ = some (.int .i64 n82) ∧ (∃ b83, w81.cell? ⟨w.heap.size, 1, none⟩ = some (.bool b83) ∧
 (∃ b84, w81.cell? ⟨w.heap.size, 2, none⟩ = some (.bool b84) ∧ (∃ b85, w81.cell? ⟨w.heap.size, 3, none⟩ = some (.bool b85) ∧
 (R (.returned (.agg #[(.int .i64 n82), (.bool b83), (.bool b84), (.bool b85)])) w81))))))))) (w73.there w.heap.size 0 4 ∧
 (∀ w86, w86 = w73.setCells w.heap.size 0 [(.int .i64 0), (.bool false), (.bool false), (.bool false)] →
 (∃ n87, w86.cell? ⟨w.heap.size, 0, none⟩ = some (.int .i64 n87) ∧ (∃ b88, w86.cell? ⟨w.heap.size, 1, none⟩ = some (.bool b88) ∧
 (∃ b89, w86.cell? ⟨w.heap.size, 2, none⟩ = some (.bool b89) ∧ (∃ b90, w86.cell? ⟨w.heap.size, 3, none⟩ = some (.bool b90) ∧
 (R (.returned (.agg #[(.int .i64 n87), (.bool b88), (.bool b89), (.bool b90)])) w86))))))))))))))))))))))))))) (Br (n4 == 3) (∃ p91, w1.cell? ⟨q0, 1, none⟩ = some (.pointer p91) ∧
 (Calls Tryz.prog 200 #[(.pointer p91), (.int .i64 a2), (.int .i64 (IntKind.i64.wrap ((IntKind.i64.wrap (n2 + 1)) + n3)))] w1 (fun e92 w93 =>
 ∃ n94, e92 = .returned (.int .u32 n94) ∧ (CanSet w93 q1 (qo1 + 3) ∧ (∀ w95, w95 = w93.setCell ⟨q1, qo1 + 3, none⟩ (.int .i64 (IntKind.i64.wrap n94)) →
 (CanSet w95 q1 (qo1 + 5) ∧ (∀ w96, w96 = w95.setCell ⟨q1, qo1 + 5, none⟩ (.int .i64 4) → (w96.there w.heap.size 0 4 ∧
 (∀ w97, w97 = w96.setCells w.heap.size 0 [(.int .i64 0), (.bool false), (.bool false), (.bool false)] →
 (∃ n98, w97.cell? ⟨w.heap.size, 0, none⟩ = some (.int .i64 n98) ∧ (∃ b99, w97.cell? ⟨w.heap.size, 1, none⟩ = some (.bool b99) ∧
 (∃ b100, w97.cell? ⟨w.heap.size, 2, none⟩ = some (.bool b100) ∧ (∃ b101, w97.cell? ⟨w.heap.size, 3, none⟩ = some (.bool b101) ∧
 (R (.returned (.agg #[(.int .i64 n98), (.bool b99), (.bool b100), (.bool b101)])) w97)))))))))))))) (Br (n4 == 4) (∀ w102, w102 = w1.drew →
 (∃ p103, w102.cell? ⟨q0, 1, none⟩ = some (.pointer p103) ∧ (∃ n104, w102.cell? ⟨q0, 2, none⟩ = some (.int .i64 n104) ∧
 (∃ n105, w102.cell? ⟨q1, qo1 + 3, none⟩ = some (.int .i64 n105) ∧ (Calls Tryz.prog 299 #[(.pointer p103), (.int .i64 a2), (.int .i64 n104), (.int .u32 (IntKind.u32.wrap n105))] w102 (fun e106 w107 =>
 ∃ n108, e106 = .returned (.int .u32 n108) ∧ (CanSet w107 q1 (qo1 + 2) ∧ (∀ w109, w109 = w107.setCell ⟨q1, qo1 + 2, none⟩ (.int .i64 (IntKind.i64.wrap n108)) →
 (CanSet w109 q1 (qo1 + 5) ∧ (∀ w110, w110 = w109.setCell ⟨q1, qo1 + 5, none⟩ (.int .i64 5) →
 (w110.there w.heap.size 0 4 ∧ (∀ w111, w111 = w110.setCells w.heap.size 0 [(.int .i64 0), (.bool false), (.bool true), (.bool false)] →
 (∃ n112, w111.cell? ⟨w.heap.size, 0, none⟩ = some (.int .i64 n112) ∧ (∃ b113, w111.cell? ⟨w.heap.size, 1, none⟩ = some (.bool b113) ∧
 (∃ b114, w111.cell? ⟨w.heap.size, 2, none⟩ = some (.bool b114) ∧ (∃ b115, w111.cell? ⟨w.heap.size, 3, none⟩ = some (.bool b115) ∧
 (R (.returned (.agg #[(.int .i64 n112), (.bool b113), (.bool b114), (.bool b115)])) w111))))))))))))))))) (Br (n4 == 5) (∀ w116, w116 = w1.drew →
 (∃ p117, w116.cell? ⟨q0, 1, none⟩ = some (.pointer p117) ∧ (∃ n118, w116.cell? ⟨q1, qo1 + 3, none⟩ = some (.int .i64 n118) ∧
 (Calls Tryz.prog 328 #[(.pointer (some ⟨q0, 0, none⟩)), (.int .i64 n118)] w116 (fun e119 w120 =>
 ∃ n121, e119 = .returned (.int .i64 n121) ∧ ((w120.cell? ⟨q0, 1, none⟩ = some (.pointer p117)) ∧
 (Calls Tryz.prog 200 #[(.pointer p117), (.int .i64 a2), (.int .i64 n121)] w120 (fun e122 w123 =>
 ∃ n124, e122 = .returned (.int .u32 n124) ∧ (CanSet w123 q1 (qo1 + 4) ∧ (∀ w125, w125 = w123.setCell ⟨q1, qo1 + 4, none⟩ (.int .u32 n124) →
 (CanSet w125 q1 (qo1 + 5) ∧ (∀ w126, w126 = w125.setCell ⟨q1, qo1 + 5, none⟩ (.int .i64 6) →
 (w126.there w.heap.size 0 4 ∧ (∀ w127, w127 = w126.setCells w.heap.size 0 [(.int .i64 0), (.bool false), (.bool false), (.bool false)] →
 (∃ n128, w127.cell? ⟨w.heap.size, 0, none⟩ = some (.int .i64 n128) ∧ (∃ b129, w127.cell? ⟨w.heap.size, 1, none⟩ = some (.bool b129) ∧
 (∃ b130, w127.cell? ⟨w.heap.size, 2, none⟩ = some (.bool b130) ∧ (∃ b131, w127.cell? ⟨w.heap.size, 3, none⟩ = some (.bool b131) ∧
 (R (.returned (.agg #[(.int .i64 n128), (.bool b129), (.bool b130), (.bool b131)])) w127))))))))))))))))))) (Br (n4 == 6) (CanSet w1 q1 (qo1 + 5) ∧
 (∀ w132, w132 = w1.setCell ⟨q1, qo1 + 5, none⟩ (.int .i64 5) → (∀ w133, w133 = w132.drew →
 (∃ p134, w133.cell? ⟨q0, 1, none⟩ = some (.pointer p134) ∧ (∃ n135, w133.cell? ⟨q1, qo1 + 3, none⟩ = some (.int .i64 n135) ∧
 (∃ n136, w133.cell? ⟨q1, qo1 + 4, none⟩ = some (.int .u32 n136) ∧ (∃ n137, w133.cell? ⟨q1, qo1 + 4, none⟩ = some (.int .u32 n137) ∧
 (Calls Tryz.prog 328 #[(.pointer (some ⟨q0, 0, none⟩)), (.int .i64 n135)] w133 (fun e138 w139 =>
 ∃ n140, e138 = .returned (.int .i64 n140) ∧ ((w139.cell? ⟨q1, qo1 + 4, none⟩ = some (.int .u32 n137)) ∧
 ((w139.cell? ⟨q1, qo1 + 4, none⟩ = some (.int .u32 n136)) ∧ ((w139.cell? ⟨q0, 1, none⟩ = some (.pointer p134)) ∧
 (Calls Tryz.prog 333 #[(.int .u32 n137)] w139 (fun e141 w142 => ∃ n143, e141 = .returned (.int .u32 n143) ∧
 ((w142.cell? ⟨q1, qo1 + 4, none⟩ = some (.int .u32 n136)) ∧ ((w142.cell? ⟨q0, 1, none⟩ = some (.pointer p134)) ∧
 (Calls Tryz.prog 308 #[(.pointer p134), (.int .i64 a2), (.int .i64 n140), (.int .u32 n136), (.int .u32 n143)] w142 (fun e144 w145 =>
 ∃ b146, e144 = .returned (.bool b146) ∧ (Br b146 (CanSet w145 q1 (qo1 + 5) ∧ (∀ w147, w147 = w145.setCell ⟨q1, qo1 + 5, none⟩ (.int .i64 7) →
 (w147.there w.heap.size 0 4 ∧ (∀ w148, w148 = w147.setCells w.heap.size 0 [(.int .i64 0), (.bool false), (.bool false), (.bool false)] →
 (∃ n149, w148.cell? ⟨w.heap.size, 0, none⟩ = some (.int .i64 n149) ∧ (∃ b150, w148.cell? ⟨w.heap.size, 1, none⟩ = some (.bool b150) ∧
 (∃ b151, w148.cell? ⟨w.heap.size, 2, none⟩ = some (.bool b151) ∧ (∃ b152, w148.cell? ⟨w.heap.size, 3, none⟩ = some (.bool b152) ∧
 (R (.returned (.agg #[(.int .i64 n149), (.bool b150), (.bool b151), (.bool b152)])) w148))))))))) (w145.there w.heap.size 0 4 ∧
 (∀ w153, w153 = w145.setCells w.heap.size 0 [(.int .i64 0), (.bool false), (.bool false), (.bool false)] →
 (∃ n154, w153.cell? ⟨w.heap.size, 0, none⟩ = some (.int .i64 n154) ∧ (∃ b155, w153.cell? ⟨w.heap.size, 1, none⟩ = some (.bool b155) ∧
 (∃ b156, w153.cell? ⟨w.heap.size, 2, none⟩ = some (.bool b156) ∧ (∃ b157, w153.cell? ⟨w.heap.size, 3, none⟩ = some (.bool b157) ∧
 (R (.returned (.agg #[(.int .i64 n154), (.bool b155), (.bool b156), (.bool b157)])) w153)))))))))))))))))))))))))) (Br (n4 == 7) (∀ w158, w158 = w1.drew →
 (∃ p159, w158.cell? ⟨q0, 1, none⟩ = some (.pointer p159) ∧ (∃ n160, w158.cell? ⟨q1, qo1 + 2, none⟩ = some (.int .i64 n160) ∧
 (Calls Tryz.prog 328 #[(.pointer (some ⟨q0, 0, none⟩)), (.int .i64 n160)] w158 (fun e161 w162 =>
 ∃ n163, e161 = .returned (.int .i64 n163) ∧ ((w162.cell? ⟨q0, 1, none⟩ = some (.pointer p159)) ∧
 (Calls Tryz.prog 200 #[(.pointer p159), (.int .i64 a2), (.int .i64 n163)] w162 (fun e164 w165 =>
 ∃ n166, e164 = .returned (.int .u32 n166) ∧ (Calls Tryz.prog 331 #[(.int .u32 n166)] w165 (fun e167 w168 =>
 ∃ b169, e167 = .returned (.bool b169) ∧ (Br (!b169) (Calls Tryz.prog 332 #[(.pointer (some ⟨q1, qo1, none⟩)), (.bool true)] w168 (fun e170 w171 =>
 ∃ n172 b173 b174 b175, e170 = .returned (.agg #[(.int .i64 n172), (.bool b173), (.bool b174), (.bool b175)]) ∧
 (w171.there w.heap.size 0 4 ∧ (∀ w176, w176 = w171.setCells w.heap.size 0 [(.int .i64 n172), (.bool b173), (.bool b174), (.bool b175)] →
 (∃ n177, w176.cell? ⟨w.heap.size, 0, none⟩ = some (.int .i64 n177) ∧ (∃ b178, w176.cell? ⟨w.heap.size, 1, none⟩ = some (.bool b178) ∧
 (∃ b179, w176.cell? ⟨w.heap.size, 2, none⟩ = some (.bool b179) ∧ (∃ b180, w176.cell? ⟨w.heap.size, 3, none⟩ = some (.bool b180) ∧
 (R (.returned (.agg #[(.int .i64 n177), (.bool b178), (.bool b179), (.bool b180)])) w176))))))))) (w168.there w.heap.size 0 4 ∧
 (∀ w181, w181 = w168.setCells w.heap.size 0 [(.int .i64 0), (.bool false), (.bool false), (.bool false)] →
 (∃ n182, w181.cell? ⟨w.heap.size, 0, none⟩ = some (.int .i64 n182) ∧ (∃ b183, w181.cell? ⟨w.heap.size, 1, none⟩ = some (.bool b183) ∧
 (∃ b184, w181.cell? ⟨w.heap.size, 2, none⟩ = some (.bool b184) ∧ (∃ b185, w181.cell? ⟨w.heap.size, 3, none⟩ = some (.bool b185) ∧
 (R (.returned (.agg #[(.int .i64 n182), (.bool b183), (.bool b184), (.bool b185)])) w181)))))))))))))))))) (w1.there w.heap.size 0 4 ∧
 (∀ w186, w186 = w1.setCells w.heap.size 0 [(.int .i64 0), (.bool false), (.bool false), (.bool false)] →
 (∃ n187, w186.cell? ⟨w.heap.size, 0, none⟩ = some (.int .i64 n187) ∧ (∃ b188, w186.cell? ⟨w.heap.size, 1, none⟩ = some (.bool b188) ∧
 (∃ b189, w186.cell? ⟨w.heap.size, 2, none⟩ = some (.bool b189) ∧ (∃ b190, w186.cell? ⟨w.heap.size, 3, none⟩ = some (.bool b190) ∧
 (R (.returned (.agg #[(.int .i64 n187), (.bool b188), (.bool b189), (.bool b190)])) w186)))))))))))))))))))
theorem callsHierLock_lock (q0 : Nat) (q1 qo1 : Nat) (a2 : Int) (R : Ending → 
    World → Prop) (w : World) (h : preHierLock_lock q0 q1 qo1 a2 R w) : Calls Tryz.prog 326 #[(.pointer (some ⟨q0, 0, none⟩)), (.pointer (some ⟨q1, qo1, none⟩)), (.int .i64 a2)] w R :=
  calls_of_sym Tryz.func326 (c := bodyOf Tryz.f326) rfl (Eq.mpr (by kernel_rfl) h)

/-- (*weighlock/hier.Lock).unlock -/
def preHierLock_unlock (q0 : Nat) (q1 qo1 : Nat) (a2 : Int) (R : Ending → 
    World → Prop) (w : World) : Prop :=
  ∃ n0, w.cell? ⟨q1, qo1 + 5, none⟩ = some (.int .i64 n0) ∧
 (Br (n0 == 0) (∀ w1, w1 = w.drew → (∃ p2, w1.cell? ⟨q0, 1, none⟩ = some (.pointer p2) ∧
 (∃ n3, w1.cell? ⟨q1, qo1 + 1, none⟩ = some (.int .i64 n3) ∧ (Calls Tryz.prog 328 #[(.pointer (some ⟨q0, 0, none⟩)), (.int .i64 n3)] w1 (fun e4 w5 =>
 ∃ n6, e4 = .returned (.int .i64 n6) ∧ ((w5.cell? ⟨q0, 1, none⟩ = some (.pointer p2)) ∧
 (Calls Tryz.prog 200 #[(.pointer p2), (.int .i64 a2), (.int .i64 n6)] w5 (fun e7 w8 =>
 ∃ n9, e7 = .returned (.int .u32 n9) ∧ (CanSet w8 q1 (qo1 + 4) ∧ (∀ w10, w10 = w8.setCell ⟨q1, qo1 + 4, none⟩ (.int .u32 n9) →
 (CanSet w10 q1 (qo1 + 5) ∧ (∀ w11, w11 = w10.setCell ⟨q1, qo1 + 5, none⟩ (.int .i64 1) → (R (.returned (.int .i64 0)) w11))))))))))))) (CanSet w q1 (qo1 + 5) ∧
 (∀ w12, w12 = w.setCell ⟨q1, qo1 + 5, none⟩ (.int .i64 0) → (∀ w13, w13 = w12.drew →
 (∃ p14, w13.cell? ⟨q0, 1, none⟩ = some (.pointer p14) ∧ (∃ n15, w13.cell? ⟨q1, qo1 + 1, none⟩ = some (.int .i64 n15) ∧
 (∃ n16, w13.cell? ⟨q1, qo1 + 4, none⟩ = some (.int .u32 n16) ∧ (∃ n17, w13.cell? ⟨q1, qo1 + 4, none⟩ = some (.int .u32 n17) ∧
 (Calls Tryz.prog 328 #[(.pointer (some ⟨q0, 0, none⟩)), (.int .i64 n15)] w13 (fun e18 w19 =>
 ∃ n20, e18 = .returned (.int .i64 n20) ∧ ((w19.cell? ⟨q1, qo1 + 4, none⟩ = some (.int .u32 n17)) ∧
 ((w19.cell? ⟨q1, qo1 + 4, none⟩ = some (.int .u32 n16)) ∧ ((w19.cell? ⟨q0, 1, none⟩ = some (.pointer p14)) ∧
 (Calls Tryz.prog 334 #[(.int .u32 n17)] w19 (fun e21 w22 => ∃ n23, e21 = .returned (.int .u32 n23) ∧
 ((w22.cell? ⟨q1, qo1 + 4, none⟩ = some (.int .u32 n16)) ∧ ((w22.cell? ⟨q0, 1, none⟩ = some (.pointer p14)) ∧
 (Calls Tryz.prog 308 #[(.pointer p14), (.int .i64 a2), (.int .i64 n20), (.int .u32 n16), (.int .u32 n23)] w22 (fun e24 w25 =>
 ∃ b26, e24 = .returned (.bool b26) ∧ (Br (!b26) (R (.returned (.int .i64 0)) w25) (∃ n27, w25.cell? ⟨q1, qo1 + 2, none⟩ = some (.int .i64 n27) ∧
 (CanSet w25 q1 (qo1 + 1) ∧ (∀ w28, w28 = w25.setCell ⟨q1, qo1 + 1, none⟩ (.int .i64 n27) → (R (.returned (.int .i64 3)) w28))))))))))))))))))))))))
theorem callsHierLock_unlock (q0 : Nat) (q1 qo1 : Nat) (a2 : Int) (R : Ending → 
    World → Prop) (w : World) (h : preHierLock_unlock q0 q1 qo1 a2 R w) : Calls Tryz.prog 327 #[(.pointer (some ⟨q0, 0, none⟩)), (.pointer (some ⟨q1, qo1, none⟩)), (.int .i64 a2)] w R :=
  calls_of_sym Tryz.func327 (c := bodyOf Tryz.f327) rfl (Eq.mpr (by kernel_rfl) h)

/-- (*weighlock/hier.Lock).at -/
def preHierLock_at (q0 : Nat) (a1 : Int) (R : Ending → World → Prop) (w : World) : Prop :=
  ∃ n0, w.cell? ⟨q0, 2, none⟩ = some (.int .i64 n0) ∧
 (R (.returned (.int .i64 (IntKind.i64.wrap ((IntKind.i64.wrap (n0 + 8)) + a1)))) w)
theorem callsHierLock_at (q0 : Nat) (a1 : Int) (R : Ending → 
    World → Prop) (w : World) (h : preHierLock_at q0 a1 R w) : Calls Tryz.prog 328 #[(.pointer (some ⟨q0, 0, none⟩)), (.int .i64 a1)] w R :=
  calls_of_sym Tryz.func328 (c := bodyOf Tryz.f328) rfl (Eq.mpr (by kernel_rfl) h)

/-- (*weighlock/hier.place).granted -/
def preHier_place_granted (q0 qo0 : Nat) (a1 : Bool) (R : Ending → 
    World → Prop) (w : World) : Prop :=
  ∀ w0, w0 = w.alloc (.cells #[(.int .i64 0), (.bool false), (.bool false), (.bool false)] 86) →
 (CanSet w0 q0 (qo0 + 5) ∧ (∀ w1, w1 = w0.setCell ⟨q0, qo0 + 5, none⟩ (.int .i64 0) → (w1.there w.heap.size 0 4 ∧
 (∀ w2, w2 = w1.setCells w.heap.size 0 [(.int .i64 1), (.bool false), (.bool false), (.bool a1)] →
 (∃ n3, w2.cell? ⟨w.heap.size, 0, none⟩ = some (.int .i64 n3) ∧ (∃ b4, w2.cell? ⟨w.heap.size, 1, none⟩ = some (.bool b4) ∧
 (∃ b5, w2.cell? ⟨w.heap.size, 2, none⟩ = some (.bool b5) ∧ (∃ b6, w2.cell? ⟨w.heap.size, 3, none⟩ = some (.bool b6) ∧
 (R (.returned (.agg #[(.int .i64 n3), (.bool b4), (.bool b5), (.bool b6)])) w2)))))))))
theorem callsHier_place_granted (q0 qo0 : Nat) (a1 : Bool) (R : Ending → 
    World → Prop) (w : World) (h : preHier_place_granted q0 qo0 a1 R w) : Calls Tryz.prog 332 #[(.pointer (some ⟨q0, qo0, none⟩)), (.bool a1)] w R :=
  calls_of_sym Tryz.func332 (c := bodyOf Tryz.f332) rfl (Eq.mpr (by kernel_rfl) h)

end Go.Proofs.YtollfjfcdofbaaaGreat
