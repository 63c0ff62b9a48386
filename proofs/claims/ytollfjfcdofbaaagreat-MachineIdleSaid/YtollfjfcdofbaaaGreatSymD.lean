/- What the functions of the program come to, as Props over the world's cells, printed by a program of this session (Gen.lean); the kernel holds each against the engine's own. -/
import Derived.Test.YtollfjfcdofbaaaGreatProg
import Derived.Test.YtollfjfcdofbaaaGreatEng6
import Derived.KernelRfl
namespace Go.Proofs.YtollfjfcdofbaaaGreat
open Go Go.Proofs
set_option maxRecDepth 100000
set_option linter.unusedVariables false
/-- weighlock/cohort.New -/
def preCohortNew (q0 : Nat) (a1p : Option Addr) (a1l a1c : Nat) (a2 a3 a4 : Int) (R : Ending → 
    World → Prop) (w : World) : Prop :=
  Calls Tryz.prog 86 #[(.int .i64 (((a1l : Nat) : Int))), (.bool false), (.bool false)] w (fun e0 w1 =>
 ∃ p2 n3, e0 = .returned (.tuple #[(.pointer p2), (.int .i64 n3)]) ∧ (Br (n3 != 0) (R (.returned (.tuple #[(.pointer none), (.int .i64 1)])) w1) (Calls Tryz.prog 87 #[(.slice a1p a1l a1c), (.func (.func 88) #[] #[])] w1 (fun e4 w5 =>
 ∃ b6, e4 = .returned (.bool b6) ∧ (Br b6 (R (.returned (.tuple #[(.pointer none), (.int .i64 1)])) w5) (∀ w7, w7 = w5.alloc (.cells #[(.int .i64 1), (.int .i64 4)] 3) →
 (Calls Tryz.prog 89 #[(.slice (some ⟨w5.heap.size, 0, none⟩) 2 2), (.int .i64 a2)] w7 (fun e8 w9 =>
 ∃ b10, e8 = .returned (.bool b10) ∧ (Br (!b10) (R (.returned (.tuple #[(.pointer none), (.int .i64 7)])) w9) (∀ w11, w11 = w9.alloc (.cells #[(.int .i64 1), (.int .i64 3), (.int .i64 4)] 3) →
 (Calls Tryz.prog 89 #[(.slice (some ⟨w9.heap.size, 0, none⟩) 3 3), (.int .i64 a3)] w11 (fun e12 w13 =>
 ∃ b14, e12 = .returned (.bool b14) ∧ (Br (!b14) (R (.returned (.tuple #[(.pointer none), (.int .i64 7)])) w13) (Br (decide ((a4 : Int) < 1)) (R (.returned (.tuple #[(.pointer none), (.int .i64 7)])) w13) (Br (decide ((a4 : Int) >
 1000)) (R (.returned (.tuple #[(.pointer none), (.int .i64 7)])) w13) (∀ w15, w15 = w13.drew →
 ((Calls Tryz.prog 27 #[(.pointer (some ⟨q0, 0, none⟩))] w15 (fun e16 w17 => ∃ n18, e16 = .returned (.int .i64 n18) ∧
 (((0 : Int) ≤ (((a1l : Nat) : Int)) ∧ (((a1l : Nat) : Int)) ≤ (((a1l : Nat) : Int)) ∧ ((32 : Nat) : Int) * (((a1l : Nat) : Int)) ≤ 281474976710656 ∧
 (((a1l : Nat) : Int)) ≤ 9223372036854775807) ∧ (∀ w19, w19 = w17.alloc (.cells (madeCells #[(.int .i64 0), (.int .i64 0), .nilFunc, (.int .u32 0)] (((Int.toNat (((a1l : Nat) : Int)))) * 4)) 163) →
 (∀ w20, w20 = w19.alloc (.cells #[(.pointer p2), (.pointer none), (.int .i64 n18), (.int .u32 (IntKind.u32.wrap a4)), .nilIface, .nilIface, .nilIface, .nilIface, .nilIface, .nilIface, .nilIface, .nilIface, .nilIface, (.slice (some ⟨w17.heap.size, 0, none⟩) ((Int.toNat (((a1l : Nat) : Int)))) ((Int.toNat (((a1l : Nat) : Int)))))] 55) →
 (∀ w21, w21 = w20.alloc (.cells #[(.slice none 0 0), (.slice none 0 0), (.slice none 0 0), (.slice none 0 0), (.slice none 0 0), (.slice none 0 0), (.slice none 0 0), (.slice none 0 0)] 158) →
 (∃ (I22 : Option Addr → Nat → Nat → Int → World → Prop) (μ23 : Option Addr → Nat → Nat → Int → World →
 Nat), I22 none 0 0 0 w21 ∧ ∀ (_g24 : Nat → Value) (w25 : World) (p26 : Option Addr) (l27 c28 : Nat) (n29 : Int), I22 p26 l27 c28 n29 w25 →
 (Br (decide (n29 < 8)) (Calls Tryz.prog 90 #[(.pointer (some ⟨q0, 0, none⟩)), (.int .i64 n29), (.int .u32 0)] w25 (fun e30 w31 =>
 ∃ n32, e30 = .returned (.int .i64 n32) ∧ (∀ w33, w33 = w31.alloc (.cells #[(.int .i64 n29)] 3) →
 (AppQ Tryz.prog #[22, 22] 22 #[(.slice p26 l27 c28), (.slice (some ⟨w31.heap.size, 0, none⟩) 1 1)] w33 (fun p34 l35 c36 w37 =>
 I22 p34 l35 c36 (IntKind.i64.wrap (n29 + 1)) w37 ∧ μ23 p34 l35 c36 (IntKind.i64.wrap (n29 + 1)) w37 < μ23 p26 l27 c28 n29 w25))))) (Calls Tryz.prog 91 #[(.pointer (some ⟨q0, 0, none⟩)), (.int .i64 a2), (.slice p26 l27 c28)] w25 (fun e38 w39 =>
 ∃ v40, e38 = .returned v40 ∧ (oneCells [v40] ∧ (CanSet w39 w19.heap.size 4 ∧ (∀ w41, w41 = w39.setCell ⟨w19.heap.size, 4, none⟩ v40 →
 (∃ (I42 : Int → World → Prop) (μ43 : Int → World → Nat), I42 0 w41 ∧ ∀ (_g44 : Nat → Value) (w45 : World) (n46 : Int), I42 n46 w45 →
 (Br (decide (n46 < (((a1l : Nat) : Int)))) (((0 : Int) ≤ n46 ∧ n46 < ((a1l : Nat) : Int)) ∧ (PtrSome a1p (fun b47 o48 =>
 ∃ n49, w45.cell? ⟨b47, o48 + (Int.toNat n46), none⟩ = some (.int .i64 n49) ∧ (∀ w50, w50 = w45.drew →
 (∃ p51 l52 c53, w50.cell? ⟨w19.heap.size, 13, none⟩ = some (.slice p51 l52 c53) ∧
 (((0 : Int) ≤ n49 ∧ n49 < ((8 : Nat) : Int)) ∧ (∃ p54 l55 c56, w50.cell? ⟨w20.heap.size, 0 + (Int.toNat n49), none⟩ = some (.slice p54 l55 c56) ∧
 (((0 : Int) ≤ n46 ∧ n46 < ((l52 : Nat) : Int)) ∧ (PtrSome p51 (fun b57 o58 => oneCells [(.int .i64 n49), (.int .i64 (((l55 : Nat) : Int))), .nilFunc, (.int .u32 0)] ∧
 (w50.there b57 (o58 + ((Int.toNat n46)) * 4) 4 ∧ (∀ w59, w59 = w50.setCells b57 (o58 + ((Int.toNat n46)) * 4) [(.int .i64 n49), (.int .i64 (((l55 : Nat) : Int))), .nilFunc, (.int .u32 0)] →
 (((0 : Int) ≤ n49 ∧ n49 < ((8 : Nat) : Int)) ∧ (∃ p60 l61 c62, w59.cell? ⟨w20.heap.size, 0 + (Int.toNat n49), none⟩ = some (.slice p60 l61 c62) ∧
 (∀ w63, w63 = w59.alloc (.cells #[(.int .i64 n49)] 3) → (AppQ Tryz.prog #[22, 22] 22 #[(.slice p60 l61 c62), (.slice (some ⟨w59.heap.size, 0, none⟩) 1 1)] w63 (fun p64 l65 c66 w67 =>
 ((0 : Int) ≤ n49 ∧ n49 < ((8 : Nat) : Int)) ∧ (CanSet w67 w20.heap.size (0 + (Int.toNat n49)) ∧ (∀ w68, w68 = w67.setCell ⟨w20.heap.size, 0 + (Int.toNat n49), none⟩ (.slice p64 l65 c66) →
 (I42 (IntKind.i64.wrap (n46 + 1)) w68 ∧ μ43 (IntKind.i64.wrap (n46 + 1)) w68 < μ43 n46 w45)))))))))))))))))))) (∃ p69 l70 c71, w45.cell? ⟨w20.heap.size, 0, none⟩ = some (.slice p69 l70 c71) ∧
 (∃ p72 l73 c74, w45.cell? ⟨w20.heap.size, 1, none⟩ = some (.slice p72 l73 c74) ∧
 (∃ p75 l76 c77, w45.cell? ⟨w20.heap.size, 2, none⟩ = some (.slice p75 l76 c77) ∧
 (∃ p78 l79 c80, w45.cell? ⟨w20.heap.size, 3, none⟩ = some (.slice p78 l79 c80) ∧
 (∃ p81 l82 c83, w45.cell? ⟨w20.heap.size, 4, none⟩ = some (.slice p81 l82 c83) ∧
 (∃ p84 l85 c86, w45.cell? ⟨w20.heap.size, 5, none⟩ = some (.slice p84 l85 c86) ∧
 (∃ p87 l88 c89, w45.cell? ⟨w20.heap.size, 6, none⟩ = some (.slice p87 l88 c89) ∧
 (∃ p90 l91 c92, w45.cell? ⟨w20.heap.size, 7, none⟩ = some (.slice p90 l91 c92) ∧
 (∃ (I93 : Int → World → Prop) (μ94 : Int → World → Nat), I93 0 w45 ∧ ∀ (_g95 : Nat → Value) (w96 : World) (n97 : Int), I93 n97 w96 →
 (Br (decide (n97 < 8)) (((0 : Int) ≤ n97 ∧ n97 < ((8 : Nat) : Int)) ∧ (∃ p98 l99 c100, Array.getD #[(.slice p69 l70 c71), (.slice p72 l73 c74), (.slice p75 l76 c77), (.slice p78 l79 c80), (.slice p81 l82 c83), (.slice p84 l85 c86), (.slice p87 l88 c89), (.slice p90 l91 c92)] (Int.toNat n97) undef = (.slice p98 l99 c100) ∧
 (Br (decide (((((l99 : Nat) : Int)) : Int) > 0)) (∀ w101, w101 = w96.drew → (Calls Tryz.prog 91 #[(.pointer (some ⟨q0, 0, none⟩)), (.int .i64 a3), (.slice p98 l99 c100)] w101 (fun e102 w103 =>
 ∃ v104, e102 = .returned v104 ∧ (((0 : Int) ≤ n97 ∧ n97 < ((8 : Nat) : Int)) ∧ (oneCells [v104] ∧
 (CanSet w103 w19.heap.size (5 + (Int.toNat n97)) ∧ (∀ w105, w105 = w103.setCell ⟨w19.heap.size, 5 + (Int.toNat n97), none⟩ v104 →
 (I93 (IntKind.i64.wrap (n97 + 1)) w105 ∧ μ94 (IntKind.i64.wrap (n97 + 1)) w105 < μ94 n97 w96)))))))) (I93 (IntKind.i64.wrap (n97 + 1)) w96 ∧
 μ94 (IntKind.i64.wrap (n97 + 1)) w96 < μ94 n97 w96)))) (R (.returned (.tuple #[(.pointer (some ⟨w19.heap.size, 0, none⟩)), (.int .i64 0)])) w96)))))))))))))))))))))))))) ∧
 (((0 : Int) ≤ (((a1l : Nat) : Int)) ∧ (((a1l : Nat) : Int)) ≤ (((a1l : Nat) : Int)) ∧ ((32 : Nat) : Int) * (((a1l : Nat) : Int)) ≤ 281474976710656 ∧
 (((a1l : Nat) : Int)) ≤ 9223372036854775807) ∧ (∀ w106, w106 = w15.alloc (.cells (madeCells #[(.int .i64 0), (.int .i64 0), .nilFunc, (.int .u32 0)] (((Int.toNat (((a1l : Nat) : Int)))) * 4)) 163) →
 (Calls Tryz.prog 27 #[(.pointer (some ⟨q0, 0, none⟩))] w106 (fun e107 w108 => ∃ n109, e107 = .returned (.int .i64 n109) ∧
 (∀ w110, w110 = w108.alloc (.cells #[(.pointer p2), (.pointer none), (.int .i64 n109), (.int .u32 (IntKind.u32.wrap a4)), .nilIface, .nilIface, .nilIface, .nilIface, .nilIface, .nilIface, .nilIface, .nilIface, .nilIface, (.slice (some ⟨w15.heap.size, 0, none⟩) ((Int.toNat (((a1l : Nat) : Int)))) ((Int.toNat (((a1l : Nat) : Int)))))] 55) →
 (∀ w111, w111 = w110.alloc (.cells #[(.slice none 0 0), (.slice none 0 0), (.slice none 0 0), (.slice none 0 0), (.slice none 0 0), (.slice none 0 0), (.slice none 0 0), (.slice none 0 0)] 158) →
 (∃ (I112 : Option Addr → Nat → Nat → Int → World → Prop) (μ113 : Option Addr → Nat → Nat → Int → World →
 Nat), I112 none 0 0 0 w111 ∧ ∀ (_g114 : Nat → Value) (w115 : World) (p116 : Option Addr) (l117 c118 : Nat) (n119 : Int), I112 p116 l117 c118 n119 w115 →
 (Br (decide (n119 < 8)) (Calls Tryz.prog 90 #[(.pointer (some ⟨q0, 0, none⟩)), (.int .i64 n119), (.int .u32 0)] w115 (fun e120 w121 =>
 ∃ n122, e120 = .returned (.int .i64 n122) ∧ (∀ w123, w123 = w121.alloc (.cells #[(.int .i64 n119)] 3) →
 (AppQ Tryz.prog #[22, 22] 22 #[(.slice p116 l117 c118), (.slice (some ⟨w121.heap.size, 0, none⟩) 1 1)] w123 (fun p124 l125 c126 w127 =>
 I112 p124 l125 c126 (IntKind.i64.wrap (n119 + 1)) w127 ∧ μ113 p124 l125 c126 (IntKind.i64.wrap (n119 + 1)) w127 < μ113 p116 l117 c118 n119 w115))))) (Calls Tryz.prog 91 #[(.pointer (some ⟨q0, 0, none⟩)), (.int .i64 a2), (.slice p116 l117 c118)] w115 (fun e128 w129 =>
 ∃ v130, e128 = .returned v130 ∧ (oneCells [v130] ∧ (CanSet w129 w108.heap.size 4 ∧ (∀ w131, w131 = w129.setCell ⟨w108.heap.size, 4, none⟩ v130 →
 (∃ (I132 : Int → World → Prop) (μ133 : Int → World → Nat), I132 0 w131 ∧ ∀ (_g134 : Nat → Value) (w135 : World) (n136 : Int), I132 n136 w135 →
 (Br (decide (n136 < (((a1l : Nat) : Int)))) (((0 : Int) ≤ n136 ∧ n136 < ((a1l : Nat) : Int)) ∧
 (PtrSome a1p (fun b137 o138 => ∃ n139, w135.cell? ⟨b137, o138 + (Int.toNat n136), none⟩ = some (.int .i64 n139) ∧
 (∀ w140, w140 = w135.drew → (∃ p141 l142 c143, w140.cell? ⟨w108.heap.size, 13, none⟩ = some (.slice p141 l142 c143) ∧
 (((0 : Int) ≤ n139 ∧ n139 < ((8 : Nat) : Int)) ∧ (∃ p144 l145 c146, w140.cell? ⟨w110.heap.size, 0 + (Int.toNat n139), none⟩ = some (.slice p144 l145 c146) ∧
 (((0 : Int) ≤ n136 ∧ n136 < ((l142 : Nat) : Int)) ∧ (PtrSome p141 (fun b147 o148 => oneCells [(.int .i64 n139), (.int .i64 (((l145 : Nat) : Int))), .nilFunc, (.int .u32 0)] ∧
 (w140.there b147 (o148 + ((Int.toNat n136)) * 4) 4 ∧ (∀ w149, w149 = w140.setCells b147 (o148 + ((Int.toNat n136)) * 4) [(.int .i64 n139), (.int .i64 (((l145 : Nat) : Int))), .nilFunc, (.int .u32 0)] →
 (((0 : Int) ≤ n139 ∧ n139 < ((8 : Nat) : Int)) ∧ (∃ p150 l151 c152, w149.cell? ⟨w110.heap.size, 0 + (Int.toNat n139), none⟩ = some (.slice p150 l151 c152) ∧
 (∀ w153, w153 = w149.alloc (.cells #[(.int .i64 n139)] 3) → (AppQ Tryz.prog #[22, 22] 22 #[(.slice p150 l151 c152), (.slice (some ⟨w149.heap.size, 0, none⟩) 1 1)] w153 (fun p154 l155 c156 w157 =>
 ((0 : Int) ≤ n139 ∧ n139 < ((8 : Nat) : Int)) ∧ (CanSet w157 w110.heap.size (0 + (Int.toNat n139)) ∧
 (∀ w158, w158 = w157.setCell ⟨w110.heap.size, 0 + (Int.toNat n139), none⟩ (.slice p154 l155 c156) →
 (I132 (IntKind.i64.wrap (n136 + 1)) w158 ∧ μ133 (IntKind.i64.wrap (n136 + 1)) w158 < μ133 n136 w135)))))))))))))))))))) (∃ p159 l160 c161, w135.cell? ⟨w110.heap.size, 0, none⟩ = some (.slice p159 l160 c161) ∧
 (∃ p162 l163 c164, w135.cell? ⟨w110.heap.size, 1, none⟩ = some (.slice p162 l163 c164) ∧
 (∃ p165 l166 c167, w135.cell? ⟨w110.heap.size, 2, none⟩ = some (.slice p165 l166 c167) ∧
 (∃ p168 l169 c170, w135.cell? ⟨w110.heap.size, 3, none⟩ = some (.slice p168 l169 c170) ∧
 (∃ p171 l172 c173, w135.cell? ⟨w110.heap.size, 4, none⟩ = some (.slice p171 l172 c173) ∧
 (∃ p174 l175 c176, w135.cell? ⟨w110.heap.size, 5, none⟩ = some (.slice p174 l175 c176) ∧
 (∃ p177 l178 c179, w135.cell? ⟨w110.heap.size, 6, none⟩ = some (.slice p177 l178 c179) ∧
 (∃ p180 l181 c182, w135.cell? ⟨w110.heap.size, 7, none⟩ = some (.slice p180 l181 c182) ∧
 (∃ (I183 : Int → World → Prop) (μ184 : Int → World → Nat), I183 0 w135 ∧ ∀ (_g185 : Nat → Value) (w186 : World) (n187 : Int), I183 n187 w186 →
 (Br (decide (n187 < 8)) (((0 : Int) ≤ n187 ∧ n187 < ((8 : Nat) : Int)) ∧ (∃ p188 l189 c190, Array.getD #[(.slice p159 l160 c161), (.slice p162 l163 c164), (.slice p165 l166 c167), (.slice p168 l169 c170), (.slice p171 l172 c173), (.slice p174 l175 c176), (.slice p177 l178 c179), (.slice p180 l181 c182)] (Int.toNat n187) undef = (.slice p188 l189 c190) ∧
 (Br (decide (((((l189 : Nat) : Int)) : Int) > 0)) (∀ w191, w191 = w186.drew → (Calls Tryz.prog 91 #[(.pointer (some ⟨q0, 0, none⟩)), (.int .i64 a3), (.slice p188 l189 c190)] w191 (fun e192 w193 =>
 ∃ v194, e192 = .returned v194 ∧ (((0 : Int) ≤ n187 ∧ n187 < ((8 : Nat) : Int)) ∧ (oneCells [v194] ∧
 (CanSet w193 w108.heap.size (5 + (Int.toNat n187)) ∧ (∀ w195, w195 = w193.setCell ⟨w108.heap.size, 5 + (Int.toNat n187), none⟩ v194 →
 (I183 (IntKind.i64.wrap (n187 + 1)) w195 ∧ μ184 (IntKind.i64.wrap (n187 + 1)) w195 < μ184 n187 w186)))))))) (I183 (IntKind.i64.wrap (n187 + 1)) w186 ∧
 μ184 (IntKind.i64.wrap (n187 + 1)) w186 < μ184 n187 w186)))) (R (.returned (.tuple #[(.pointer (some ⟨w108.heap.size, 0, none⟩)), (.int .i64 0)])) w186)))))))))))))))))))))))))))))))))))))))))))
theorem callsCohortNew (q0 : Nat) (a1p : Option Addr) (a1l a1c : Nat) (a2 a3 a4 : Int) (R : Ending → 
    World → Prop) (w : World) (h : preCohortNew q0 a1p a1l a1c a2 a3 a4 R w) : Calls Tryz.prog 25 #[(.pointer (some ⟨q0, 0, none⟩)), (.slice a1p a1l a1c), (.int .i64 a2), (.int .i64 a3), (.int .i64 a4)] w R :=
  calls_of_sym Tryz.func25 (c := bodyOf Tryz.f25) rfl (Eq.mpr (by kernel_rfl) h)

/-- weighlock/build.New -/
def preBuildNew (a0_0 : Int) (a0_1p : Option Addr) (a0_1l a0_1c : Nat) (a0_2 a0_3 : Int) (a0_4 a0_5 : Int) (a0_6 a0_7 : Int) (R : Ending → 
    World → Prop) (w : World) : Prop :=
  ∀ w0, w0 = w.alloc (.cells #[(.int .i64 a0_0), (.slice a0_1p a0_1l a0_1c), (.int .u32 a0_2), (.int .i64 a0_3), (.int .i64 a0_4), (.int .i64 a0_5), (.int .i64 a0_6), (.int .i64 a0_7)] 74) →
 (∃ p1 l2 c3, w0.cell? ⟨w.heap.size, 1, none⟩ = some (.slice p1 l2 c3) ∧ (Calls Tryz.prog 23 #[(.int .i64 (((l2 : Nat) : Int)))] w0 (fun e4 w5 =>
 ∃ p6, e4 = .returned (.pointer p6) ∧ (∃ n7, w5.cell? ⟨w.heap.size, 0, none⟩ = some (.int .i64 n7) ∧
 (∃ p8 l9 c10, w5.cell? ⟨w.heap.size, 1, none⟩ = some (.slice p8 l9 c10) ∧ (∃ n11, w5.cell? ⟨w.heap.size, 2, none⟩ = some (.int .u32 n11) ∧
 (∃ n12, w5.cell? ⟨w.heap.size, 3, none⟩ = some (.int .i64 n12) ∧ (∃ n13, w5.cell? ⟨w.heap.size, 4, none⟩ = some (.int .i64 n13) ∧
 (∃ n14, w5.cell? ⟨w.heap.size, 5, none⟩ = some (.int .i64 n14) ∧ (∃ n15, w5.cell? ⟨w.heap.size, 6, none⟩ = some (.int .i64 n15) ∧
 (∃ n16, w5.cell? ⟨w.heap.size, 7, none⟩ = some (.int .i64 n16) ∧ (Calls Tryz.prog 101 #[(.pointer p6), (.agg #[(.int .i64 n7), (.slice p8 l9 c10), (.int .u32 n11), (.int .i64 n12), (.int .i64 n13), (.int .i64 n14), (.int .i64 n15), (.int .i64 n16)])] w5 (fun e17 w18 =>
 ∃ v19 n20, e17 = .returned (.tuple #[v19, (.int .i64 n20)]) ∧ (Br (n20 != 0) (R (.returned (.tuple #[.nilIface, (.pointer none), (.int .i64 n20)])) w18) (Calls Tryz.prog 94 #[(.pointer p6)] w18 (fun e21 w22 =>
 ∃ p23 n24, e21 = .returned (.tuple #[(.pointer p23), (.int .i64 n24)]) ∧
 (Br (n24 != 0) (R (.returned (.tuple #[.nilIface, (.pointer none), (.int .i64 n24)])) w22) (Invoke Tryz.prog v19 "Use" #[(.pointer p23)] w22 (fun e25 w26 =>
 e25 = .returned (.tuple #[]) ∧ (R (.returned (.tuple #[v19, (.pointer p23), (.int .i64 0)])) w26))))))))))))))))))))
theorem callsBuildNew (a0_0 : Int) (a0_1p : Option Addr) (a0_1l a0_1c : Nat) (a0_2 a0_3 : Int) (a0_4 a0_5 : Int) (a0_6 a0_7 : Int) (R : Ending → 
    World → Prop) (w : World) (h : preBuildNew a0_0 a0_1p a0_1l a0_1c a0_2 a0_3 a0_4 a0_5 a0_6 a0_7 R w) : Calls Tryz.prog 41 #[(.agg #[(.int .i64 a0_0), (.slice a0_1p a0_1l a0_1c), (.int .u32 a0_2), (.int .i64 a0_3), (.int .i64 a0_4), (.int .i64 a0_5), (.int .i64 a0_6), (.int .i64 a0_7)])] w R :=
  calls_of_sym Tryz.func41 (c := bodyOf Tryz.f41) rfl (Eq.mpr (by kernel_rfl) h)

/-- weighlock/machine.New -/
def preMachineNew (a0_0 : Int) (a0_1p : Option Addr) (a0_1l a0_1c : Nat) (a0_2 a0_3 : Int) (a0_4 a0_5 : Int) (a0_6 a0_7 : Int) (R : Ending → 
    World → Prop) (w : World) : Prop :=
  ∀ w0, w0 = w.alloc (.cells #[(.int .i64 a0_0), (.slice a0_1p a0_1l a0_1c), (.int .u32 a0_2), (.int .i64 a0_3), (.int .i64 a0_4), (.int .i64 a0_5), (.int .i64 a0_6), (.int .i64 a0_7)] 74) →
 (∃ n1, w0.cell? ⟨w.heap.size, 0, none⟩ = some (.int .i64 n1) ∧ (∃ p2 l3 c4, w0.cell? ⟨w.heap.size, 1, none⟩ = some (.slice p2 l3 c4) ∧
 (∃ n5, w0.cell? ⟨w.heap.size, 2, none⟩ = some (.int .u32 n5) ∧ (∃ n6, w0.cell? ⟨w.heap.size, 3, none⟩ = some (.int .i64 n6) ∧
 (∃ n7, w0.cell? ⟨w.heap.size, 4, none⟩ = some (.int .i64 n7) ∧ (∃ n8, w0.cell? ⟨w.heap.size, 5, none⟩ = some (.int .i64 n8) ∧
 (∃ n9, w0.cell? ⟨w.heap.size, 6, none⟩ = some (.int .i64 n9) ∧ (∃ n10, w0.cell? ⟨w.heap.size, 7, none⟩ = some (.int .i64 n10) ∧
 (Calls Tryz.prog 41 #[(.agg #[(.int .i64 n1), (.slice p2 l3 c4), (.int .u32 n5), (.int .i64 n6), (.int .i64 n7), (.int .i64 n8), (.int .i64 n9), (.int .i64 n10)])] w0 (fun e11 w12 =>
 ∃ v13 p14 n15, e11 = .returned (.tuple #[v13, (.pointer p14), (.int .i64 n15)]) ∧
 (Br (n15 != 0) (R (.returned (.tuple #[(.pointer none), (.int .i64 n15)])) w12) (Invoke Tryz.prog v13 "Len" #[] w12 (fun e16 w17 =>
 ∃ n18, e16 = .returned (.int .i64 n18) ∧ (((0 : Int) ≤ n18 ∧ n18 ≤ n18 ∧ ((8 : Nat) : Int) * n18 ≤ 281474976710656 ∧
 n18 ≤ 9223372036854775807) ∧ (∀ w19, w19 = w17.alloc (.cells (madeCells #[(.int .i64 0)] ((Int.toNat n18))) 3) →
 (notAgg v13 = true ∧ (∀ w20, w20 = w19.alloc (.cells #[(.pointer p14), v13, (.slice none 0 0), (.int .i64 0), (.int .i64 0), (.slice (some ⟨w17.heap.size, 0, none⟩) ((Int.toNat n18)) ((Int.toNat n18)))] 115) →
 (R (.returned (.tuple #[(.pointer (some ⟨w19.heap.size, 0, none⟩)), (.int .i64 0)])) w20))))))))))))))))))
theorem callsMachineNew (a0_0 : Int) (a0_1p : Option Addr) (a0_1l a0_1c : Nat) (a0_2 a0_3 : Int) (a0_4 a0_5 : Int) (a0_6 a0_7 : Int) (R : Ending → 
    World → Prop) (w : World) (h : preMachineNew a0_0 a0_1p a0_1l a0_1c a0_2 a0_3 a0_4 a0_5 a0_6 a0_7 R w) : Calls Tryz.prog 51 #[(.agg #[(.int .i64 a0_0), (.slice a0_1p a0_1l a0_1c), (.int .u32 a0_2), (.int .i64 a0_3), (.int .i64 a0_4), (.int .i64 a0_5), (.int .i64 a0_6), (.int .i64 a0_7)])] w R :=
  calls_of_sym Tryz.func51 (c := bodyOf Tryz.f51) rfl (Eq.mpr (by kernel_rfl) h)

/-- (*weighlock/machine.Machine).Do -/
def preMachineMachineDo (q0 : Nat) (a1_0 a1_1 a1_2 : Int) (R : Ending → 
    World → Prop) (w : World) : Prop :=
  ∀ w0, w0 = w.alloc (.cells #[(.int .i64 a1_0), (.int .i64 a1_1), (.int .i64 a1_2)] 107) →
 (∃ n1, w0.cell? ⟨w.heap.size, 0, none⟩ = some (.int .i64 n1) ∧ (∃ n2, w0.cell? ⟨w.heap.size, 1, none⟩ = some (.int .i64 n2) ∧
 (∃ n3, w0.cell? ⟨w.heap.size, 2, none⟩ = some (.int .i64 n3) ∧ (Calls Tryz.prog 118 #[(.pointer (some ⟨q0, 0, none⟩)), (.agg #[(.int .i64 n1), (.int .i64 n2), (.int .i64 n3)])] w0 (fun e4 w5 =>
 ∃ b6, e4 = .returned (.bool b6) ∧ (Br (!b6) (∃ n7, w5.cell? ⟨q0, 4, none⟩ = some (.int .i64 n7) ∧
 (CanSet w5 q0 4 ∧ (∀ w8, w8 = w5.setCell ⟨q0, 4, none⟩ (.int .i64 (IntKind.i64.wrap (n7 + 1))) →
 (R (.returned (.bool b6)) w8)))) (R (.returned (.bool b6)) w5)))))))
theorem callsMachineMachineDo (q0 : Nat) (a1_0 a1_1 a1_2 : Int) (R : Ending → 
    World → Prop) (w : World) (h : preMachineMachineDo q0 a1_0 a1_1 a1_2 R w) : Calls Tryz.prog 52 #[(.pointer (some ⟨q0, 0, none⟩)), (.agg #[(.int .i64 a1_0), (.int .i64 a1_1), (.int .i64 a1_2)])] w R :=
  calls_of_sym Tryz.func52 (c := bodyOf Tryz.f52) rfl (Eq.mpr (by kernel_rfl) h)

/-- (*weighlock/machine.Machine).Len -/
def preMachineMachineLen (q0 : Nat) (R : Ending → World → Prop) (w : World) : Prop :=
  ∃ v0, w.cell? ⟨q0, 1, none⟩ = some v0 ∧
 (Invoke Tryz.prog v0 "Len" #[] w (fun e1 w2 => ∃ n3, e1 = .returned (.int .i64 n3) ∧
 (R (.returned (.int .i64 n3)) w2)))
theorem callsMachineMachineLen (q0 : Nat) (R : Ending → World → Prop) (w : World) (h : preMachineMachineLen q0 R w) : Calls Tryz.prog 53 #[(.pointer (some ⟨q0, 0, none⟩))] w R :=
  calls_of_sym Tryz.func53 (c := bodyOf Tryz.f53) rfl (Eq.mpr (by kernel_rfl) h)

/-- (*weighlock/machine.Machine).State -/
def preMachineMachineState (q0 : Nat) (a1 : Int) (R : Ending → 
    World → Prop) (w : World) : Prop :=
  ∃ v0, w.cell? ⟨q0, 1, none⟩ = some v0 ∧ (Invoke Tryz.prog v0 "State" #[(.int .i64 a1)] w (fun e1 w2 =>
 ∃ n3, e1 = .returned (.int .i64 n3) ∧ (R (.returned (.int .i64 n3)) w2)))
theorem callsMachineMachineState (q0 : Nat) (a1 : Int) (R : Ending → 
    World → Prop) (w : World) (h : preMachineMachineState q0 a1 R w) : Calls Tryz.prog 54 #[(.pointer (some ⟨q0, 0, none⟩)), (.int .i64 a1)] w R :=
  calls_of_sym Tryz.func54 (c := bodyOf Tryz.f54) rfl (Eq.mpr (by kernel_rfl) h)

/-- (*weighlock/machine.Machine).Trace -/
def preMachineMachineTrace (q0 : Nat) (R : Ending → World → 
    Prop) (w : World) : Prop :=
  ∃ p0 l1 c2, w.cell? ⟨q0, 2, none⟩ = some (.slice p0 l1 c2) ∧
 (Calls Tryz.prog 119 #[(.slice p0 l1 c2)] w (fun e3 w4 => ∃ p5 l6 c7, e3 = .returned (.slice p5 l6 c7) ∧
 (R (.returned (.slice p5 l6 c7)) w4)))
theorem callsMachineMachineTrace (q0 : Nat) (R : Ending → World → 
    Prop) (w : World) (h : preMachineMachineTrace q0 R w) : Calls Tryz.prog 55 #[(.pointer (some ⟨q0, 0, none⟩))] w R :=
  calls_of_sym Tryz.func55 (c := bodyOf Tryz.f55) rfl (Eq.mpr (by kernel_rfl) h)

/-- (*weighlock/machine.Machine).Now -/
def preMachineMachineNow (q0 : Nat) (R : Ending → World → Prop) (w : World) : Prop :=
  ∃ n0, w.cell? ⟨q0, 3, none⟩ = some (.int .i64 n0) ∧
 (R (.returned (.int .i64 n0)) w)
theorem callsMachineMachineNow (q0 : Nat) (R : Ending → World → Prop) (w : World) (h : preMachineMachineNow q0 R w) : Calls Tryz.prog 56 #[(.pointer (some ⟨q0, 0, none⟩))] w R :=
  calls_of_sym Tryz.func56 (c := bodyOf Tryz.f56) rfl (Eq.mpr (by kernel_rfl) h)

/-- (*weighlock/machine.Machine).Idle -/
def preMachineMachineIdle (q0 : Nat) (R : Ending → World → Prop) (w : World) : Prop :=
  ∃ n0, w.cell? ⟨q0, 4, none⟩ = some (.int .i64 n0) ∧
 (R (.returned (.int .i64 n0)) w)
theorem callsMachineMachineIdle (q0 : Nat) (R : Ending → World → Prop) (w : World) (h : preMachineMachineIdle q0 R w) : Calls Tryz.prog 57 #[(.pointer (some ⟨q0, 0, none⟩))] w R :=
  calls_of_sym Tryz.func57 (c := bodyOf Tryz.f57) rfl (Eq.mpr (by kernel_rfl) h)

/-- (*weighlock/machine.Machine).Run -/
def preMachineMachineRun (q0 : Nat) (a1p : Option Addr) (a1l a1c : Nat) (R : Ending → 
    World → Prop) (w : World) : Prop :=
  ∃ (I0 : Int → Int → World → Prop) (μ1 : Int → Int → World → Nat), I0 0 0 w ∧
 ∀ (_g2 : Nat → Value) (w3 : World) (n4 : Int) (n5 : Int), I0 n4 n5 w3 → (Br (decide (n5 < (((a1l : Nat) : Int)))) (((0 : Int) ≤ n5 ∧
 n5 < ((a1l : Nat) : Int)) ∧ (PtrSome a1p (fun b6 o7 => ∃ n8, w3.cell? ⟨b6, o7 + ((Int.toNat n5)) * 3, none⟩ = some (.int .i64 n8) ∧
 (∃ n9, w3.cell? ⟨b6, o7 + ((Int.toNat n5)) * 3 + 1, none⟩ = some (.int .i64 n9) ∧ (∃ n10, w3.cell? ⟨b6, o7 + ((Int.toNat n5)) * 3 + 2, none⟩ = some (.int .i64 n10) ∧
 (∀ w11, w11 = w3.alloc (.cells #[(.int .i64 0), (.int .i64 0), (.int .i64 0)] 107) → (w11.there w3.heap.size 0 3 ∧
 (∀ w12, w12 = w11.setCells w3.heap.size 0 [(.int .i64 n8), (.int .i64 n9), (.int .i64 n10)] →
 (∃ n13, w12.cell? ⟨w3.heap.size, 0, none⟩ = some (.int .i64 n13) ∧ (∃ n14, w12.cell? ⟨w3.heap.size, 1, none⟩ = some (.int .i64 n14) ∧
 (∃ n15, w12.cell? ⟨w3.heap.size, 2, none⟩ = some (.int .i64 n15) ∧ (Calls Tryz.prog 52 #[(.pointer (some ⟨q0, 0, none⟩)), (.agg #[(.int .i64 n13), (.int .i64 n14), (.int .i64 n15)])] w12 (fun e16 w17 =>
 ∃ b18, e16 = .returned (.bool b18) ∧ (Br b18 (I0 (IntKind.i64.wrap (n4 + 1)) (IntKind.i64.wrap (n5 + 1)) w17 ∧
 μ1 (IntKind.i64.wrap (n4 + 1)) (IntKind.i64.wrap (n5 + 1)) w17 < μ1 n4 n5 w3) (I0 n4 (IntKind.i64.wrap (n5 + 1)) w17 ∧
 μ1 n4 (IntKind.i64.wrap (n5 + 1)) w17 < μ1 n4 n5 w3))))))))))))))) (R (.returned (.int .i64 n4)) w3))
theorem callsMachineMachineRun (q0 : Nat) (a1p : Option Addr) (a1l a1c : Nat) (R : Ending → 
    World → Prop) (w : World) (h : preMachineMachineRun q0 a1p a1l a1c R w) : Calls Tryz.prog 58 #[(.pointer (some ⟨q0, 0, none⟩)), (.slice a1p a1l a1c)] w R :=
  calls_of_sym Tryz.func58 (c := bodyOf Tryz.f58) rfl (Eq.mpr (by kernel_rfl) h)

/-- (*weighlock/machine.Machine).Steps -/
def preMachineMachineSteps (q0 : Nat) (a1 : Int) (R : Ending → 
    World → Prop) (w : World) : Prop :=
  Br (decide ((a1 : Int) < 0)) (R (.returned (.int .i64 0)) w) (∃ p0 l1 c2, w.cell? ⟨q0, 5, none⟩ = some (.slice p0 l1 c2) ∧
 (Br (decide ((a1 : Int) ≥ (((l1 : Nat) : Int)))) (R (.returned (.int .i64 0)) w) (∃ p3 l4 c5, w.cell? ⟨q0, 5, none⟩ = some (.slice p3 l4 c5) ∧
 (((0 : Int) ≤ a1 ∧ a1 < ((l4 : Nat) : Int)) ∧ (PtrSome p3 (fun b6 o7 => ∃ n8, w.cell? ⟨b6, o7 + (Int.toNat a1), none⟩ = some (.int .i64 n8) ∧
 (R (.returned (.int .i64 n8)) w)))))))
theorem callsMachineMachineSteps (q0 : Nat) (a1 : Int) (R : Ending → 
    World → Prop) (w : World) (h : preMachineMachineSteps q0 a1 R w) : Calls Tryz.prog 65 #[(.pointer (some ⟨q0, 0, none⟩)), (.int .i64 a1)] w R :=
  calls_of_sym Tryz.func65 (c := bodyOf Tryz.f65) rfl (Eq.mpr (by kernel_rfl) h)

/-- (*weighlock/cohort.Lock).Step -/
def preCohortLockStep (q0 : Nat) (a1 a2 a3 : Int) (R : Ending → 
    World → Prop) (w : World) : Prop :=
  ∀ w0, w0 = w.alloc (.cells #[(.int .i64 0), (.bool false), (.bool false), (.bool false)] 86) →
 (∃ p1, w0.cell? ⟨q0, 0, none⟩ = some (.pointer p1) ∧ (Calls Tryz.prog 138 #[(.pointer p1), (.int .i64 a1)] w0 (fun e2 w3 =>
 ∃ n4, e2 = .returned (.int .i64 n4) ∧ (Br (n4 != 1) (Br (n4 != 3) (w3.there w.heap.size 0 4 ∧
 (∀ w5, w5 = w3.setCells w.heap.size 0 [(.int .i64 0), (.bool false), (.bool false), (.bool false)] →
 (∃ n6, w5.cell? ⟨w.heap.size, 0, none⟩ = some (.int .i64 n6) ∧ (∃ b7, w5.cell? ⟨w.heap.size, 1, none⟩ = some (.bool b7) ∧
 (∃ b8, w5.cell? ⟨w.heap.size, 2, none⟩ = some (.bool b8) ∧ (∃ b9, w5.cell? ⟨w.heap.size, 3, none⟩ = some (.bool b9) ∧
 (R (.returned (.agg #[(.int .i64 n6), (.bool b7), (.bool b8), (.bool b9)])) w5))))))) (∃ p10 l11 c12, w3.cell? ⟨q0, 13, none⟩ = some (.slice p10 l11 c12) ∧
 (((0 : Int) ≤ a1 ∧ a1 < ((l11 : Nat) : Int)) ∧ (PtrSome p10 (fun b13 o14 => ∃ v15, w3.cell? ⟨b13, o14 + ((Int.toNat a1)) * 4 + 2, none⟩ = some v15 ∧
 (isFuncV v15 = true ∧ (Br (isNilF v15) (Calls Tryz.prog 139 #[(.pointer (some ⟨q0, 0, none⟩)), (.pointer (some ⟨b13, o14 + ((Int.toNat a1)) * 4, none⟩)), (.int .i64 n4)] w3 (fun e16 w17 =>
 e16 = .returned (.tuple #[]) ∧ (∃ v18, w17.cell? ⟨b13, o14 + ((Int.toNat a1)) * 4 + 2, none⟩ = some v18 ∧
 (CallV Tryz.prog v18 [(.pointer (some ⟨q0, 0, none⟩)), (.pointer (some ⟨b13, o14 + ((Int.toNat a1)) * 4, none⟩)), (.int .i64 a2), (.int .i64 a3)] (fun e19 w20 =>
 ∃ n21 b22 b23 b24, e19 = .returned (.agg #[(.int .i64 n21), (.bool b22), (.bool b23), (.bool b24)]) ∧
 (∀ w25, w25 = w20.alloc (.cells #[(.int .i64 0), (.bool false), (.bool false), (.bool false)] 86) →
 (w25.there w20.heap.size 0 4 ∧ (∀ w26, w26 = w25.setCells w20.heap.size 0 [(.int .i64 n21), (.bool b22), (.bool b23), (.bool b24)] →
 (∀ w27, w27 = w26.drew → (∃ p28, w27.cell? ⟨q0, 0, none⟩ = some (.pointer p28) ∧
 (∃ n29, w27.cell? ⟨w20.heap.size, 0, none⟩ = some (.int .i64 n29) ∧ (Calls Tryz.prog 140 #[(.pointer p28), (.int .i64 a1), (.int .i64 n29)] w27 (fun e30 w31 =>
 ∃ b32, e30 = .returned (.bool b32) ∧ (Br b32 (oneCells [.nilFunc] ∧ (CanSet w31 b13 (o14 + ((Int.toNat a1)) * 4 + 2) ∧
 (∀ w33, w33 = w31.setCell ⟨b13, o14 + ((Int.toNat a1)) * 4 + 2, none⟩ .nilFunc → (∃ n34, w33.cell? ⟨w20.heap.size, 0, none⟩ = some (.int .i64 n34) ∧
 (∃ b35, w33.cell? ⟨w20.heap.size, 1, none⟩ = some (.bool b35) ∧ (∃ b36, w33.cell? ⟨w20.heap.size, 2, none⟩ = some (.bool b36) ∧
 (∃ b37, w33.cell? ⟨w20.heap.size, 3, none⟩ = some (.bool b37) ∧ (w33.there w.heap.size 0 4 ∧
 (∀ w38, w38 = w33.setCells w.heap.size 0 [(.int .i64 n34), (.bool b35), (.bool b36), (.bool b37)] →
 (∃ n39, w38.cell? ⟨w.heap.size, 0, none⟩ = some (.int .i64 n39) ∧ (∃ b40, w38.cell? ⟨w.heap.size, 1, none⟩ = some (.bool b40) ∧
 (∃ b41, w38.cell? ⟨w.heap.size, 2, none⟩ = some (.bool b41) ∧ (∃ b42, w38.cell? ⟨w.heap.size, 3, none⟩ = some (.bool b42) ∧
 (R (.returned (.agg #[(.int .i64 n39), (.bool b40), (.bool b41), (.bool b42)])) w38)))))))))))))) (∃ n43, w31.cell? ⟨w20.heap.size, 0, none⟩ = some (.int .i64 n43) ∧
 (∃ b44, w31.cell? ⟨w20.heap.size, 1, none⟩ = some (.bool b44) ∧ (∃ b45, w31.cell? ⟨w20.heap.size, 2, none⟩ = some (.bool b45) ∧
 (∃ b46, w31.cell? ⟨w20.heap.size, 3, none⟩ = some (.bool b46) ∧ (w31.there w.heap.size 0 4 ∧
 (∀ w47, w47 = w31.setCells w.heap.size 0 [(.int .i64 n43), (.bool b44), (.bool b45), (.bool b46)] →
 (∃ n48, w47.cell? ⟨w.heap.size, 0, none⟩ = some (.int .i64 n48) ∧ (∃ b49, w47.cell? ⟨w.heap.size, 1, none⟩ = some (.bool b49) ∧
 (∃ b50, w47.cell? ⟨w.heap.size, 2, none⟩ = some (.bool b50) ∧ (∃ b51, w47.cell? ⟨w.heap.size, 3, none⟩ = some (.bool b51) ∧
 (R (.returned (.agg #[(.int .i64 n48), (.bool b49), (.bool b50), (.bool b51)])) w47))))))))))))))))))))) w17)))) (∃ v52, w3.cell? ⟨b13, o14 + ((Int.toNat a1)) * 4 + 2, none⟩ = some v52 ∧
 (CallV Tryz.prog v52 [(.pointer (some ⟨q0, 0, none⟩)), (.pointer (some ⟨b13, o14 + ((Int.toNat a1)) * 4, none⟩)), (.int .i64 a2), (.int .i64 a3)] (fun e53 w54 =>
 ∃ n55 b56 b57 b58, e53 = .returned (.agg #[(.int .i64 n55), (.bool b56), (.bool b57), (.bool b58)]) ∧
 (∀ w59, w59 = w54.alloc (.cells #[(.int .i64 0), (.bool false), (.bool false), (.bool false)] 86) →
 (w59.there w54.heap.size 0 4 ∧ (∀ w60, w60 = w59.setCells w54.heap.size 0 [(.int .i64 n55), (.bool b56), (.bool b57), (.bool b58)] →
 (∀ w61, w61 = w60.drew → (∃ p62, w61.cell? ⟨q0, 0, none⟩ = some (.pointer p62) ∧
 (∃ n63, w61.cell? ⟨w54.heap.size, 0, none⟩ = some (.int .i64 n63) ∧ (Calls Tryz.prog 140 #[(.pointer p62), (.int .i64 a1), (.int .i64 n63)] w61 (fun e64 w65 =>
 ∃ b66, e64 = .returned (.bool b66) ∧ (Br b66 (oneCells [.nilFunc] ∧ (CanSet w65 b13 (o14 + ((Int.toNat a1)) * 4 + 2) ∧
 (∀ w67, w67 = w65.setCell ⟨b13, o14 + ((Int.toNat a1)) * 4 + 2, none⟩ .nilFunc → (∃ n68, w67.cell? ⟨w54.heap.size, 0, none⟩ = some (.int .i64 n68) ∧
 (∃ b69, w67.cell? ⟨w54.heap.size, 1, none⟩ = some (.bool b69) ∧ (∃ b70, w67.cell? ⟨w54.heap.size, 2, none⟩ = some (.bool b70) ∧
 (∃ b71, w67.cell? ⟨w54.heap.size, 3, none⟩ = some (.bool b71) ∧ (w67.there w.heap.size 0 4 ∧
 (∀ w72, w72 = w67.setCells w.heap.size 0 [(.int .i64 n68), (.bool b69), (.bool b70), (.bool b71)] →
 (∃ n73, w72.cell? ⟨w.heap.size, 0, none⟩ = some (.int .i64 n73) ∧ (∃ b74, w72.cell? ⟨w.heap.size, 1, none⟩ = some (.bool b74) ∧
 (∃ b75, w72.cell? ⟨w.heap.size, 2, none⟩ = some (.bool b75) ∧ (∃ b76, w72.cell? ⟨w.heap.size, 3, none⟩ = some (.bool b76) ∧
 (R (.returned (.agg #[(.int .i64 n73), (.bool b74), (.bool b75), (.bool b76)])) w72)))))))))))))) (∃ n77, w65.cell? ⟨w54.heap.size, 0, none⟩ = some (.int .i64 n77) ∧
 (∃ b78, w65.cell? ⟨w54.heap.size, 1, none⟩ = some (.bool b78) ∧ (∃ b79, w65.cell? ⟨w54.heap.size, 2, none⟩ = some (.bool b79) ∧
 (∃ b80, w65.cell? ⟨w54.heap.size, 3, none⟩ = some (.bool b80) ∧ (w65.there w.heap.size 0 4 ∧
 (∀ w81, w81 = w65.setCells w.heap.size 0 [(.int .i64 n77), (.bool b78), (.bool b79), (.bool b80)] →
 (∃ n82, w81.cell? ⟨w.heap.size, 0, none⟩ = some (.int .i64 n82) ∧ (∃ b83, w81.cell? ⟨w.heap.size, 1, none⟩ = some (.bool b83) ∧
 (∃ b84, w81.cell? ⟨w.heap.size, 2, none⟩ = some (.bool b84) ∧ (∃ b85, w81.cell? ⟨w.heap.size, 3, none⟩ = some (.bool b85) ∧
 (R (.returned (.agg #[(.int .i64 n82), (.bool b83), (.bool b84), (.bool b85)])) w81))))))))))))))))))))) w3))))))))) (∃ p86 l87 c88, w3.cell? ⟨q0, 13, none⟩ = some (.slice p86 l87 c88) ∧
 (((0 : Int) ≤ a1 ∧ a1 < ((l87 : Nat) : Int)) ∧ (PtrSome p86 (fun b89 o90 => ∃ v91, w3.cell? ⟨b89, o90 + ((Int.toNat a1)) * 4 + 2, none⟩ = some v91 ∧
 (isFuncV v91 = true ∧ (Br (isNilF v91) (Calls Tryz.prog 139 #[(.pointer (some ⟨q0, 0, none⟩)), (.pointer (some ⟨b89, o90 + ((Int.toNat a1)) * 4, none⟩)), (.int .i64 n4)] w3 (fun e92 w93 =>
 e92 = .returned (.tuple #[]) ∧ (∃ v94, w93.cell? ⟨b89, o90 + ((Int.toNat a1)) * 4 + 2, none⟩ = some v94 ∧
 (CallV Tryz.prog v94 [(.pointer (some ⟨q0, 0, none⟩)), (.pointer (some ⟨b89, o90 + ((Int.toNat a1)) * 4, none⟩)), (.int .i64 a2), (.int .i64 a3)] (fun e95 w96 =>
 ∃ n97 b98 b99 b100, e95 = .returned (.agg #[(.int .i64 n97), (.bool b98), (.bool b99), (.bool b100)]) ∧
 (∀ w101, w101 = w96.alloc (.cells #[(.int .i64 0), (.bool false), (.bool false), (.bool false)] 86) →
 (w101.there w96.heap.size 0 4 ∧ (∀ w102, w102 = w101.setCells w96.heap.size 0 [(.int .i64 n97), (.bool b98), (.bool b99), (.bool b100)] →
 (∀ w103, w103 = w102.drew → (∃ p104, w103.cell? ⟨q0, 0, none⟩ = some (.pointer p104) ∧
 (∃ n105, w103.cell? ⟨w96.heap.size, 0, none⟩ = some (.int .i64 n105) ∧ (Calls Tryz.prog 140 #[(.pointer p104), (.int .i64 a1), (.int .i64 n105)] w103 (fun e106 w107 =>
 ∃ b108, e106 = .returned (.bool b108) ∧ (Br b108 (oneCells [.nilFunc] ∧ (CanSet w107 b89 (o90 + ((Int.toNat a1)) * 4 + 2) ∧
 (∀ w109, w109 = w107.setCell ⟨b89, o90 + ((Int.toNat a1)) * 4 + 2, none⟩ .nilFunc → (∃ n110, w109.cell? ⟨w96.heap.size, 0, none⟩ = some (.int .i64 n110) ∧
 (∃ b111, w109.cell? ⟨w96.heap.size, 1, none⟩ = some (.bool b111) ∧ (∃ b112, w109.cell? ⟨w96.heap.size, 2, none⟩ = some (.bool b112) ∧
 (∃ b113, w109.cell? ⟨w96.heap.size, 3, none⟩ = some (.bool b113) ∧ (w109.there w.heap.size 0 4 ∧
 (∀ w114, w114 = w109.setCells w.heap.size 0 [(.int .i64 n110), (.bool b111), (.bool b112), (.bool b113)] →
 (∃ n115, w114.cell? ⟨w.heap.size, 0, none⟩ = some (.int .i64 n115) ∧ (∃ b116, w114.cell? ⟨w.heap.size, 1, none⟩ = some (.bool b116) ∧
 (∃ b117, w114.cell? ⟨w.heap.size, 2, none⟩ = some (.bool b117) ∧ (∃ b118, w114.cell? ⟨w.heap.size, 3, none⟩ = some (.bool b118) ∧
 (R (.returned (.agg #[(.int .i64 n115), (.bool b116), (.bool b117), (.bool b118)])) w114)))))))))))))) (∃ n119, w107.cell? ⟨w96.heap.size, 0, none⟩ = some (.int .i64 n119) ∧
 (∃ b120, w107.cell? ⟨w96.heap.size, 1, none⟩ = some (.bool b120) ∧ (∃ b121, w107.cell? ⟨w96.heap.size, 2, none⟩ = some (.bool b121) ∧
 (∃ b122, w107.cell? ⟨w96.heap.size, 3, none⟩ = some (.bool b122) ∧ (w107.there w.heap.size 0 4 ∧
 (∀ w123, w123 = w107.setCells w.heap.size 0 [(.int .i64 n119), (.bool b120), (.bool b121), (.bool b122)] →
 (∃ n124, w123.cell? ⟨w.heap.size, 0, none⟩ = some (.int .i64 n124) ∧ (∃ b125, w123.cell? ⟨w.heap.size, 1, none⟩ = some (.bool b125) ∧
 (∃ b126, w123.cell? ⟨w.heap.size, 2, none⟩ = some (.bool b126) ∧ (∃ b127, w123.cell? ⟨w.heap.size, 3, none⟩ = some (.bool b127) ∧
 (R (.returned (.agg #[(.int .i64 n124), (.bool b125), (.bool b126), (.bool b127)])) w123))))))))))))))))))))) w93)))) (∃ v128, w3.cell? ⟨b89, o90 + ((Int.toNat a1)) * 4 + 2, none⟩ = some v128 ∧
 (CallV Tryz.prog v128 [(.pointer (some ⟨q0, 0, none⟩)), (.pointer (some ⟨b89, o90 + ((Int.toNat a1)) * 4, none⟩)), (.int .i64 a2), (.int .i64 a3)] (fun e129 w130 =>
 ∃ n131 b132 b133 b134, e129 = .returned (.agg #[(.int .i64 n131), (.bool b132), (.bool b133), (.bool b134)]) ∧
 (∀ w135, w135 = w130.alloc (.cells #[(.int .i64 0), (.bool false), (.bool false), (.bool false)] 86) →
 (w135.there w130.heap.size 0 4 ∧ (∀ w136, w136 = w135.setCells w130.heap.size 0 [(.int .i64 n131), (.bool b132), (.bool b133), (.bool b134)] →
 (∀ w137, w137 = w136.drew → (∃ p138, w137.cell? ⟨q0, 0, none⟩ = some (.pointer p138) ∧
 (∃ n139, w137.cell? ⟨w130.heap.size, 0, none⟩ = some (.int .i64 n139) ∧ (Calls Tryz.prog 140 #[(.pointer p138), (.int .i64 a1), (.int .i64 n139)] w137 (fun e140 w141 =>
 ∃ b142, e140 = .returned (.bool b142) ∧ (Br b142 (oneCells [.nilFunc] ∧ (CanSet w141 b89 (o90 + ((Int.toNat a1)) * 4 + 2) ∧
 (∀ w143, w143 = w141.setCell ⟨b89, o90 + ((Int.toNat a1)) * 4 + 2, none⟩ .nilFunc → (∃ n144, w143.cell? ⟨w130.heap.size, 0, none⟩ = some (.int .i64 n144) ∧
 (∃ b145, w143.cell? ⟨w130.heap.size, 1, none⟩ = some (.bool b145) ∧ (∃ b146, w143.cell? ⟨w130.heap.size, 2, none⟩ = some (.bool b146) ∧
 (∃ b147, w143.cell? ⟨w130.heap.size, 3, none⟩ = some (.bool b147) ∧ (w143.there w.heap.size 0 4 ∧
 (∀ w148, w148 = w143.setCells w.heap.size 0 [(.int .i64 n144), (.bool b145), (.bool b146), (.bool b147)] →
 (∃ n149, w148.cell? ⟨w.heap.size, 0, none⟩ = some (.int .i64 n149) ∧ (∃ b150, w148.cell? ⟨w.heap.size, 1, none⟩ = some (.bool b150) ∧
 (∃ b151, w148.cell? ⟨w.heap.size, 2, none⟩ = some (.bool b151) ∧ (∃ b152, w148.cell? ⟨w.heap.size, 3, none⟩ = some (.bool b152) ∧
 (R (.returned (.agg #[(.int .i64 n149), (.bool b150), (.bool b151), (.bool b152)])) w148)))))))))))))) (∃ n153, w141.cell? ⟨w130.heap.size, 0, none⟩ = some (.int .i64 n153) ∧
 (∃ b154, w141.cell? ⟨w130.heap.size, 1, none⟩ = some (.bool b154) ∧ (∃ b155, w141.cell? ⟨w130.heap.size, 2, none⟩ = some (.bool b155) ∧
 (∃ b156, w141.cell? ⟨w130.heap.size, 3, none⟩ = some (.bool b156) ∧ (w141.there w.heap.size 0 4 ∧
 (∀ w157, w157 = w141.setCells w.heap.size 0 [(.int .i64 n153), (.bool b154), (.bool b155), (.bool b156)] →
 (∃ n158, w157.cell? ⟨w.heap.size, 0, none⟩ = some (.int .i64 n158) ∧ (∃ b159, w157.cell? ⟨w.heap.size, 1, none⟩ = some (.bool b159) ∧
 (∃ b160, w157.cell? ⟨w.heap.size, 2, none⟩ = some (.bool b160) ∧ (∃ b161, w157.cell? ⟨w.heap.size, 3, none⟩ = some (.bool b161) ∧
 (R (.returned (.agg #[(.int .i64 n158), (.bool b159), (.bool b160), (.bool b161)])) w157))))))))))))))))))))) w3))))))))))))
theorem callsCohortLockStep (q0 : Nat) (a1 a2 a3 : Int) (R : Ending → 
    World → Prop) (w : World) (h : preCohortLockStep q0 a1 a2 a3 R w) : Calls Tryz.prog 85 #[(.pointer (some ⟨q0, 0, none⟩)), (.int .i64 a1), (.int .i64 a2), (.int .i64 a3)] w R :=
  calls_of_sym Tryz.func85 (c := bodyOf Tryz.f85) rfl (Eq.mpr (by kernel_rfl) h)

/-- weighlock/cohort.New$1 -/
def preCohortNew1 (a0 : Int) (R : Ending → World → Prop) (w : World) : Prop :=
  Br (decide ((a0 : Int) < 0)) (R (.returned (.bool true)) w) (R (.returned (.bool (decide ((a0 : Int) ≥ 8)))) w)
theorem callsCohortNew1 (a0 : Int) (R : Ending → 
    World → Prop) (w : World) (h : preCohortNew1 a0 R w) : Calls Tryz.prog 88 #[(.int .i64 a0)] w R :=
  calls_of_sym Tryz.func88 (c := bodyOf Tryz.f88) rfl (Eq.mpr (by kernel_rfl) h)

/-- weighlock/cohort.inner -/
def preCohortInner (q0 : Nat) (a1 : Int) (a2p : Option Addr) (a2l a2c : Nat) (R : Ending → 
    World → Prop) (w : World) : Prop :=
  Br ((a1 : Int) == 1) (Calls Tryz.prog 143 #[(.pointer (some ⟨q0, 0, none⟩)), (.slice a2p a2l a2c), (.int .u32 0)] w (fun e0 w1 =>
 ∃ p2 n3, e0 = .returned (.tuple #[(.pointer p2), (.int .i64 n3)]) ∧ (R (.returned (.iface 249 (.pointer p2))) w1))) (Br ((a1 : Int) == 3) (Calls Tryz.prog 144 #[(.pointer (some ⟨q0, 0, none⟩)), (.slice a2p a2l a2c)] w (fun e4 w5 =>
 ∃ p6 n7, e4 = .returned (.tuple #[(.pointer p6), (.int .i64 n7)]) ∧ (R (.returned (.iface 252 (.pointer p6))) w5))) (Calls Tryz.prog 145 #[(.pointer (some ⟨q0, 0, none⟩)), (.slice a2p a2l a2c)] w (fun e8 w9 =>
 ∃ p10 n11, e8 = .returned (.tuple #[(.pointer p10), (.int .i64 n11)]) ∧
 (R (.returned (.iface 255 (.pointer p10))) w9))))
theorem callsCohortInner (q0 : Nat) (a1 : Int) (a2p : Option Addr) (a2l a2c : Nat) (R : Ending → 
    World → Prop) (w : World) (h : preCohortInner q0 a1 a2p a2l a2c R w) : Calls Tryz.prog 91 #[(.pointer (some ⟨q0, 0, none⟩)), (.int .i64 a1), (.slice a2p a2l a2c)] w R :=
  calls_of_sym Tryz.func91 (c := bodyOf Tryz.f91) rfl (Eq.mpr (by kernel_rfl) h)

/-- (*weighlock/cohort.Lock).Use -/
def preCohortLockUse (q0 : Nat) (q1 : Nat) (R : Ending → World → 
    Prop) (w : World) : Prop :=
  CanSet w q0 1 ∧ (∀ w0, w0 = w.setCell ⟨q0, 1, none⟩ (.pointer (some ⟨q1, 0, none⟩)) →
 (∃ v1, w0.cell? ⟨q0, 4, none⟩ = some v1 ∧ (Invoke Tryz.prog v1 "Use" #[(.pointer (some ⟨q1, 0, none⟩))] w0 (fun e2 w3 =>
 e2 = .returned (.tuple #[]) ∧ (∃ v4, w3.cell? ⟨q0, 5, none⟩ = some v4 ∧ (∃ v5, w3.cell? ⟨q0, 6, none⟩ = some v5 ∧
 (∃ v6, w3.cell? ⟨q0, 7, none⟩ = some v6 ∧ (∃ v7, w3.cell? ⟨q0, 8, none⟩ = some v7 ∧
 (∃ v8, w3.cell? ⟨q0, 9, none⟩ = some v8 ∧ (∃ v9, w3.cell? ⟨q0, 10, none⟩ = some v9 ∧
 (∃ v10, w3.cell? ⟨q0, 11, none⟩ = some v10 ∧ (∃ v11, w3.cell? ⟨q0, 12, none⟩ = some v11 ∧
 (∃ (I12 : Int → World → Prop) (μ13 : Int → World → Nat), I12 0 w3 ∧ ∀ (_g14 : Nat → Value) (w15 : World) (n16 : Int), I12 n16 w15 →
 (Br (decide (n16 < 8)) (((0 : Int) ≤ n16 ∧ n16 < ((8 : Nat) : Int)) ∧ (∃ v17, Array.getD #[v4, v5, v6, v7, v8, v9, v10, v11] (Int.toNat n16) undef = v17 ∧
 (isIfaceV v17 = true ∧ (Br (!(isNilI v17)) (Invoke Tryz.prog v17 "Use" #[(.pointer (some ⟨q1, 0, none⟩))] w15 (fun e18 w19 =>
 e18 = .returned (.tuple #[]) ∧ (I12 (IntKind.i64.wrap (n16 + 1)) w19 ∧ μ13 (IntKind.i64.wrap (n16 + 1)) w19 < μ13 n16 w15))) (I12 (IntKind.i64.wrap (n16 + 1)) w15 ∧
 μ13 (IntKind.i64.wrap (n16 + 1)) w15 < μ13 n16 w15))))) (R (.returned (.tuple #[])) w15)))))))))))))))
theorem callsCohortLockUse (q0 : Nat) (q1 : Nat) (R : Ending → 
    World → Prop) (w : World) (h : preCohortLockUse q0 q1 R w) : Calls Tryz.prog 95 #[(.pointer (some ⟨q0, 0, none⟩)), (.pointer (some ⟨q1, 0, none⟩))] w R :=
  calls_of_sym Tryz.func95 (c := bodyOf Tryz.f95) rfl (Eq.mpr (by kernel_rfl) h)

/-- weighlock/build.lay -/
def preBuildLay (q0 : Nat) (a1_0 : Int) (a1_1p : Option Addr) (a1_1l a1_1c : Nat) (a1_2 a1_3 : Int) (a1_4 a1_5 : Int) (a1_6 a1_7 : Int) (R : Ending → 
    World → Prop) (w : World) : Prop :=
  ∀ w0, w0 = w.alloc (.cells #[(.int .i64 a1_0), (.slice a1_1p a1_1l a1_1c), (.int .u32 a1_2), (.int .i64 a1_3), (.int .i64 a1_4), (.int .i64 a1_5), (.int .i64 a1_6), (.int .i64 a1_7)] 74) →
 (∃ n1, w0.cell? ⟨w.heap.size, 0, none⟩ = some (.int .i64 n1) ∧ (Br (n1 == 1) (∃ p2 l3 c4, w0.cell? ⟨w.heap.size, 1, none⟩ = some (.slice p2 l3 c4) ∧
 (∃ n5, w0.cell? ⟨w.heap.size, 2, none⟩ = some (.int .u32 n5) ∧ (Calls Tryz.prog 143 #[(.pointer (some ⟨q0, 0, none⟩)), (.slice p2 l3 c4), (.int .u32 n5)] w0 (fun e6 w7 =>
 ∃ p8 n9, e6 = .returned (.tuple #[(.pointer p8), (.int .i64 n9)]) ∧ (R (.returned (.tuple #[(.iface 249 (.pointer p8)), (.int .i64 n9)])) w7))))) (Br (n1 == 2) (∃ p10 l11 c12, w0.cell? ⟨w.heap.size, 1, none⟩ = some (.slice p10 l11 c12) ∧
 (∃ n13, w0.cell? ⟨w.heap.size, 3, none⟩ = some (.int .i64 n13) ∧ (∃ n14, w0.cell? ⟨w.heap.size, 2, none⟩ = some (.int .u32 n14) ∧
 (Calls Tryz.prog 154 #[(.pointer (some ⟨q0, 0, none⟩)), (.slice p10 l11 c12), (.int .i64 n13), (.int .u32 n14)] w0 (fun e15 w16 =>
 ∃ p17 n18, e15 = .returned (.tuple #[(.pointer p17), (.int .i64 n18)]) ∧
 (R (.returned (.tuple #[(.iface 263 (.pointer p17)), (.int .i64 n18)])) w16)))))) (Br (n1 == 3) (∃ p19 l20 c21, w0.cell? ⟨w.heap.size, 1, none⟩ = some (.slice p19 l20 c21) ∧
 (Calls Tryz.prog 144 #[(.pointer (some ⟨q0, 0, none⟩)), (.slice p19 l20 c21)] w0 (fun e22 w23 =>
 ∃ p24 n25, e22 = .returned (.tuple #[(.pointer p24), (.int .i64 n25)]) ∧
 (R (.returned (.tuple #[(.iface 252 (.pointer p24)), (.int .i64 n25)])) w23)))) (Br (n1 == 4) (∃ p26 l27 c28, w0.cell? ⟨w.heap.size, 1, none⟩ = some (.slice p26 l27 c28) ∧
 (Calls Tryz.prog 145 #[(.pointer (some ⟨q0, 0, none⟩)), (.slice p26 l27 c28)] w0 (fun e29 w30 =>
 ∃ p31 n32, e29 = .returned (.tuple #[(.pointer p31), (.int .i64 n32)]) ∧
 (R (.returned (.tuple #[(.iface 255 (.pointer p31)), (.int .i64 n32)])) w30)))) (Br (n1 == 5) (∃ p33 l34 c35, w0.cell? ⟨w.heap.size, 1, none⟩ = some (.slice p33 l34 c35) ∧
 (∃ n36, w0.cell? ⟨w.heap.size, 4, none⟩ = some (.int .i64 n36) ∧ (Calls Tryz.prog 155 #[(.pointer (some ⟨q0, 0, none⟩)), (.slice p33 l34 c35), (.int .i64 n36)] w0 (fun e37 w38 =>
 ∃ p39 n40, e37 = .returned (.tuple #[(.pointer p39), (.int .i64 n40)]) ∧
 (R (.returned (.tuple #[(.iface 266 (.pointer p39)), (.int .i64 n40)])) w38))))) (Br (n1 == 6) (∃ p41 l42 c43, w0.cell? ⟨w.heap.size, 1, none⟩ = some (.slice p41 l42 c43) ∧
 (Calls Tryz.prog 156 #[(.pointer (some ⟨q0, 0, none⟩)), (.slice p41 l42 c43)] w0 (fun e44 w45 =>
 ∃ p46 n47, e44 = .returned (.tuple #[(.pointer p46), (.int .i64 n47)]) ∧
 (R (.returned (.tuple #[(.iface 269 (.pointer p46)), (.int .i64 n47)])) w45)))) (Br (n1 == 7) (∃ p48 l49 c50, w0.cell? ⟨w.heap.size, 1, none⟩ = some (.slice p48 l49 c50) ∧
 (∃ n51, w0.cell? ⟨w.heap.size, 6, none⟩ = some (.int .i64 n51) ∧ (∃ n52, w0.cell? ⟨w.heap.size, 7, none⟩ = some (.int .i64 n52) ∧
 (∃ n53, w0.cell? ⟨w.heap.size, 5, none⟩ = some (.int .i64 n53) ∧ (Calls Tryz.prog 25 #[(.pointer (some ⟨q0, 0, none⟩)), (.slice p48 l49 c50), (.int .i64 n51), (.int .i64 n52), (.int .i64 n53)] w0 (fun e54 w55 =>
 ∃ p56 n57, e54 = .returned (.tuple #[(.pointer p56), (.int .i64 n57)]) ∧
 (R (.returned (.tuple #[(.iface 30 (.pointer p56)), (.int .i64 n57)])) w55))))))) (R (.returned (.tuple #[.nilIface, (.int .i64 7)])) w0)))))))))
theorem callsBuildLay (q0 : Nat) (a1_0 : Int) (a1_1p : Option Addr) (a1_1l a1_1c : Nat) (a1_2 a1_3 : Int) (a1_4 a1_5 : Int) (a1_6 a1_7 : Int) (R : Ending → 
    World → Prop) (w : World) (h : preBuildLay q0 a1_0 a1_1p a1_1l a1_1c a1_2 a1_3 a1_4 a1_5 a1_6 a1_7 R w) : Calls Tryz.prog 101 #[(.pointer (some ⟨q0, 0, none⟩)), (.agg #[(.int .i64 a1_0), (.slice a1_1p a1_1l a1_1c), (.int .u32 a1_2), (.int .i64 a1_3), (.int .i64 a1_4), (.int .i64 a1_5), (.int .i64 a1_6), (.int .i64 a1_7)])] w R :=
  calls_of_sym Tryz.func101 (c := bodyOf Tryz.f101) rfl (Eq.mpr (by kernel_rfl) h)

/-- slices.Clone[[]int,int] -/
def preSlicesCloneIntInt (a0p : Option Addr) (a0l a0c : Nat) (R : Ending → 
    World → Prop) (w : World) : Prop :=
  BinOpaque Tryz.prog .eql 22 (.tmp 3) (.const (.slice none 0 0)) (.slice a0p a0l a0c) (.slice none 0 0) (fun b0 =>
 Br b0 (R (.returned (.slice none 0 0)) w) (∀ w1, w1 = w.alloc (.cells #[] 3) → (AppQ Tryz.prog #[22, 22] 22 #[(.slice (some ⟨w.heap.size, 0, none⟩) 0 0), (.slice a0p a0l a0c)] w1 (fun p2 l3 c4 w5 =>
 R (.returned (.slice p2 l3 c4)) w5))))
theorem callsSlicesCloneIntInt (a0p : Option Addr) (a0l a0c : Nat) (R : Ending → 
    World → Prop) (w : World) (h : preSlicesCloneIntInt a0p a0l a0c R w) : Calls Tryz.prog 104 #[(.slice a0p a0l a0c)] w R :=
  calls_of_sym Tryz.func104 (c := bodyOf Tryz.f104) rfl (Eq.mpr (by kernel_rfl) h)

/-- (*weighlock/machine.Machine).do -/
def preMachineMachine_do (q0 : Nat) (a1_0 a1_1 a1_2 : Int) (R : Ending → 
    World → Prop) (w : World) : Prop :=
  ∀ w0, w0 = w.alloc (.cells #[(.int .i64 a1_0), (.int .i64 a1_1), (.int .i64 a1_2)] 107) →
 (∃ n1, w0.cell? ⟨w.heap.size, 0, none⟩ = some (.int .i64 n1) ∧ (Br (n1 == 1) (∃ n2, w0.cell? ⟨w.heap.size, 1, none⟩ = some (.int .i64 n2) ∧
 (Calls Tryz.prog 162 #[(.pointer (some ⟨q0, 0, none⟩)), (.int .i64 n2)] w0 (fun e3 w4 =>
 ∃ b5, e3 = .returned (.bool b5) ∧ (R (.returned (.bool b5)) w4)))) (Br (n1 == 2) (Calls Tryz.prog 163 #[(.pointer (some ⟨q0, 0, none⟩))] w0 (fun e6 w7 =>
 ∃ b8, e6 = .returned (.bool b8) ∧ (R (.returned (.bool b8)) w7))) (Br (n1 == 3) (∃ n9, w0.cell? ⟨w.heap.size, 1, none⟩ = some (.int .i64 n9) ∧
 (∃ n10, w0.cell? ⟨w.heap.size, 2, none⟩ = some (.int .i64 n10) ∧ (Calls Tryz.prog 164 #[(.pointer (some ⟨q0, 0, none⟩)), (.int .i64 n9), (.int .i64 n10)] w0 (fun e11 w12 =>
 ∃ b13, e11 = .returned (.bool b13) ∧ (R (.returned (.bool b13)) w12))))) (Br (n1 == 4) (∀ w14, w14 = w0.drew →
 (∃ v15, w14.cell? ⟨q0, 1, none⟩ = some v15 ∧ (∃ n16, w14.cell? ⟨w.heap.size, 1, none⟩ = some (.int .i64 n16) ∧
 (Invoke Tryz.prog v15 "Unlock" #[(.int .i64 n16)] w14 (fun e17 w18 => ∃ n19, e17 = .returned (.int .i64 n19) ∧
 (Br (n19 != 0) (R (.returned (.bool false)) w18) (∃ n20, w18.cell? ⟨w.heap.size, 1, none⟩ = some (.int .i64 n20) ∧
 (Calls Tryz.prog 165 #[(.pointer (some ⟨q0, 0, none⟩)), (.int .i64 6), (.int .i64 n20)] w18 (fun e21 w22 =>
 e21 = .returned (.tuple #[]) ∧ (R (.returned (.bool true)) w22)))))))))) (R (.returned (.bool false)) w0))))))
theorem callsMachineMachine_do (q0 : Nat) (a1_0 a1_1 a1_2 : Int) (R : Ending → 
    World → Prop) (w : World) (h : preMachineMachine_do q0 a1_0 a1_1 a1_2 R w) : Calls Tryz.prog 118 #[(.pointer (some ⟨q0, 0, none⟩)), (.agg #[(.int .i64 a1_0), (.int .i64 a1_1), (.int .i64 a1_2)])] w R :=
  calls_of_sym Tryz.func118 (c := bodyOf Tryz.f118) rfl (Eq.mpr (by kernel_rfl) h)

/-- slices.Clone[[]weighlock/trace.Entry,weighlock/trace.Entry] -/
def preSlicesCloneTraceEntryTraceEntry (a0p : Option Addr) (a0l a0c : Nat) (R : Ending → 
    World → Prop) (w : World) : Prop :=
  BinOpaque Tryz.prog .eql 110 (.tmp 3) (.const (.slice none 0 0)) (.slice a0p a0l a0c) (.slice none 0 0) (fun b0 =>
 Br b0 (R (.returned (.slice none 0 0)) w) (∀ w1, w1 = w.alloc (.cells #[] 113) → (AppQ Tryz.prog #[110, 110] 110 #[(.slice (some ⟨w.heap.size, 0, none⟩) 0 0), (.slice a0p a0l a0c)] w1 (fun p2 l3 c4 w5 =>
 R (.returned (.slice p2 l3 c4)) w5))))
theorem callsSlicesCloneTraceEntryTraceEntry (a0p : Option Addr) (a0l a0c : Nat) (R : Ending → 
    World → Prop) (w : World) (h : preSlicesCloneTraceEntryTraceEntry a0p a0l a0c R w) : Calls Tryz.prog 119 #[(.slice a0p a0l a0c)] w R :=
  calls_of_sym Tryz.func119 (c := bodyOf Tryz.f119) rfl (Eq.mpr (by kernel_rfl) h)

/-- (*weighlock/cohort.Lock).begin -/
def preCohortLock_begin (q0 : Nat) (q1 qo1 : Nat) (a2 : Int) (R : Ending → 
    World → Prop) (w : World) : Prop :=
  Br ((a2 : Int) == 3) (oneCells [(.func (.func 177) #[] #[])] ∧
 (CanSet w q1 (qo1 + 2) ∧ (∀ w0, w0 = w.setCell ⟨q1, qo1 + 2, none⟩ (.func (.func 177) #[] #[]) →
 (R (.returned (.tuple #[])) w0)))) (∀ w1, w1 = w.drew → (∃ n2, w1.cell? ⟨q1, qo1, none⟩ = some (.int .i64 n2) ∧
 (((0 : Int) ≤ n2 ∧ n2 < ((8 : Nat) : Int)) ∧ (∃ v3, w1.cell? ⟨q0, 5 + (Int.toNat n2), none⟩ = some v3 ∧
 (∃ n4, w1.cell? ⟨q1, qo1 + 1, none⟩ = some (.int .i64 n4) ∧ (RawIf v3 (fun ty5 iv6 => Invoke Tryz.prog (Value.iface ty5 iv6) "Lock" #[(.int .i64 n4), (.int .i64 ((-1)))] w1 (fun e7 w8 =>
 ∃ n9, e7 = .returned (.int .i64 n9) ∧ (oneCells [(.func (.func 178) #[] #[])] ∧ (CanSet w8 q1 (qo1 + 2) ∧
 (∀ w10, w10 = w8.setCell ⟨q1, qo1 + 2, none⟩ (.func (.func 178) #[] #[]) → (R (.returned (.tuple #[])) w10))))))))))))
theorem callsCohortLock_begin (q0 : Nat) (q1 qo1 : Nat) (a2 : Int) (R : Ending → 
    World → Prop) (w : World) (h : preCohortLock_begin q0 q1 qo1 a2 R w) : Calls Tryz.prog 139 #[(.pointer (some ⟨q0, 0, none⟩)), (.pointer (some ⟨q1, qo1, none⟩)), (.int .i64 a2)] w R :=
  calls_of_sym Tryz.func139 (c := bodyOf Tryz.f139) rfl (Eq.mpr (by kernel_rfl) h)

/-- (*weighlock/machine.Machine).step -/
def preMachineMachine_step (q0 : Nat) (a1 : Int) (R : Ending → 
    World → Prop) (w : World) : Prop :=
  ∃ v0, w.cell? ⟨q0, 1, none⟩ = some v0 ∧ (Invoke Tryz.prog v0 "State" #[(.int .i64 a1)] w (fun e1 w2 =>
 ∃ n3, e1 = .returned (.int .i64 n3) ∧ (Br (n3 != 1) (Br (n3 != 3) (R (.returned (.bool false)) w2) (∃ p4 l5 c6, w2.cell? ⟨q0, 5, none⟩ = some (.slice p4 l5 c6) ∧
 (((0 : Int) ≤ a1 ∧ a1 < ((l5 : Nat) : Int)) ∧ (PtrSome p4 (fun b7 o8 => ∃ n9, w2.cell? ⟨b7, o8 + (Int.toNat a1), none⟩ = some (.int .i64 n9) ∧
 (((0 : Int) ≤ a1 ∧ a1 < ((l5 : Nat) : Int)) ∧ (PtrSome p4 (fun b10 o11 => CanSet w2 b10 (o11 + (Int.toNat a1)) ∧
 (∀ w12, w12 = w2.setCell ⟨b10, o11 + (Int.toNat a1), none⟩ (.int .i64 (IntKind.i64.wrap (n9 + 1))) →
 (∀ w13, w13 = w12.drew → (∃ v14, w13.cell? ⟨q0, 1, none⟩ = some v14 ∧ (∃ n15, w13.cell? ⟨q0, 3, none⟩ = some (.int .i64 n15) ∧
 (RawIf v14 (fun ty16 iv17 => (Invoke Tryz.prog (Value.iface ty16 iv17) "Step" #[(.int .i64 a1), (.int .i64 a1), (.int .i64 n15)] w13 (fun e18 w19 =>
 ∃ n20 b21 b22 b23, e18 = .returned (.agg #[(.int .i64 n20), (.bool b21), (.bool b22), (.bool b23)]) ∧
 (∀ w24, w24 = w19.alloc (.cells #[(.int .i64 0), (.bool false), (.bool false), (.bool false)] 86) →
 (w24.there w19.heap.size 0 4 ∧ (∀ w25, w25 = w24.setCells w19.heap.size 0 [(.int .i64 n20), (.bool b21), (.bool b22), (.bool b23)] →
 (∃ b26, w25.cell? ⟨w19.heap.size, 1, none⟩ = some (.bool b26) ∧ (Br b26 (Calls Tryz.prog 165 #[(.pointer (some ⟨q0, 0, none⟩)), (.int .i64 2), (.int .i64 a1)] w25 (fun e27 w28 =>
 e27 = .returned (.tuple #[]) ∧ (∃ b29, w28.cell? ⟨w19.heap.size, 2, none⟩ = some (.bool b29) ∧
 (Br b29 (Calls Tryz.prog 165 #[(.pointer (some ⟨q0, 0, none⟩)), (.int .i64 3), (.int .i64 a1)] w28 (fun e30 w31 =>
 e30 = .returned (.tuple #[]) ∧ (∃ n32, w31.cell? ⟨w19.heap.size, 0, none⟩ = some (.int .i64 n32) ∧
 (Br (n32 == 1) (Calls Tryz.prog 165 #[(.pointer (some ⟨q0, 0, none⟩)), (.int .i64 4), (.int .i64 a1)] w31 (fun e33 w34 =>
 e33 = .returned (.tuple #[]) ∧ (∀ w35, w35 = w34.drew → (∃ p36 l37 c38, w35.cell? ⟨q0, 2, none⟩ = some (.slice p36 l37 c38) ∧
 (∃ p39 l40 c41, w35.cell? ⟨q0, 2, none⟩ = some (.slice p39 l40 c41) ∧ (∃ b42, w35.cell? ⟨w19.heap.size, 3, none⟩ = some (.bool b42) ∧
 (((0 : Int) ≤ (IntKind.i64.wrap ((((l40 : Nat) : Int)) - 1)) ∧ (IntKind.i64.wrap ((((l40 : Nat) : Int)) - 1)) < ((l37 : Nat) : Int)) ∧
 (PtrSome p36 (fun b43 o44 => CanSet w35 b43 (o44 + ((Int.toNat (IntKind.i64.wrap ((((l40 : Nat) : Int)) - 1)))) * 4 + 3) ∧
 (∀ w45, w45 = w35.setCell ⟨b43, o44 + ((Int.toNat (IntKind.i64.wrap ((((l40 : Nat) : Int)) - 1)))) * 4 + 3, none⟩ (.bool b42) →
 (R (.returned (.bool true)) w45))))))))))) (Br (n32 == 2) (Calls Tryz.prog 165 #[(.pointer (some ⟨q0, 0, none⟩)), (.int .i64 5), (.int .i64 a1)] w31 (fun e46 w47 =>
 e46 = .returned (.tuple #[]) ∧ (R (.returned (.bool true)) w47))) (Br (n32 == 6) (Calls Tryz.prog 165 #[(.pointer (some ⟨q0, 0, none⟩)), (.int .i64 8), (.int .i64 a1)] w31 (fun e48 w49 =>
 e48 = .returned (.tuple #[]) ∧ (R (.returned (.bool true)) w49))) (Br (n32 == 3) (Calls Tryz.prog 165 #[(.pointer (some ⟨q0, 0, none⟩)), (.int .i64 7), (.int .i64 a1)] w31 (fun e50 w51 =>
 e50 = .returned (.tuple #[]) ∧ (R (.returned (.bool true)) w51))) (R (.returned (.bool true)) w31)))))))) (∃ n52, w28.cell? ⟨w19.heap.size, 0, none⟩ = some (.int .i64 n52) ∧
 (Br (n52 == 1) (Calls Tryz.prog 165 #[(.pointer (some ⟨q0, 0, none⟩)), (.int .i64 4), (.int .i64 a1)] w28 (fun e53 w54 =>
 e53 = .returned (.tuple #[]) ∧ (∀ w55, w55 = w54.drew → (∃ p56 l57 c58, w55.cell? ⟨q0, 2, none⟩ = some (.slice p56 l57 c58) ∧
 (∃ p59 l60 c61, w55.cell? ⟨q0, 2, none⟩ = some (.slice p59 l60 c61) ∧ (∃ b62, w55.cell? ⟨w19.heap.size, 3, none⟩ = some (.bool b62) ∧
 (((0 : Int) ≤ (IntKind.i64.wrap ((((l60 : Nat) : Int)) - 1)) ∧ (IntKind.i64.wrap ((((l60 : Nat) : Int)) - 1)) < ((l57 : Nat) : Int)) ∧
 (PtrSome p56 (fun b63 o64 => CanSet w55 b63 (o64 + ((Int.toNat (IntKind.i64.wrap ((((l60 : Nat) : Int)) - 1)))) * 4 + 3) ∧
 (∀ w65, w65 = w55.setCell ⟨b63, o64 + ((Int.toNat (IntKind.i64.wrap ((((l60 : Nat) : Int)) - 1)))) * 4 + 3, none⟩ (.bool b62) →
 (R (.returned (.bool true)) w65))))))))))) (Br (n52 == 2) (Calls Tryz.prog 165 #[(.pointer (some ⟨q0, 0, none⟩)), (.int .i64 5), (.int .i64 a1)] w28 (fun e66 w67 =>
 e66 = .returned (.tuple #[]) ∧ (R (.returned (.bool true)) w67))) (Br (n52 == 6) (Calls Tryz.prog 165 #[(.pointer (some ⟨q0, 0, none⟩)), (.int .i64 8), (.int .i64 a1)] w28 (fun e68 w69 =>
 e68 = .returned (.tuple #[]) ∧ (R (.returned (.bool true)) w69))) (Br (n52 == 3) (Calls Tryz.prog 165 #[(.pointer (some ⟨q0, 0, none⟩)), (.int .i64 7), (.int .i64 a1)] w28 (fun e70 w71 =>
 e70 = .returned (.tuple #[]) ∧ (R (.returned (.bool true)) w71))) (R (.returned (.bool true)) w28)))))))))) (∃ b72, w25.cell? ⟨w19.heap.size, 2, none⟩ = some (.bool b72) ∧
 (Br b72 (Calls Tryz.prog 165 #[(.pointer (some ⟨q0, 0, none⟩)), (.int .i64 3), (.int .i64 a1)] w25 (fun e73 w74 =>
 e73 = .returned (.tuple #[]) ∧ (∃ n75, w74.cell? ⟨w19.heap.size, 0, none⟩ = some (.int .i64 n75) ∧
 (Br (n75 == 1) (Calls Tryz.prog 165 #[(.pointer (some ⟨q0, 0, none⟩)), (.int .i64 4), (.int .i64 a1)] w74 (fun e76 w77 =>
 e76 = .returned (.tuple #[]) ∧ (∀ w78, w78 = w77.drew → (∃ p79 l80 c81, w78.cell? ⟨q0, 2, none⟩ = some (.slice p79 l80 c81) ∧
 (∃ p82 l83 c84, w78.cell? ⟨q0, 2, none⟩ = some (.slice p82 l83 c84) ∧ (∃ b85, w78.cell? ⟨w19.heap.size, 3, none⟩ = some (.bool b85) ∧
 (((0 : Int) ≤ (IntKind.i64.wrap ((((l83 : Nat) : Int)) - 1)) ∧ (IntKind.i64.wrap ((((l83 : Nat) : Int)) - 1)) < ((l80 : Nat) : Int)) ∧
 (PtrSome p79 (fun b86 o87 => CanSet w78 b86 (o87 + ((Int.toNat (IntKind.i64.wrap ((((l83 : Nat) : Int)) - 1)))) * 4 + 3) ∧
 (∀ w88, w88 = w78.setCell ⟨b86, o87 + ((Int.toNat (IntKind.i64.wrap ((((l83 : Nat) : Int)) - 1)))) * 4 + 3, none⟩ (.bool b85) →
 (R (.returned (.bool true)) w88))))))))))) (Br (n75 == 2) (Calls Tryz.prog 165 #[(.pointer (some ⟨q0, 0, none⟩)), (.int .i64 5), (.int .i64 a1)] w74 (fun e89 w90 =>
 e89 = .returned (.tuple #[]) ∧ (R (.returned (.bool true)) w90))) (Br (n75 == 6) (Calls Tryz.prog 165 #[(.pointer (some ⟨q0, 0, none⟩)), (.int .i64 8), (.int .i64 a1)] w74 (fun e91 w92 =>
 e91 = .returned (.tuple #[]) ∧ (R (.returned (.bool true)) w92))) (Br (n75 == 3) (Calls Tryz.prog 165 #[(.pointer (some ⟨q0, 0, none⟩)), (.int .i64 7), (.int .i64 a1)] w74 (fun e93 w94 =>
 e93 = .returned (.tuple #[]) ∧ (R (.returned (.bool true)) w94))) (R (.returned (.bool true)) w74)))))))) (∃ n95, w25.cell? ⟨w19.heap.size, 0, none⟩ = some (.int .i64 n95) ∧
 (Br (n95 == 1) (Calls Tryz.prog 165 #[(.pointer (some ⟨q0, 0, none⟩)), (.int .i64 4), (.int .i64 a1)] w25 (fun e96 w97 =>
 e96 = .returned (.tuple #[]) ∧ (∀ w98, w98 = w97.drew → (∃ p99 l100 c101, w98.cell? ⟨q0, 2, none⟩ = some (.slice p99 l100 c101) ∧
 (∃ p102 l103 c104, w98.cell? ⟨q0, 2, none⟩ = some (.slice p102 l103 c104) ∧ (∃ b105, w98.cell? ⟨w19.heap.size, 3, none⟩ = some (.bool b105) ∧
 (((0 : Int) ≤ (IntKind.i64.wrap ((((l103 : Nat) : Int)) - 1)) ∧ (IntKind.i64.wrap ((((l103 : Nat) : Int)) - 1)) < ((l100 : Nat) : Int)) ∧
 (PtrSome p99 (fun b106 o107 => CanSet w98 b106 (o107 + ((Int.toNat (IntKind.i64.wrap ((((l103 : Nat) : Int)) - 1)))) * 4 + 3) ∧
 (∀ w108, w108 = w98.setCell ⟨b106, o107 + ((Int.toNat (IntKind.i64.wrap ((((l103 : Nat) : Int)) - 1)))) * 4 + 3, none⟩ (.bool b105) →
 (R (.returned (.bool true)) w108))))))))))) (Br (n95 == 2) (Calls Tryz.prog 165 #[(.pointer (some ⟨q0, 0, none⟩)), (.int .i64 5), (.int .i64 a1)] w25 (fun e109 w110 =>
 e109 = .returned (.tuple #[]) ∧ (R (.returned (.bool true)) w110))) (Br (n95 == 6) (Calls Tryz.prog 165 #[(.pointer (some ⟨q0, 0, none⟩)), (.int .i64 8), (.int .i64 a1)] w25 (fun e111 w112 =>
 e111 = .returned (.tuple #[]) ∧ (R (.returned (.bool true)) w112))) (Br (n95 == 3) (Calls Tryz.prog 165 #[(.pointer (some ⟨q0, 0, none⟩)), (.int .i64 7), (.int .i64 a1)] w25 (fun e113 w114 =>
 e113 = .returned (.tuple #[]) ∧ (R (.returned (.bool true)) w114))) (R (.returned (.bool true)) w25))))))))))))))) ∧
 (∀ w115, w115 = w13.alloc (.cells #[(.int .i64 0), (.bool false), (.bool false), (.bool false)] 86) →
 ((w115.cell? ⟨q0, 3, none⟩ = some (.int .i64 n15)) ∧ ((w115.cell? ⟨q0, 1, none⟩ = some v14) ∧ (Invoke Tryz.prog (Value.iface ty16 iv17) "Step" #[(.int .i64 a1), (.int .i64 a1), (.int .i64 n15)] w115 (fun e116 w117 =>
 ∃ n118 b119 b120 b121, e116 = .returned (.agg #[(.int .i64 n118), (.bool b119), (.bool b120), (.bool b121)]) ∧
 (w117.there w13.heap.size 0 4 ∧ (∀ w122, w122 = w117.setCells w13.heap.size 0 [(.int .i64 n118), (.bool b119), (.bool b120), (.bool b121)] →
 (∃ b123, w122.cell? ⟨w13.heap.size, 1, none⟩ = some (.bool b123) ∧ (Br b123 (Calls Tryz.prog 165 #[(.pointer (some ⟨q0, 0, none⟩)), (.int .i64 2), (.int .i64 a1)] w122 (fun e124 w125 =>
 e124 = .returned (.tuple #[]) ∧ (∃ b126, w125.cell? ⟨w13.heap.size, 2, none⟩ = some (.bool b126) ∧
 (Br b126 (Calls Tryz.prog 165 #[(.pointer (some ⟨q0, 0, none⟩)), (.int .i64 3), (.int .i64 a1)] w125 (fun e127 w128 =>
 e127 = .returned (.tuple #[]) ∧ (∃ n129, w128.cell? ⟨w13.heap.size, 0, none⟩ = some (.int .i64 n129) ∧
 (Br (n129 == 1) (Calls Tryz.prog 165 #[(.pointer (some ⟨q0, 0, none⟩)), (.int .i64 4), (.int .i64 a1)] w128 (fun e130 w131 =>
 e130 = .returned (.tuple #[]) ∧ (∀ w132, w132 = w131.drew → (∃ p133 l134 c135, w132.cell? ⟨q0, 2, none⟩ = some (.slice p133 l134 c135) ∧
 (∃ p136 l137 c138, w132.cell? ⟨q0, 2, none⟩ = some (.slice p136 l137 c138) ∧
 (∃ b139, w132.cell? ⟨w13.heap.size, 3, none⟩ = some (.bool b139) ∧ (((0 : Int) ≤ (IntKind.i64.wrap ((((l137 : Nat) : Int)) - 1)) ∧
 (IntKind.i64.wrap ((((l137 : Nat) : Int)) - 1)) < ((l134 : Nat) : Int)) ∧ (PtrSome p133 (fun b140 o141 =>
 CanSet w132 b140 (o141 + ((Int.toNat (IntKind.i64.wrap ((((l137 : Nat) : Int)) - 1)))) * 4 + 3) ∧ (∀ w142, w142 = w132.setCell ⟨b140, o141 + ((Int.toNat (IntKind.i64.wrap ((((l137 : Nat) : Int)) - 1)))) * 4 + 3, none⟩ (.bool b139) →
 (R (.returned (.bool true)) w142))))))))))) (Br (n129 == 2) (Calls Tryz.prog 165 #[(.pointer (some ⟨q0, 0, none⟩)), (.int .i64 5), (.int .i64 a1)] w128 (fun e143 w144 =>
 e143 = .returned (.tuple #[]) ∧ (R (.returned (.bool true)) w144))) (Br (n129 == 6) (Calls Tryz.prog 165 #[(.pointer (some ⟨q0, 0, none⟩)), (.int .i64 8), (.int .i64 a1)] w128 (fun e145 w146 =>
 e145 = .returned (.tuple #[]) ∧ (R (.returned (.bool true)) w146))) (Br (n129 == 3) (Calls Tryz.prog 165 #[(.pointer (some ⟨q0, 0, none⟩)), (.int .i64 7), (.int .i64 a1)] w128 (fun e147 w148 =>
 e147 = .returned (.tuple #[]) ∧ (R (.returned (.bool true)) w148))) (R (.returned (.bool true)) w128)))))))) (∃ n149, w125.cell? ⟨w13.heap.size, 0, none⟩ = some (.int .i64 n149) ∧
 (Br (n149 == 1) (Calls Tryz.prog 165 #[(.pointer (some ⟨q0, 0, none⟩)), (.int .i64 4), (.int .i64 a1)] w125 (fun e150 w151 =>
 e150 = .returned (.tuple #[]) ∧ (∀ w152, w152 = w151.drew → (∃ p153 l154 c155, w152.cell? ⟨q0, 2, none⟩ = some (.slice p153 l154 c155) ∧
 (∃ p156 l157 c158, w152.cell? ⟨q0, 2, none⟩ = some (.slice p156 l157 c158) ∧
 (∃ b159, w152.cell? ⟨w13.heap.size, 3, none⟩ = some (.bool b159) ∧ (((0 : Int) ≤ (IntKind.i64.wrap ((((l157 : Nat) : Int)) - 1)) ∧
 (IntKind.i64.wrap ((((l157 : Nat) : Int)) - 1)) < ((l154 : Nat) : Int)) ∧ (PtrSome p153 (fun b160 o161 =>
 CanSet w152 b160 (o161 + ((Int.toNat (IntKind.i64.wrap ((((l157 : Nat) : Int)) - 1)))) * 4 + 3) ∧ (∀ w162, w162 = w152.setCell ⟨b160, o161 + ((Int.toNat (IntKind.i64.wrap ((((l157 : Nat) : Int)) - 1)))) * 4 + 3, none⟩ (.bool b159) →
 (R (.returned (.bool true)) w162))))))))))) (Br (n149 == 2) (Calls Tryz.prog 165 #[(.pointer (some ⟨q0, 0, none⟩)), (.int .i64 5), (.int .i64 a1)] w125 (fun e163 w164 =>
 e163 = .returned (.tuple #[]) ∧ (R (.returned (.bool true)) w164))) (Br (n149 == 6) (Calls Tryz.prog 165 #[(.pointer (some ⟨q0, 0, none⟩)), (.int .i64 8), (.int .i64 a1)] w125 (fun e165 w166 =>
 e165 = .returned (.tuple #[]) ∧ (R (.returned (.bool true)) w166))) (Br (n149 == 3) (Calls Tryz.prog 165 #[(.pointer (some ⟨q0, 0, none⟩)), (.int .i64 7), (.int .i64 a1)] w125 (fun e167 w168 =>
 e167 = .returned (.tuple #[]) ∧ (R (.returned (.bool true)) w168))) (R (.returned (.bool true)) w125)))))))))) (∃ b169, w122.cell? ⟨w13.heap.size, 2, none⟩ = some (.bool b169) ∧
 (Br b169 (Calls Tryz.prog 165 #[(.pointer (some ⟨q0, 0, none⟩)), (.int .i64 3), (.int .i64 a1)] w122 (fun e170 w171 =>
 e170 = .returned (.tuple #[]) ∧ (∃ n172, w171.cell? ⟨w13.heap.size, 0, none⟩ = some (.int .i64 n172) ∧
 (Br (n172 == 1) (Calls Tryz.prog 165 #[(.pointer (some ⟨q0, 0, none⟩)), (.int .i64 4), (.int .i64 a1)] w171 (fun e173 w174 =>
 e173 = .returned (.tuple #[]) ∧ (∀ w175, w175 = w174.drew → (∃ p176 l177 c178, w175.cell? ⟨q0, 2, none⟩ = some (.slice p176 l177 c178) ∧
 (∃ p179 l180 c181, w175.cell? ⟨q0, 2, none⟩ = some (.slice p179 l180 c181) ∧
 (∃ b182, w175.cell? ⟨w13.heap.size, 3, none⟩ = some (.bool b182) ∧ (((0 : Int) ≤ (IntKind.i64.wrap ((((l180 : Nat) : Int)) - 1)) ∧
 (IntKind.i64.wrap ((((l180 : Nat) : Int)) - 1)) < ((l177 : Nat) : Int)) ∧ (PtrSome p176 (fun b183 o184 =>
 CanSet w175 b183 (o184 + ((Int.toNat (IntKind.i64.wrap ((((l180 : Nat) : Int)) - 1)))) * 4 + 3) ∧ (∀ w185, w185 = w175.setCell ⟨b183, o184 + ((Int.toNat (IntKind.i64.wrap ((((l180 : Nat) : Int)) - 1)))) * 4 + 3, none⟩ (.bool b182) →
 (R (.returned (.bool true)) w185))))))))))) (Br (n172 == 2) (Calls Tryz.prog 165 #[(.pointer (some ⟨q0, 0, none⟩)), (.int .i64 5), (.int .i64 a1)] w171 (fun e186 w187 =>
 e186 = .returned (.tuple #[]) ∧ (R (.returned (.bool true)) w187))) (Br (n172 == 6) (Calls Tryz.prog 165 #[(.pointer (some ⟨q0, 0, none⟩)), (.int .i64 8), (.int .i64 a1)] w171 (fun e188 w189 =>
 e188 = .returned (.tuple #[]) ∧ (R (.returned (.bool true)) w189))) (Br (n172 == 3) (Calls Tryz.prog 165 #[(.pointer (some ⟨q0, 0, none⟩)), (.int .i64 7), (.int .i64 a1)] w171 (fun e190 w191 =>
 e190 = .returned (.tuple #[]) ∧ (R (.returned (.bool true)) w191))) (R (.returned (.bool true)) w171)))))))) (∃ n192, w122.cell? ⟨w13.heap.size, 0, none⟩ = some (.int .i64 n192) ∧
 (Br (n192 == 1) (Calls Tryz.prog 165 #[(.pointer (some ⟨q0, 0, none⟩)), (.int .i64 4), (.int .i64 a1)] w122 (fun e193 w194 =>
 e193 = .returned (.tuple #[]) ∧ (∀ w195, w195 = w194.drew → (∃ p196 l197 c198, w195.cell? ⟨q0, 2, none⟩ = some (.slice p196 l197 c198) ∧
 (∃ p199 l200 c201, w195.cell? ⟨q0, 2, none⟩ = some (.slice p199 l200 c201) ∧
 (∃ b202, w195.cell? ⟨w13.heap.size, 3, none⟩ = some (.bool b202) ∧ (((0 : Int) ≤ (IntKind.i64.wrap ((((l200 : Nat) : Int)) - 1)) ∧
 (IntKind.i64.wrap ((((l200 : Nat) : Int)) - 1)) < ((l197 : Nat) : Int)) ∧ (PtrSome p196 (fun b203 o204 =>
 CanSet w195 b203 (o204 + ((Int.toNat (IntKind.i64.wrap ((((l200 : Nat) : Int)) - 1)))) * 4 + 3) ∧ (∀ w205, w205 = w195.setCell ⟨b203, o204 + ((Int.toNat (IntKind.i64.wrap ((((l200 : Nat) : Int)) - 1)))) * 4 + 3, none⟩ (.bool b202) →
 (R (.returned (.bool true)) w205))))))))))) (Br (n192 == 2) (Calls Tryz.prog 165 #[(.pointer (some ⟨q0, 0, none⟩)), (.int .i64 5), (.int .i64 a1)] w122 (fun e206 w207 =>
 e206 = .returned (.tuple #[]) ∧ (R (.returned (.bool true)) w207))) (Br (n192 == 6) (Calls Tryz.prog 165 #[(.pointer (some ⟨q0, 0, none⟩)), (.int .i64 8), (.int .i64 a1)] w122 (fun e208 w209 =>
 e208 = .returned (.tuple #[]) ∧ (R (.returned (.bool true)) w209))) (Br (n192 == 3) (Calls Tryz.prog 165 #[(.pointer (some ⟨q0, 0, none⟩)), (.int .i64 7), (.int .i64 a1)] w122 (fun e210 w211 =>
 e210 = .returned (.tuple #[]) ∧ (R (.returned (.bool true)) w211))) (R (.returned (.bool true)) w122))))))))))))))))))))))))))))))) (∃ p212 l213 c214, w2.cell? ⟨q0, 5, none⟩ = some (.slice p212 l213 c214) ∧
 (((0 : Int) ≤ a1 ∧ a1 < ((l213 : Nat) : Int)) ∧ (PtrSome p212 (fun b215 o216 => ∃ n217, w2.cell? ⟨b215, o216 + (Int.toNat a1), none⟩ = some (.int .i64 n217) ∧
 (((0 : Int) ≤ a1 ∧ a1 < ((l213 : Nat) : Int)) ∧ (PtrSome p212 (fun b218 o219 => CanSet w2 b218 (o219 + (Int.toNat a1)) ∧
 (∀ w220, w220 = w2.setCell ⟨b218, o219 + (Int.toNat a1), none⟩ (.int .i64 (IntKind.i64.wrap (n217 + 1))) →
 (∀ w221, w221 = w220.drew → (∃ v222, w221.cell? ⟨q0, 1, none⟩ = some v222 ∧ (∃ n223, w221.cell? ⟨q0, 3, none⟩ = some (.int .i64 n223) ∧
 (RawIf v222 (fun ty224 iv225 => (Invoke Tryz.prog (Value.iface ty224 iv225) "Step" #[(.int .i64 a1), (.int .i64 a1), (.int .i64 n223)] w221 (fun e226 w227 =>
 ∃ n228 b229 b230 b231, e226 = .returned (.agg #[(.int .i64 n228), (.bool b229), (.bool b230), (.bool b231)]) ∧
 (∀ w232, w232 = w227.alloc (.cells #[(.int .i64 0), (.bool false), (.bool false), (.bool false)] 86) →
 (w232.there w227.heap.size 0 4 ∧ (∀ w233, w233 = w232.setCells w227.heap.size 0 [(.int .i64 n228), (.bool b229), (.bool b230), (.bool b231)] →
 (∃ b234, w233.cell? ⟨w227.heap.size, 1, none⟩ = some (.bool b234) ∧ (Br b234 (Calls Tryz.prog 165 #[(.pointer (some ⟨q0, 0, none⟩)), (.int .i64 2), (.int .i64 a1)] w233 (fun e235 w236 =>
 e235 = .returned (.tuple #[]) ∧ (∃ b237, w236.cell? ⟨w227.heap.size, 2, none⟩ = some (.bool b237) ∧
 (Br b237 (Calls Tryz.prog 165 #[(.pointer (some ⟨q0, 0, none⟩)), (.int .i64 3), (.int .i64 a1)] w236 (fun e238 w239 =>
 e238 = .returned (.tuple #[]) ∧ (∃ n240, w239.cell? ⟨w227.heap.size, 0, none⟩ = some (.int .i64 n240) ∧
 (Br (n240 == 1) (Calls Tryz.prog 165 #[(.pointer (some ⟨q0, 0, none⟩)), (.int .i64 4), (.int .i64 a1)] w239 (fun e241 w242 =>
 e241 = .returned (.tuple #[]) ∧ (∀ w243, w243 = w242.drew → (∃ p244 l245 c246, w243.cell? ⟨q0, 2, none⟩ = some (.slice p244 l245 c246) ∧
 (∃ p247 l248 c249, w243.cell? ⟨q0, 2, none⟩ = some (.slice p247 l248 c249) ∧
 (∃ b250, w243.cell? ⟨w227.heap.size, 3, none⟩ = some (.bool b250) ∧ (((0 : Int) ≤ (IntKind.i64.wrap ((((l248 : Nat) : Int)) - 1)) ∧
 (IntKind.i64.wrap ((((l248 : Nat) : Int)) - 1)) < ((l245 : Nat) : Int)) ∧ (PtrSome p244 (fun b251 o252 =>
 CanSet w243 b251 (o252 + ((Int.toNat (IntKind.i64.wrap ((((l248 : Nat) : Int)) - 1)))) * 4 + 3) ∧ (∀ w253, w253 = w243.setCell ⟨b251, o252 + ((Int.toNat (IntKind.i64.wrap ((((l248 : Nat) : Int)) - 1)))) * 4 + 3, none⟩ (.bool b250) →
 (R (.returned (.bool true)) w253))))))))))) (Br (n240 == 2) (Calls Tryz.prog 165 #[(.pointer (some ⟨q0, 0, none⟩)), (.int .i64 5), (.int .i64 a1)] w239 (fun e254 w255 =>
 e254 = .returned (.tuple #[]) ∧ (R (.returned (.bool true)) w255))) (Br (n240 == 6) (Calls Tryz.prog 165 #[(.pointer (some ⟨q0, 0, none⟩)), (.int .i64 8), (.int .i64 a1)] w239 (fun e256 w257 =>
 e256 = .returned (.tuple #[]) ∧ (R (.returned (.bool true)) w257))) (Br (n240 == 3) (Calls Tryz.prog 165 #[(.pointer (some ⟨q0, 0, none⟩)), (.int .i64 7), (.int .i64 a1)] w239 (fun e258 w259 =>
 e258 = .returned (.tuple #[]) ∧ (R (.returned (.bool true)) w259))) (R (.returned (.bool true)) w239)))))))) (∃ n260, w236.cell? ⟨w227.heap.size, 0, none⟩ = some (.int .i64 n260) ∧
 (Br (n260 == 1) (Calls Tryz.prog 165 #[(.pointer (some ⟨q0, 0, none⟩)), (.int .i64 4), (.int .i64 a1)] w236 (fun e261 w262 =>
 e261 = .returned (.tuple #[]) ∧ (∀ w263, w263 = w262.drew → (∃ p264 l265 c266, w263.cell? ⟨q0, 2, none⟩ = some (.slice p264 l265 c266) ∧
 (∃ p267 l268 c269, w263.cell? ⟨q0, 2, none⟩ = some (.slice p267 l268 c269) ∧
 (∃ b270, w263.cell? ⟨w227.heap.size, 3, none⟩ = some (.bool b270) ∧ (((0 : Int) ≤ (IntKind.i64.wrap ((((l268 : Nat) : Int)) - 1)) ∧
 (IntKind.i64.wrap ((((l268 : Nat) : Int)) - 1)) < ((l265 : Nat) : Int)) ∧ (PtrSome p264 (fun b271 o272 =>
 CanSet w263 b271 (o272 + ((Int.toNat (IntKind.i64.wrap ((((l268 : Nat) : Int)) - 1)))) * 4 + 3) ∧ (∀ w273, w273 = w263.setCell ⟨b271, o272 + ((Int.toNat (IntKind.i64.wrap ((((l268 : Nat) : Int)) - 1)))) * 4 + 3, none⟩ (.bool b270) →
 (R (.returned (.bool true)) w273))))))))))) (Br (n260 == 2) (Calls Tryz.prog 165 #[(.pointer (some ⟨q0, 0, none⟩)), (.int .i64 5), (.int .i64 a1)] w236 (fun e274 w275 =>
 e274 = .returned (.tuple #[]) ∧ (R (.returned (.bool true)) w275))) (Br (n260 == 6) (Calls Tryz.prog 165 #[(.pointer (some ⟨q0, 0, none⟩)), (.int .i64 8), (.int .i64 a1)] w236 (fun e276 w277 =>
 e276 = .returned (.tuple #[]) ∧ (R (.returned (.bool true)) w277))) (Br (n260 == 3) (Calls Tryz.prog 165 #[(.pointer (some ⟨q0, 0, none⟩)), (.int .i64 7), (.int .i64 a1)] w236 (fun e278 w279 =>
 e278 = .returned (.tuple #[]) ∧ (R (.returned (.bool true)) w279))) (R (.returned (.bool true)) w236)))))))))) (∃ b280, w233.cell? ⟨w227.heap.size, 2, none⟩ = some (.bool b280) ∧
 (Br b280 (Calls Tryz.prog 165 #[(.pointer (some ⟨q0, 0, none⟩)), (.int .i64 3), (.int .i64 a1)] w233 (fun e281 w282 =>
 e281 = .returned (.tuple #[]) ∧ (∃ n283, w282.cell? ⟨w227.heap.size, 0, none⟩ = some (.int .i64 n283) ∧
 (Br (n283 == 1) (Calls Tryz.prog 165 #[(.pointer (some ⟨q0, 0, none⟩)), (.int .i64 4), (.int .i64 a1)] w282 (fun e284 w285 =>
 e284 = .returned (.tuple #[]) ∧ (∀ w286, w286 = w285.drew → (∃ p287 l288 c289, w286.cell? ⟨q0, 2, none⟩ = some (.slice p287 l288 c289) ∧
 (∃ p290 l291 c292, w286.cell? ⟨q0, 2, none⟩ = some (.slice p290 l291 c292) ∧
 (∃ b293, w286.cell? ⟨w227.heap.size, 3, none⟩ = some (.bool b293) ∧ (((0 : Int) ≤ (IntKind.i64.wrap ((((l291 : Nat) : Int)) - 1)) ∧
 (IntKind.i64.wrap ((((l291 : Nat) : Int)) - 1)) < ((l288 : Nat) : Int)) ∧ (PtrSome p287 (fun b294 o295 =>
 CanSet w286 b294 (o295 + ((Int.toNat (IntKind.i64.wrap ((((l291 : Nat) : Int)) - 1)))) * 4 + 3) ∧ (∀ w296, w296 = w286.setCell ⟨b294, o295 + ((Int.toNat (IntKind.i64.wrap ((((l291 : Nat) : Int)) - 1)))) * 4 + 3, none⟩ (.bool b293) →
 (R (.returned (.bool true)) w296))))))))))) (Br (n283 == 2) (Calls Tryz.prog 165 #[(.pointer (some ⟨q0, 0, none⟩)), (.int .i64 5), (.int .i64 a1)] w282 (fun e297 w298 =>
 e297 = .returned (.tuple #[]) ∧ (R (.returned (.bool true)) w298))) (Br (n283 == 6) (Calls Tryz.prog 165 #[(.pointer (some ⟨q0, 0, none⟩)), (.int .i64 8), (.int .i64 a1)] w282 (fun e299 w300 =>
 e299 = .returned (.tuple #[]) ∧ (R (.returned (.bool true)) w300))) (Br (n283 == 3) (Calls Tryz.prog 165 #[(.pointer (some ⟨q0, 0, none⟩)), (.int .i64 7), (.int .i64 a1)] w282 (fun e301 w302 =>
 e301 = .returned (.tuple #[]) ∧ (R (.returned (.bool true)) w302))) (R (.returned (.bool true)) w282)))))))) (∃ n303, w233.cell? ⟨w227.heap.size, 0, none⟩ = some (.int .i64 n303) ∧
 (Br (n303 == 1) (Calls Tryz.prog 165 #[(.pointer (some ⟨q0, 0, none⟩)), (.int .i64 4), (.int .i64 a1)] w233 (fun e304 w305 =>
 e304 = .returned (.tuple #[]) ∧ (∀ w306, w306 = w305.drew → (∃ p307 l308 c309, w306.cell? ⟨q0, 2, none⟩ = some (.slice p307 l308 c309) ∧
 (∃ p310 l311 c312, w306.cell? ⟨q0, 2, none⟩ = some (.slice p310 l311 c312) ∧
 (∃ b313, w306.cell? ⟨w227.heap.size, 3, none⟩ = some (.bool b313) ∧ (((0 : Int) ≤ (IntKind.i64.wrap ((((l311 : Nat) : Int)) - 1)) ∧
 (IntKind.i64.wrap ((((l311 : Nat) : Int)) - 1)) < ((l308 : Nat) : Int)) ∧ (PtrSome p307 (fun b314 o315 =>
 CanSet w306 b314 (o315 + ((Int.toNat (IntKind.i64.wrap ((((l311 : Nat) : Int)) - 1)))) * 4 + 3) ∧ (∀ w316, w316 = w306.setCell ⟨b314, o315 + ((Int.toNat (IntKind.i64.wrap ((((l311 : Nat) : Int)) - 1)))) * 4 + 3, none⟩ (.bool b313) →
 (R (.returned (.bool true)) w316))))))))))) (Br (n303 == 2) (Calls Tryz.prog 165 #[(.pointer (some ⟨q0, 0, none⟩)), (.int .i64 5), (.int .i64 a1)] w233 (fun e317 w318 =>
 e317 = .returned (.tuple #[]) ∧ (R (.returned (.bool true)) w318))) (Br (n303 == 6) (Calls Tryz.prog 165 #[(.pointer (some ⟨q0, 0, none⟩)), (.int .i64 8), (.int .i64 a1)] w233 (fun e319 w320 =>
 e319 = .returned (.tuple #[]) ∧ (R (.returned (.bool true)) w320))) (Br (n303 == 3) (Calls Tryz.prog 165 #[(.pointer (some ⟨q0, 0, none⟩)), (.int .i64 7), (.int .i64 a1)] w233 (fun e321 w322 =>
 e321 = .returned (.tuple #[]) ∧ (R (.returned (.bool true)) w322))) (R (.returned (.bool true)) w233))))))))))))))) ∧
 (∀ w323, w323 = w221.alloc (.cells #[(.int .i64 0), (.bool false), (.bool false), (.bool false)] 86) →
 ((w323.cell? ⟨q0, 3, none⟩ = some (.int .i64 n223)) ∧ ((w323.cell? ⟨q0, 1, none⟩ = some v222) ∧ (Invoke Tryz.prog (Value.iface ty224 iv225) "Step" #[(.int .i64 a1), (.int .i64 a1), (.int .i64 n223)] w323 (fun e324 w325 =>
 ∃ n326 b327 b328 b329, e324 = .returned (.agg #[(.int .i64 n326), (.bool b327), (.bool b328), (.bool b329)]) ∧
 (w325.there w221.heap.size 0 4 ∧ (∀ w330, w330 = w325.setCells w221.heap.size 0 [(.int .i64 n326), (.bool b327), (.bool b328), (.bool b329)] →
 (∃ b331, w330.cell? ⟨w221.heap.size, 1, none⟩ = some (.bool b331) ∧ (Br b331 (Calls Tryz.prog 165 #[(.pointer (some ⟨q0, 0, none⟩)), (.int .i64 2), (.int .i64 a1)] w330 (fun e332 w333 =>
 e332 = .returned (.tuple #[]) ∧ (∃ b334, w333.cell? ⟨w221.heap.size, 2, none⟩ = some (.bool b334) ∧
 (Br b334 (Calls Tryz.prog 165 #[(.pointer (some ⟨q0, 0, none⟩)), (.int .i64 3), (.int .i64 a1)] w333 (fun e335 w336 =>
 e335 = .returned (.tuple #[]) ∧ (∃ n337, w336.cell? ⟨w221.heap.size, 0, none⟩ = some (.int .i64 n337) ∧
 (Br (n337 == 1) (Calls Tryz.prog 165 #[(.pointer (some ⟨q0, 0, none⟩)), (.int .i64 4), (.int .i64 a1)] w336 (fun e338 w339 =>
 e338 = .returned (.tuple #[]) ∧ (∀ w340, w340 = w339.drew → (∃ p341 l342 c343, w340.cell? ⟨q0, 2, none⟩ = some (.slice p341 l342 c343) ∧
 (∃ p344 l345 c346, w340.cell? ⟨q0, 2, none⟩ = some (.slice p344 l345 c346) ∧
 (∃ b347, w340.cell? ⟨w221.heap.size, 3, none⟩ = some (.bool b347) ∧ (((0 : Int) ≤ (IntKind.i64.wrap ((((l345 : Nat) : Int)) - 1)) ∧
 (IntKind.i64.wrap ((((l345 : Nat) : Int)) - 1)) < ((l342 : Nat) : Int)) ∧ (PtrSome p341 (fun b348 o349 =>
 CanSet w340 b348 (o349 + ((Int.toNat (IntKind.i64.wrap ((((l345 : Nat) : Int)) - 1)))) * 4 + 3) ∧ (∀ w350, w350 = w340.setCell ⟨b348, o349 + ((Int.toNat (IntKind.i64.wrap ((((l345 : Nat) : Int)) - 1)))) * 4 + 3, none⟩ (.bool b347) →
 (R (.returned (.bool true)) w350))))))))))) (Br (n337 == 2) (Calls Tryz.prog 165 #[(.pointer (some ⟨q0, 0, none⟩)), (.int .i64 5), (.int .i64 a1)] w336 (fun e351 w352 =>
 e351 = .returned (.tuple #[]) ∧ (R (.returned (.bool true)) w352))) (Br (n337 == 6) (Calls Tryz.prog 165 #[(.pointer (some ⟨q0, 0, none⟩)), (.int .i64 8), (.int .i64 a1)] w336 (fun e353 w354 =>
 e353 = .returned (.tuple #[]) ∧ (R (.returned (.bool true)) w354))) (Br (n337 == 3) (Calls Tryz.prog 165 #[(.pointer (some ⟨q0, 0, none⟩)), (.int .i64 7), (.int .i64 a1)] w336 (fun e355 w356 =>
 e355 = .returned (.tuple #[]) ∧ (R (.returned (.bool true)) w356))) (R (.returned (.bool true)) w336)))))))) (∃ n357, w333.cell? ⟨w221.heap.size, 0, none⟩ = some (.int .i64 n357) ∧
 (Br (n357 == 1) (Calls Tryz.prog 165 #[(.pointer (some ⟨q0, 0, none⟩)), (.int .i64 4), (.int .i64 a1)] w333 (fun e358 w359 =>
 e358 = .returned (.tuple #[]) ∧ (∀ w360, w360 = w359.drew → (∃ p361 l362 c363, w360.cell? ⟨q0, 2, none⟩ = some (.slice p361 l362 c363) ∧
 (∃ p364 l365 c366, w360.cell? ⟨q0, 2, none⟩ = some (.slice p364 l365 c366) ∧
 (∃ b367, w360.cell? ⟨w221.heap.size, 3, none⟩ = some (.bool b367) ∧ (((0 : Int) ≤ (IntKind.i64.wrap ((((l365 : Nat) : Int)) - 1)) ∧
 (IntKind.i64.wrap ((((l365 : Nat) : Int)) - 1)) < ((l362 : Nat) : Int)) ∧ (PtrSome p361 (fun b368 o369 =>
 CanSet w360 b368 (o369 + ((Int.toNat (IntKind.i64.wrap ((((l365 : Nat) : Int)) - 1)))) * 4 + 3) ∧ (∀ w370, w370 = w360.setCell ⟨b368, o369 + ((Int.toNat (IntKind.i64.wrap ((((l365 : Nat) : Int)) - 1)))) * 4 + 3, none⟩ (.bool b367) →
 (R (.returned (.bool true)) w370))))))))))) (Br (n357 == 2) (Calls Tryz.prog 165 #[(.pointer (some ⟨q0, 0, none⟩)), (.int .i64 5), (.int .i64 a1)] w333 (fun e371 w372 =>
 e371 = .returned (.tuple #[]) ∧ (R (.returned (.bool true)) w372))) (Br (n357 == 6) (Calls Tryz.prog 165 #[(.pointer (some ⟨q0, 0, none⟩)), (.int .i64 8), (.int .i64 a1)] w333 (fun e373 w374 =>
 e373 = .returned (.tuple #[]) ∧ (R (.returned (.bool true)) w374))) (Br (n357 == 3) (Calls Tryz.prog 165 #[(.pointer (some ⟨q0, 0, none⟩)), (.int .i64 7), (.int .i64 a1)] w333 (fun e375 w376 =>
 e375 = .returned (.tuple #[]) ∧ (R (.returned (.bool true)) w376))) (R (.returned (.bool true)) w333)))))))))) (∃ b377, w330.cell? ⟨w221.heap.size, 2, none⟩ = some (.bool b377) ∧
 (Br b377 (Calls Tryz.prog 165 #[(.pointer (some ⟨q0, 0, none⟩)), (.int .i64 3), (.int .i64 a1)] w330 (fun e378 w379 =>
 e378 = .returned (.tuple #[]) ∧ (∃ n380, w379.cell? ⟨w221.heap.size, 0, none⟩ = some (.int .i64 n380) ∧
 (Br (n380 == 1) (Calls Tryz.prog 165 #[(.pointer (some ⟨q0, 0, none⟩)), (.int .i64 4), (.int .i64 a1)] w379 (fun e381 w382 =>
 e381 = .returned (.tuple #[]) ∧ (∀ w383, w383 = w382.drew → (∃ p384 l385 c386, w383.cell? ⟨q0, 2, none⟩ = some (.slice p384 l385 c386) ∧
 (∃ p387 l388 c389, w383.cell? ⟨q0, 2, none⟩ = some (.slice p387 l388 c389) ∧
 (∃ b390, w383.cell? ⟨w221.heap.size, 3, none⟩ = some (.bool b390) ∧ (((0 : Int) ≤ (IntKind.i64.wrap ((((l388 : Nat) : Int)) - 1)) ∧
 (IntKind.i64.wrap ((((l388 : Nat) : Int)) - 1)) < ((l385 : Nat) : Int)) ∧ (PtrSome p384 (fun b391 o392 =>
 CanSet w383 b391 (o392 + ((Int.toNat (IntKind.i64.wrap ((((l388 : Nat) : Int)) - 1)))) * 4 + 3) ∧ (∀ w393, w393 = w383.setCell ⟨b391, o392 + ((Int.toNat (IntKind.i64.wrap ((((l388 : Nat) : Int)) - 1)))) * 4 + 3, none⟩ (.bool b390) →
 (R (.returned (.bool true)) w393))))))))))) (Br (n380 == 2) (Calls Tryz.prog 165 #[(.pointer (some ⟨q0, 0, none⟩)), (.int .i64 5), (.int .i64 a1)] w379 (fun e394 w395 =>
 e394 = .returned (.tuple #[]) ∧ (R (.returned (.bool true)) w395))) (Br (n380 == 6) (Calls Tryz.prog 165 #[(.pointer (some ⟨q0, 0, none⟩)), (.int .i64 8), (.int .i64 a1)] w379 (fun e396 w397 =>
 e396 = .returned (.tuple #[]) ∧ (R (.returned (.bool true)) w397))) (Br (n380 == 3) (Calls Tryz.prog 165 #[(.pointer (some ⟨q0, 0, none⟩)), (.int .i64 7), (.int .i64 a1)] w379 (fun e398 w399 =>
 e398 = .returned (.tuple #[]) ∧ (R (.returned (.bool true)) w399))) (R (.returned (.bool true)) w379)))))))) (∃ n400, w330.cell? ⟨w221.heap.size, 0, none⟩ = some (.int .i64 n400) ∧
 (Br (n400 == 1) (Calls Tryz.prog 165 #[(.pointer (some ⟨q0, 0, none⟩)), (.int .i64 4), (.int .i64 a1)] w330 (fun e401 w402 =>
 e401 = .returned (.tuple #[]) ∧ (∀ w403, w403 = w402.drew → (∃ p404 l405 c406, w403.cell? ⟨q0, 2, none⟩ = some (.slice p404 l405 c406) ∧
 (∃ p407 l408 c409, w403.cell? ⟨q0, 2, none⟩ = some (.slice p407 l408 c409) ∧
 (∃ b410, w403.cell? ⟨w221.heap.size, 3, none⟩ = some (.bool b410) ∧ (((0 : Int) ≤ (IntKind.i64.wrap ((((l408 : Nat) : Int)) - 1)) ∧
 (IntKind.i64.wrap ((((l408 : Nat) : Int)) - 1)) < ((l405 : Nat) : Int)) ∧ (PtrSome p404 (fun b411 o412 =>
 CanSet w403 b411 (o412 + ((Int.toNat (IntKind.i64.wrap ((((l408 : Nat) : Int)) - 1)))) * 4 + 3) ∧ (∀ w413, w413 = w403.setCell ⟨b411, o412 + ((Int.toNat (IntKind.i64.wrap ((((l408 : Nat) : Int)) - 1)))) * 4 + 3, none⟩ (.bool b410) →
 (R (.returned (.bool true)) w413))))))))))) (Br (n400 == 2) (Calls Tryz.prog 165 #[(.pointer (some ⟨q0, 0, none⟩)), (.int .i64 5), (.int .i64 a1)] w330 (fun e414 w415 =>
 e414 = .returned (.tuple #[]) ∧ (R (.returned (.bool true)) w415))) (Br (n400 == 6) (Calls Tryz.prog 165 #[(.pointer (some ⟨q0, 0, none⟩)), (.int .i64 8), (.int .i64 a1)] w330 (fun e416 w417 =>
 e416 = .returned (.tuple #[]) ∧ (R (.returned (.bool true)) w417))) (Br (n400 == 3) (Calls Tryz.prog 165 #[(.pointer (some ⟨q0, 0, none⟩)), (.int .i64 7), (.int .i64 a1)] w330 (fun e418 w419 =>
 e418 = .returned (.tuple #[]) ∧ (R (.returned (.bool true)) w419))) (R (.returned (.bool true)) w330)))))))))))))))))))))))))))))))))
theorem callsMachineMachine_step (q0 : Nat) (a1 : Int) (R : Ending → 
    World → Prop) (w : World) (h : preMachineMachine_step q0 a1 R w) : Calls Tryz.prog 162 #[(.pointer (some ⟨q0, 0, none⟩)), (.int .i64 a1)] w R :=
  calls_of_sym Tryz.func162 (c := bodyOf Tryz.f162) rfl (Eq.mpr (by kernel_rfl) h)

/-- (*weighlock/machine.Machine).tick -/
def preMachineMachine_tick (q0 : Nat) (R : Ending → World → 
    Prop) (w : World) : Prop :=
  ∃ n0, w.cell? ⟨q0, 3, none⟩ = some (.int .i64 n0) ∧ (Br (decide (n0 ≥ 1099511627776)) (R (.returned (.bool false)) w) (∃ n1, w.cell? ⟨q0, 3, none⟩ = some (.int .i64 n1) ∧
 (CanSet w q0 3 ∧ (∀ w2, w2 = w.setCell ⟨q0, 3, none⟩ (.int .i64 (IntKind.i64.wrap (n1 + 1))) →
 (R (.returned (.bool true)) w2)))))
theorem callsMachineMachine_tick (q0 : Nat) (R : Ending → World → 
    Prop) (w : World) (h : preMachineMachine_tick q0 R w) : Calls Tryz.prog 163 #[(.pointer (some ⟨q0, 0, none⟩))] w R :=
  calls_of_sym Tryz.func163 (c := bodyOf Tryz.f163) rfl (Eq.mpr (by kernel_rfl) h)

/-- (*weighlock/machine.Machine).call -/
def preMachineMachine_call (q0 : Nat) (a1 a2 : Int) (R : Ending → 
    World → Prop) (w : World) : Prop :=
  Br (decide ((a2 : Int) ≥ 0)) (∃ n0, w.cell? ⟨q0, 3, none⟩ = some (.int .i64 n0) ∧
 (∃ v1, w.cell? ⟨q0, 1, none⟩ = some v1 ∧ (Invoke Tryz.prog v1 "Lock" #[(.int .i64 a1), (.int .i64 (IntKind.i64.wrap (n0 + (minI a2 1073741824))))] w (fun e2 w3 =>
 ∃ n4, e2 = .returned (.int .i64 n4) ∧ (Br (n4 != 0) (R (.returned (.bool false)) w3) (Calls Tryz.prog 165 #[(.pointer (some ⟨q0, 0, none⟩)), (.int .i64 1), (.int .i64 a1)] w3 (fun e5 w6 =>
 e5 = .returned (.tuple #[]) ∧ (R (.returned (.bool true)) w6)))))))) (∃ v7, w.cell? ⟨q0, 1, none⟩ = some v7 ∧
 (Invoke Tryz.prog v7 "Lock" #[(.int .i64 a1), (.int .i64 ((-1)))] w (fun e8 w9 =>
 ∃ n10, e8 = .returned (.int .i64 n10) ∧ (Br (n10 != 0) (R (.returned (.bool false)) w9) (Calls Tryz.prog 165 #[(.pointer (some ⟨q0, 0, none⟩)), (.int .i64 1), (.int .i64 a1)] w9 (fun e11 w12 =>
 e11 = .returned (.tuple #[]) ∧ (R (.returned (.bool true)) w12)))))))
theorem callsMachineMachine_call (q0 : Nat) (a1 a2 : Int) (R : Ending → 
    World → Prop) (w : World) (h : preMachineMachine_call q0 a1 a2 R w) : Calls Tryz.prog 164 #[(.pointer (some ⟨q0, 0, none⟩)), (.int .i64 a1), (.int .i64 a2)] w R :=
  calls_of_sym Tryz.func164 (c := bodyOf Tryz.f164) rfl (Eq.mpr (by kernel_rfl) h)

/-- (*weighlock/machine.Machine).enter -/
def preMachineMachine_enter (q0 : Nat) (a1 a2 : Int) (R : Ending → 
    World → Prop) (w : World) : Prop :=
  ∀ w0, w0 = w.drew → (∃ p1 l2 c3, w0.cell? ⟨q0, 2, none⟩ = some (.slice p1 l2 c3) ∧
 (∃ n4, w0.cell? ⟨q0, 3, none⟩ = some (.int .i64 n4) ∧ (∀ w5, w5 = w0.alloc (.cells #[(.int .i64 a1), (.int .i64 a2), (.int .i64 n4), (.bool false)] 113) →
 ((w5.cell? ⟨q0, 2, none⟩ = some (.slice p1 l2 c3)) ∧ (AppQ Tryz.prog #[110, 110] 110 #[(.slice p1 l2 c3), (.slice (some ⟨w0.heap.size, 0, none⟩) 1 1)] w5 (fun p6 l7 c8 w9 =>
 CanSet w9 q0 2 ∧ (∀ w10, w10 = w9.setCell ⟨q0, 2, none⟩ (.slice p6 l7 c8) → (R (.returned (.tuple #[])) w10))))))))
theorem callsMachineMachine_enter (q0 : Nat) (a1 a2 : Int) (R : Ending → 
    World → Prop) (w : World) (h : preMachineMachine_enter q0 a1 a2 R w) : Calls Tryz.prog 165 #[(.pointer (some ⟨q0, 0, none⟩)), (.int .i64 a1), (.int .i64 a2)] w R :=
  calls_of_sym Tryz.func165 (c := bodyOf Tryz.f165) rfl (Eq.mpr (by kernel_rfl) h)

/-- (*weighlock/cohort.Lock).count -/
def preCohortLock_count (q0 : Nat) (q1 qo1 : Nat) (a2 a3 : Int) (R : Ending → 
    World → Prop) (w : World) : Prop :=
  ∀ w0, w0 = w.alloc (.cells #[(.int .i64 0), (.bool false), (.bool false), (.bool false)] 86) →
 (∀ w1, w1 = w0.drew → (∃ p2, w1.cell? ⟨q0, 1, none⟩ = some (.pointer p2) ∧ (∃ n3, w1.cell? ⟨q0, 2, none⟩ = some (.int .i64 n3) ∧
 (∃ n4, w1.cell? ⟨q1, qo1, none⟩ = some (.int .i64 n4) ∧ (Calls Tryz.prog 200 #[(.pointer p2), (.int .i64 a2), (.int .i64 (IntKind.i64.wrap (n3 + n4)))] w1 (fun e5 w6 =>
 ∃ n7, e5 = .returned (.int .u32 n7) ∧ (CanSet w6 q1 (qo1 + 3) ∧ (∀ w8, w8 = w6.setCell ⟨q1, qo1 + 3, none⟩ (.int .u32 n7) →
 (oneCells [(.func (.func 201) #[] #[])] ∧ (CanSet w8 q1 (qo1 + 2) ∧ (∀ w9, w9 = w8.setCell ⟨q1, qo1 + 2, none⟩ (.func (.func 201) #[] #[]) →
 (∀ w10, w10 = w9.drew → (∃ n11, w10.cell? ⟨q1, qo1 + 3, none⟩ = some (.int .u32 n11) ∧
 (∃ n12, w10.cell? ⟨q0, 3, none⟩ = some (.int .u32 n12) ∧ (Br (decide (n11 < n12)) (∀ w13, w13 = w10.drew →
 (∃ n14, w13.cell? ⟨q1, qo1, none⟩ = some (.int .i64 n14) ∧ (((0 : Int) ≤ n14 ∧ n14 < ((8 : Nat) : Int)) ∧
 (∃ v15, w13.cell? ⟨q0, 5 + (Int.toNat n14), none⟩ = some v15 ∧ (∃ n16, w13.cell? ⟨q1, qo1 + 1, none⟩ = some (.int .i64 n16) ∧
 (RawIf v15 (fun ty17 iv18 => Invoke Tryz.prog (Value.iface ty17 iv18) "Probe" #[(.int .i64 n16)] w13 (fun e19 w20 =>
 ∃ n21, e19 = .returned (.int .i64 n21) ∧ (oneCells [(.func (.func 202) #[] #[])] ∧ (CanSet w20 q1 (qo1 + 2) ∧
 (∀ w22, w22 = w20.setCell ⟨q1, qo1 + 2, none⟩ (.func (.func 202) #[] #[]) → (w22.there w.heap.size 0 4 ∧
 (∀ w23, w23 = w22.setCells w.heap.size 0 [(.int .i64 0), (.bool false), (.bool false), (.bool false)] →
 (∃ n24, w23.cell? ⟨w.heap.size, 0, none⟩ = some (.int .i64 n24) ∧ (∃ b25, w23.cell? ⟨w.heap.size, 1, none⟩ = some (.bool b25) ∧
 (∃ b26, w23.cell? ⟨w.heap.size, 2, none⟩ = some (.bool b26) ∧ (∃ b27, w23.cell? ⟨w.heap.size, 3, none⟩ = some (.bool b27) ∧
 (R (.returned (.agg #[(.int .i64 n24), (.bool b25), (.bool b26), (.bool b27)])) w23)))))))))))))))))) (w10.there w.heap.size 0 4 ∧
 (∀ w28, w28 = w10.setCells w.heap.size 0 [(.int .i64 0), (.bool false), (.bool false), (.bool false)] →
 (∃ n29, w28.cell? ⟨w.heap.size, 0, none⟩ = some (.int .i64 n29) ∧ (∃ b30, w28.cell? ⟨w.heap.size, 1, none⟩ = some (.bool b30) ∧
 (∃ b31, w28.cell? ⟨w.heap.size, 2, none⟩ = some (.bool b31) ∧ (∃ b32, w28.cell? ⟨w.heap.size, 3, none⟩ = some (.bool b32) ∧
 (R (.returned (.agg #[(.int .i64 n29), (.bool b30), (.bool b31), (.bool b32)])) w28))))))))))))))))))))))
theorem callsCohortLock_count (q0 : Nat) (q1 qo1 : Nat) (a2 a3 : Int) (R : Ending → 
    World → Prop) (w : World) (h : preCohortLock_count q0 q1 qo1 a2 a3 R w) : Calls Tryz.prog 177 #[(.pointer (some ⟨q0, 0, none⟩)), (.pointer (some ⟨q1, qo1, none⟩)), (.int .i64 a2), (.int .i64 a3)] w R :=
  calls_of_sym Tryz.func177 (c := bodyOf Tryz.f177) rfl (Eq.mpr (by kernel_rfl) h)

/-- (*weighlock/cohort.Lock).local -/
def preCohortLock_local (q0 : Nat) (q1 qo1 : Nat) (a2 a3 : Int) (R : Ending → 
    World → Prop) (w : World) : Prop :=
  ∀ w0, w0 = w.alloc (.cells #[(.int .i64 0), (.bool false), (.bool false), (.bool false)] 86) →
 (∀ w1, w1 = w0.drew → (∃ n2, w1.cell? ⟨q1, qo1, none⟩ = some (.int .i64 n2) ∧ (((0 : Int) ≤ n2 ∧
 n2 < ((8 : Nat) : Int)) ∧ (∃ v3, w1.cell? ⟨q0, 5 + (Int.toNat n2), none⟩ = some v3 ∧ (∃ n4, w1.cell? ⟨q1, qo1 + 1, none⟩ = some (.int .i64 n4) ∧
 (RawIf v3 (fun ty5 iv6 => (Invoke Tryz.prog (Value.iface ty5 iv6) "Step" #[(.int .i64 n4), (.int .i64 a2), (.int .i64 a3)] w1 (fun e7 w8 =>
 ∃ n9 b10 b11 b12, e7 = .returned (.agg #[(.int .i64 n9), (.bool b10), (.bool b11), (.bool b12)]) ∧
 (∀ w13, w13 = w8.alloc (.cells #[(.int .i64 0), (.bool false), (.bool false), (.bool false)] 86) →
 (w13.there w8.heap.size 0 4 ∧ (∀ w14, w14 = w13.setCells w8.heap.size 0 [(.int .i64 n9), (.bool b10), (.bool b11), (.bool b12)] →
 (∃ n15, w14.cell? ⟨w8.heap.size, 0, none⟩ = some (.int .i64 n15) ∧ (Br (n15 == 1) (oneCells [(.func (.func 203) #[] #[])] ∧
 (CanSet w14 q1 (qo1 + 2) ∧ (∀ w16, w16 = w14.setCell ⟨q1, qo1 + 2, none⟩ (.func (.func 203) #[] #[]) →
 (∃ b17, w16.cell? ⟨w8.heap.size, 1, none⟩ = some (.bool b17) ∧ (w16.there w.heap.size 0 4 ∧
 (∀ w18, w18 = w16.setCells w.heap.size 0 [(.int .i64 0), (.bool b17), (.bool false), (.bool false)] →
 (∃ n19, w18.cell? ⟨w.heap.size, 0, none⟩ = some (.int .i64 n19) ∧ (∃ b20, w18.cell? ⟨w.heap.size, 1, none⟩ = some (.bool b20) ∧
 (∃ b21, w18.cell? ⟨w.heap.size, 2, none⟩ = some (.bool b21) ∧ (∃ b22, w18.cell? ⟨w.heap.size, 3, none⟩ = some (.bool b22) ∧
 (R (.returned (.agg #[(.int .i64 n19), (.bool b20), (.bool b21), (.bool b22)])) w18))))))))))) (∃ b23, w14.cell? ⟨w8.heap.size, 1, none⟩ = some (.bool b23) ∧
 (w14.there w.heap.size 0 4 ∧ (∀ w24, w24 = w14.setCells w.heap.size 0 [(.int .i64 0), (.bool b23), (.bool false), (.bool false)] →
 (∃ n25, w24.cell? ⟨w.heap.size, 0, none⟩ = some (.int .i64 n25) ∧ (∃ b26, w24.cell? ⟨w.heap.size, 1, none⟩ = some (.bool b26) ∧
 (∃ b27, w24.cell? ⟨w.heap.size, 2, none⟩ = some (.bool b27) ∧ (∃ b28, w24.cell? ⟨w.heap.size, 3, none⟩ = some (.bool b28) ∧
 (R (.returned (.agg #[(.int .i64 n25), (.bool b26), (.bool b27), (.bool b28)])) w24))))))))))))))) ∧
 (∀ w29, w29 = w1.alloc (.cells #[(.int .i64 0), (.bool false), (.bool false), (.bool false)] 86) →
 ((w29.cell? ⟨q1, qo1 + 1, none⟩ = some (.int .i64 n4)) ∧ ((w29.cell? ⟨q0, 5 + (Int.toNat n2), none⟩ = some v3) ∧
 ((w29.cell? ⟨q1, qo1, none⟩ = some (.int .i64 n2)) ∧ (Invoke Tryz.prog (Value.iface ty5 iv6) "Step" #[(.int .i64 n4), (.int .i64 a2), (.int .i64 a3)] w29 (fun e30 w31 =>
 ∃ n32 b33 b34 b35, e30 = .returned (.agg #[(.int .i64 n32), (.bool b33), (.bool b34), (.bool b35)]) ∧
 (w31.there w1.heap.size 0 4 ∧ (∀ w36, w36 = w31.setCells w1.heap.size 0 [(.int .i64 n32), (.bool b33), (.bool b34), (.bool b35)] →
 (∃ n37, w36.cell? ⟨w1.heap.size, 0, none⟩ = some (.int .i64 n37) ∧ (Br (n37 == 1) (oneCells [(.func (.func 203) #[] #[])] ∧
 (CanSet w36 q1 (qo1 + 2) ∧ (∀ w38, w38 = w36.setCell ⟨q1, qo1 + 2, none⟩ (.func (.func 203) #[] #[]) →
 (∃ b39, w38.cell? ⟨w1.heap.size, 1, none⟩ = some (.bool b39) ∧ (w38.there w.heap.size 0 4 ∧
 (∀ w40, w40 = w38.setCells w.heap.size 0 [(.int .i64 0), (.bool b39), (.bool false), (.bool false)] →
 (∃ n41, w40.cell? ⟨w.heap.size, 0, none⟩ = some (.int .i64 n41) ∧ (∃ b42, w40.cell? ⟨w.heap.size, 1, none⟩ = some (.bool b42) ∧
 (∃ b43, w40.cell? ⟨w.heap.size, 2, none⟩ = some (.bool b43) ∧ (∃ b44, w40.cell? ⟨w.heap.size, 3, none⟩ = some (.bool b44) ∧
 (R (.returned (.agg #[(.int .i64 n41), (.bool b42), (.bool b43), (.bool b44)])) w40))))))))))) (∃ b45, w36.cell? ⟨w1.heap.size, 1, none⟩ = some (.bool b45) ∧
 (w36.there w.heap.size 0 4 ∧ (∀ w46, w46 = w36.setCells w.heap.size 0 [(.int .i64 0), (.bool b45), (.bool false), (.bool false)] →
 (∃ n47, w46.cell? ⟨w.heap.size, 0, none⟩ = some (.int .i64 n47) ∧ (∃ b48, w46.cell? ⟨w.heap.size, 1, none⟩ = some (.bool b48) ∧
 (∃ b49, w46.cell? ⟨w.heap.size, 2, none⟩ = some (.bool b49) ∧ (∃ b50, w46.cell? ⟨w.heap.size, 3, none⟩ = some (.bool b50) ∧
 (R (.returned (.agg #[(.int .i64 n47), (.bool b48), (.bool b49), (.bool b50)])) w46)))))))))))))))))))))))))
theorem callsCohortLock_local (q0 : Nat) (q1 qo1 : Nat) (a2 a3 : Int) (R : Ending → 
    World → Prop) (w : World) (h : preCohortLock_local q0 q1 qo1 a2 a3 R w) : Calls Tryz.prog 178 #[(.pointer (some ⟨q0, 0, none⟩)), (.pointer (some ⟨q1, qo1, none⟩)), (.int .i64 a2), (.int .i64 a3)] w R :=
  calls_of_sym Tryz.func178 (c := bodyOf Tryz.f178) rfl (Eq.mpr (by kernel_rfl) h)

/-- (*weighlock/cohort.Lock).finish -/
def preCohortLock_finish (q0 : Nat) (q1 qo1 : Nat) (a2 a3 : Int) (R : Ending → 
    World → Prop) (w : World) : Prop :=
  ∀ w0, w0 = w.alloc (.cells #[(.int .i64 0), (.bool false), (.bool false), (.bool false)] 86) →
 (∀ w1, w1 = w0.drew → (∃ p2, w1.cell? ⟨q0, 1, none⟩ = some (.pointer p2) ∧ (∃ n3, w1.cell? ⟨q0, 2, none⟩ = some (.int .i64 n3) ∧
 (∃ n4, w1.cell? ⟨q1, qo1, none⟩ = some (.int .i64 n4) ∧ (Calls Tryz.prog 216 #[(.pointer p2), (.int .i64 a2), (.int .i64 (IntKind.i64.wrap (n3 + n4))), (.int .u32 0)] w1 (fun e5 w6 =>
 e5 = .returned (.tuple #[]) ∧ (∀ w7, w7 = w6.drew → (∃ v8, w7.cell? ⟨q0, 4, none⟩ = some v8 ∧
 (∃ n9, w7.cell? ⟨q1, qo1, none⟩ = some (.int .i64 n9) ∧ (RawIf v8 (fun ty10 iv11 => Invoke Tryz.prog (Value.iface ty10 iv11) "Unlock" #[(.int .i64 n9)] w7 (fun e12 w13 =>
 ∃ n14, e12 = .returned (.int .i64 n14) ∧ (oneCells [(.func (.func 217) #[] #[])] ∧ (CanSet w13 q1 (qo1 + 2) ∧
 (∀ w15, w15 = w13.setCell ⟨q1, qo1 + 2, none⟩ (.func (.func 217) #[] #[]) → (w15.there w.heap.size 0 4 ∧
 (∀ w16, w16 = w15.setCells w.heap.size 0 [(.int .i64 0), (.bool false), (.bool false), (.bool false)] →
 (∃ n17, w16.cell? ⟨w.heap.size, 0, none⟩ = some (.int .i64 n17) ∧ (∃ b18, w16.cell? ⟨w.heap.size, 1, none⟩ = some (.bool b18) ∧
 (∃ b19, w16.cell? ⟨w.heap.size, 2, none⟩ = some (.bool b19) ∧ (∃ b20, w16.cell? ⟨w.heap.size, 3, none⟩ = some (.bool b20) ∧
 (R (.returned (.agg #[(.int .i64 n17), (.bool b18), (.bool b19), (.bool b20)])) w16))))))))))))))))))))))
theorem callsCohortLock_finish (q0 : Nat) (q1 qo1 : Nat) (a2 a3 : Int) (R : Ending → 
    World → Prop) (w : World) (h : preCohortLock_finish q0 q1 qo1 a2 a3 R w) : Calls Tryz.prog 201 #[(.pointer (some ⟨q0, 0, none⟩)), (.pointer (some ⟨q1, qo1, none⟩)), (.int .i64 a2), (.int .i64 a3)] w R :=
  calls_of_sym Tryz.func201 (c := bodyOf Tryz.f201) rfl (Eq.mpr (by kernel_rfl) h)

/-- (*weighlock/cohort.Lock).probe -/
def preCohortLock_probe (q0 : Nat) (q1 qo1 : Nat) (a2 a3 : Int) (R : Ending → 
    World → Prop) (w : World) : Prop :=
  ∀ w0, w0 = w.alloc (.cells #[(.int .i64 0), (.bool false), (.bool false), (.bool false)] 86) →
 (oneCells [(.func (.func 201) #[] #[])] ∧ (CanSet w0 q1 (qo1 + 2) ∧ (∀ w1, w1 = w0.setCell ⟨q1, qo1 + 2, none⟩ (.func (.func 201) #[] #[]) →
 (∀ w2, w2 = w1.drew → (∃ n3, w2.cell? ⟨q1, qo1, none⟩ = some (.int .i64 n3) ∧ (((0 : Int) ≤ n3 ∧
 n3 < ((8 : Nat) : Int)) ∧ (∃ v4, w2.cell? ⟨q0, 5 + (Int.toNat n3), none⟩ = some v4 ∧ (∃ n5, w2.cell? ⟨q1, qo1 + 1, none⟩ = some (.int .i64 n5) ∧
 (RawIf v4 (fun ty6 iv7 => Invoke Tryz.prog (Value.iface ty6 iv7) "Step" #[(.int .i64 n5), (.int .i64 a2), (.int .i64 a3)] w2 (fun e8 w9 =>
 ∃ n10 b11 b12 b13, e8 = .returned (.agg #[(.int .i64 n10), (.bool b11), (.bool b12), (.bool b13)]) ∧
 (Br (n10 == 5) (oneCells [(.func (.func 218) #[] #[])] ∧ (CanSet w9 q1 (qo1 + 2) ∧ (∀ w14, w14 = w9.setCell ⟨q1, qo1 + 2, none⟩ (.func (.func 218) #[] #[]) →
 (w14.there w.heap.size 0 4 ∧ (∀ w15, w15 = w14.setCells w.heap.size 0 [(.int .i64 0), (.bool false), (.bool false), (.bool false)] →
 (∃ n16, w15.cell? ⟨w.heap.size, 0, none⟩ = some (.int .i64 n16) ∧ (∃ b17, w15.cell? ⟨w.heap.size, 1, none⟩ = some (.bool b17) ∧
 (∃ b18, w15.cell? ⟨w.heap.size, 2, none⟩ = some (.bool b18) ∧ (∃ b19, w15.cell? ⟨w.heap.size, 3, none⟩ = some (.bool b19) ∧
 (R (.returned (.agg #[(.int .i64 n16), (.bool b17), (.bool b18), (.bool b19)])) w15)))))))))) (w9.there w.heap.size 0 4 ∧
 (∀ w20, w20 = w9.setCells w.heap.size 0 [(.int .i64 0), (.bool false), (.bool false), (.bool false)] →
 (∃ n21, w20.cell? ⟨w.heap.size, 0, none⟩ = some (.int .i64 n21) ∧ (∃ b22, w20.cell? ⟨w.heap.size, 1, none⟩ = some (.bool b22) ∧
 (∃ b23, w20.cell? ⟨w.heap.size, 2, none⟩ = some (.bool b23) ∧ (∃ b24, w20.cell? ⟨w.heap.size, 3, none⟩ = some (.bool b24) ∧
 (R (.returned (.agg #[(.int .i64 n21), (.bool b22), (.bool b23), (.bool b24)])) w20)))))))))))))))))))
theorem callsCohortLock_probe (q0 : Nat) (q1 qo1 : Nat) (a2 a3 : Int) (R : Ending → 
    World → Prop) (w : World) (h : preCohortLock_probe q0 q1 qo1 a2 a3 R w) : Calls Tryz.prog 202 #[(.pointer (some ⟨q0, 0, none⟩)), (.pointer (some ⟨q1, qo1, none⟩)), (.int .i64 a2), (.int .i64 a3)] w R :=
  calls_of_sym Tryz.func202 (c := bodyOf Tryz.f202) rfl (Eq.mpr (by kernel_rfl) h)

/-- (*weighlock/cohort.Lock).look -/
def preCohortLock_look (q0 : Nat) (q1 qo1 : Nat) (a2 a3 : Int) (R : Ending → 
    World → Prop) (w : World) : Prop :=
  ∀ w0, w0 = w.alloc (.cells #[(.int .i64 0), (.bool false), (.bool false), (.bool false)] 86) →
 (∀ w1, w1 = w0.drew → (∃ p2, w1.cell? ⟨q0, 1, none⟩ = some (.pointer p2) ∧ (∃ n3, w1.cell? ⟨q0, 2, none⟩ = some (.int .i64 n3) ∧
 (∃ n4, w1.cell? ⟨q1, qo1, none⟩ = some (.int .i64 n4) ∧ (Calls Tryz.prog 200 #[(.pointer p2), (.int .i64 a2), (.int .i64 (IntKind.i64.wrap (n3 + n4)))] w1 (fun e5 w6 =>
 ∃ n7, e5 = .returned (.int .u32 n7) ∧ (Br (n7 != 0) (w6.there w.heap.size 0 4 ∧
 (∀ w8, w8 = w6.setCells w.heap.size 0 [(.int .i64 1), (.bool false), (.bool false), (.bool false)] →
 (∃ n9, w8.cell? ⟨w.heap.size, 0, none⟩ = some (.int .i64 n9) ∧ (∃ b10, w8.cell? ⟨w.heap.size, 1, none⟩ = some (.bool b10) ∧
 (∃ b11, w8.cell? ⟨w.heap.size, 2, none⟩ = some (.bool b11) ∧ (∃ b12, w8.cell? ⟨w.heap.size, 3, none⟩ = some (.bool b12) ∧
 (R (.returned (.agg #[(.int .i64 n9), (.bool b10), (.bool b11), (.bool b12)])) w8))))))) (∀ w13, w13 = w6.drew →
 (∃ v14, w13.cell? ⟨q0, 4, none⟩ = some v14 ∧ (∃ n15, w13.cell? ⟨q1, qo1, none⟩ = some (.int .i64 n15) ∧
 (RawIf v14 (fun ty16 iv17 => Invoke Tryz.prog (Value.iface ty16 iv17) "Lock" #[(.int .i64 n15), (.int .i64 ((-1)))] w13 (fun e18 w19 =>
 ∃ n20, e18 = .returned (.int .i64 n20) ∧ (oneCells [(.func (.func 219) #[] #[])] ∧ (CanSet w19 q1 (qo1 + 2) ∧
 (∀ w21, w21 = w19.setCell ⟨q1, qo1 + 2, none⟩ (.func (.func 219) #[] #[]) → (w21.there w.heap.size 0 4 ∧
 (∀ w22, w22 = w21.setCells w.heap.size 0 [(.int .i64 0), (.bool false), (.bool false), (.bool false)] →
 (∃ n23, w22.cell? ⟨w.heap.size, 0, none⟩ = some (.int .i64 n23) ∧ (∃ b24, w22.cell? ⟨w.heap.size, 1, none⟩ = some (.bool b24) ∧
 (∃ b25, w22.cell? ⟨w.heap.size, 2, none⟩ = some (.bool b25) ∧ (∃ b26, w22.cell? ⟨w.heap.size, 3, none⟩ = some (.bool b26) ∧
 (R (.returned (.agg #[(.int .i64 n23), (.bool b24), (.bool b25), (.bool b26)])) w22)))))))))))))))))))))))
theorem callsCohortLock_look (q0 : Nat) (q1 qo1 : Nat) (a2 a3 : Int) (R : Ending → 
    World → Prop) (w : World) (h : preCohortLock_look q0 q1 qo1 a2 a3 R w) : Calls Tryz.prog 203 #[(.pointer (some ⟨q0, 0, none⟩)), (.pointer (some ⟨q1, qo1, none⟩)), (.int .i64 a2), (.int .i64 a3)] w R :=
  calls_of_sym Tryz.func203 (c := bodyOf Tryz.f203) rfl (Eq.mpr (by kernel_rfl) h)

/-- (*weighlock/cohort.Lock).leave -/
def preCohortLock_leave (q0 : Nat) (q1 qo1 : Nat) (a2 a3 : Int) (R : Ending → 
    World → Prop) (w : World) : Prop :=
  ∀ w0, w0 = w.alloc (.cells #[(.int .i64 0), (.bool false), (.bool false), (.bool false)] 86) →
 (∀ w1, w1 = w0.drew → (∃ v2, w1.cell? ⟨q0, 4, none⟩ = some v2 ∧ (∃ n3, w1.cell? ⟨q1, qo1, none⟩ = some (.int .i64 n3) ∧
 (RawIf v2 (fun ty4 iv5 => Invoke Tryz.prog (Value.iface ty4 iv5) "Step" #[(.int .i64 n3), (.int .i64 a2), (.int .i64 a3)] w1 (fun e6 w7 =>
 ∃ n8 b9 b10 b11, e6 = .returned (.agg #[(.int .i64 n8), (.bool b9), (.bool b10), (.bool b11)]) ∧
 (Br (n8 == 3) (Calls Tryz.prog 241 #[(.pointer (some ⟨q0, 0, none⟩)), (.pointer (some ⟨q1, qo1, none⟩))] w7 (fun e12 w13 =>
 ∃ n14 b15 b16 b17, e12 = .returned (.agg #[(.int .i64 n14), (.bool b15), (.bool b16), (.bool b17)]) ∧
 (w13.there w.heap.size 0 4 ∧ (∀ w18, w18 = w13.setCells w.heap.size 0 [(.int .i64 n14), (.bool b15), (.bool b16), (.bool b17)] →
 (∃ n19, w18.cell? ⟨w.heap.size, 0, none⟩ = some (.int .i64 n19) ∧ (∃ b20, w18.cell? ⟨w.heap.size, 1, none⟩ = some (.bool b20) ∧
 (∃ b21, w18.cell? ⟨w.heap.size, 2, none⟩ = some (.bool b21) ∧ (∃ b22, w18.cell? ⟨w.heap.size, 3, none⟩ = some (.bool b22) ∧
 (R (.returned (.agg #[(.int .i64 n19), (.bool b20), (.bool b21), (.bool b22)])) w18))))))))) (w7.there w.heap.size 0 4 ∧
 (∀ w23, w23 = w7.setCells w.heap.size 0 [(.int .i64 0), (.bool false), (.bool false), (.bool false)] →
 (∃ n24, w23.cell? ⟨w.heap.size, 0, none⟩ = some (.int .i64 n24) ∧ (∃ b25, w23.cell? ⟨w.heap.size, 1, none⟩ = some (.bool b25) ∧
 (∃ b26, w23.cell? ⟨w.heap.size, 2, none⟩ = some (.bool b26) ∧ (∃ b27, w23.cell? ⟨w.heap.size, 3, none⟩ = some (.bool b27) ∧
 (R (.returned (.agg #[(.int .i64 n24), (.bool b25), (.bool b26), (.bool b27)])) w23))))))))))))))
theorem callsCohortLock_leave (q0 : Nat) (q1 qo1 : Nat) (a2 a3 : Int) (R : Ending → 
    World → Prop) (w : World) (h : preCohortLock_leave q0 q1 qo1 a2 a3 R w) : Calls Tryz.prog 217 #[(.pointer (some ⟨q0, 0, none⟩)), (.pointer (some ⟨q1, qo1, none⟩)), (.int .i64 a2), (.int .i64 a3)] w R :=
  calls_of_sym Tryz.func217 (c := bodyOf Tryz.f217) rfl (Eq.mpr (by kernel_rfl) h)

/-- (*weighlock/cohort.Lock).more -/
def preCohortLock_more (q0 : Nat) (q1 qo1 : Nat) (a2 a3 : Int) (R : Ending → 
    World → Prop) (w : World) : Prop :=
  ∀ w0, w0 = w.alloc (.cells #[(.int .i64 0), (.bool false), (.bool false), (.bool false)] 86) →
 (∀ w1, w1 = w0.drew → (∃ p2, w1.cell? ⟨q0, 1, none⟩ = some (.pointer p2) ∧ (∃ n3, w1.cell? ⟨q0, 2, none⟩ = some (.int .i64 n3) ∧
 (∃ n4, w1.cell? ⟨q1, qo1, none⟩ = some (.int .i64 n4) ∧ (∃ n5, w1.cell? ⟨q1, qo1 + 3, none⟩ = some (.int .u32 n5) ∧
 (Calls Tryz.prog 216 #[(.pointer p2), (.int .i64 a2), (.int .i64 (IntKind.i64.wrap (n3 + n4))), (.int .u32 (IntKind.u32.wrap (n5 + 1)))] w1 (fun e6 w7 =>
 e6 = .returned (.tuple #[]) ∧ (Calls Tryz.prog 241 #[(.pointer (some ⟨q0, 0, none⟩)), (.pointer (some ⟨q1, qo1, none⟩))] w7 (fun e8 w9 =>
 ∃ n10 b11 b12 b13, e8 = .returned (.agg #[(.int .i64 n10), (.bool b11), (.bool b12), (.bool b13)]) ∧
 (w9.there w.heap.size 0 4 ∧ (∀ w14, w14 = w9.setCells w.heap.size 0 [(.int .i64 n10), (.bool b11), (.bool b12), (.bool b13)] →
 (∃ n15, w14.cell? ⟨w.heap.size, 0, none⟩ = some (.int .i64 n15) ∧ (∃ b16, w14.cell? ⟨w.heap.size, 1, none⟩ = some (.bool b16) ∧
 (∃ b17, w14.cell? ⟨w.heap.size, 2, none⟩ = some (.bool b17) ∧ (∃ b18, w14.cell? ⟨w.heap.size, 3, none⟩ = some (.bool b18) ∧
 (R (.returned (.agg #[(.int .i64 n15), (.bool b16), (.bool b17), (.bool b18)])) w14))))))))))))))))
theorem callsCohortLock_more (q0 : Nat) (q1 qo1 : Nat) (a2 a3 : Int) (R : Ending → 
    World → Prop) (w : World) (h : preCohortLock_more q0 q1 qo1 a2 a3 R w) : Calls Tryz.prog 218 #[(.pointer (some ⟨q0, 0, none⟩)), (.pointer (some ⟨q1, qo1, none⟩)), (.int .i64 a2), (.int .i64 a3)] w R :=
  calls_of_sym Tryz.func218 (c := bodyOf Tryz.f218) rfl (Eq.mpr (by kernel_rfl) h)

/-- (*weighlock/cohort.Lock).wide -/
def preCohortLock_wide (q0 : Nat) (q1 qo1 : Nat) (a2 a3 : Int) (R : Ending → 
    World → Prop) (w : World) : Prop :=
  ∀ w0, w0 = w.alloc (.cells #[(.int .i64 0), (.bool false), (.bool false), (.bool false)] 86) →
 (∀ w1, w1 = w0.drew → (∃ v2, w1.cell? ⟨q0, 4, none⟩ = some v2 ∧ (∃ n3, w1.cell? ⟨q1, qo1, none⟩ = some (.int .i64 n3) ∧
 (RawIf v2 (fun ty4 iv5 => (Invoke Tryz.prog (Value.iface ty4 iv5) "Step" #[(.int .i64 n3), (.int .i64 a2), (.int .i64 a3)] w1 (fun e6 w7 =>
 ∃ n8 b9 b10 b11, e6 = .returned (.agg #[(.int .i64 n8), (.bool b9), (.bool b10), (.bool b11)]) ∧
 (∀ w12, w12 = w7.alloc (.cells #[(.int .i64 0), (.bool false), (.bool false), (.bool false)] 86) →
 (w12.there w7.heap.size 0 4 ∧ (∀ w13, w13 = w12.setCells w7.heap.size 0 [(.int .i64 n8), (.bool b9), (.bool b10), (.bool b11)] →
 (∃ n14, w13.cell? ⟨w7.heap.size, 0, none⟩ = some (.int .i64 n14) ∧ (Br (n14 == 1) (oneCells [(.func (.func 242) #[] #[])] ∧
 (CanSet w13 q1 (qo1 + 2) ∧ (∀ w15, w15 = w13.setCell ⟨q1, qo1 + 2, none⟩ (.func (.func 242) #[] #[]) →
 (∃ b16, w15.cell? ⟨w7.heap.size, 1, none⟩ = some (.bool b16) ∧ (w15.there w.heap.size 0 4 ∧
 (∀ w17, w17 = w15.setCells w.heap.size 0 [(.int .i64 0), (.bool false), (.bool b16), (.bool false)] →
 (∃ n18, w17.cell? ⟨w.heap.size, 0, none⟩ = some (.int .i64 n18) ∧ (∃ b19, w17.cell? ⟨w.heap.size, 1, none⟩ = some (.bool b19) ∧
 (∃ b20, w17.cell? ⟨w.heap.size, 2, none⟩ = some (.bool b20) ∧ (∃ b21, w17.cell? ⟨w.heap.size, 3, none⟩ = some (.bool b21) ∧
 (R (.returned (.agg #[(.int .i64 n18), (.bool b19), (.bool b20), (.bool b21)])) w17))))))))))) (∃ b22, w13.cell? ⟨w7.heap.size, 1, none⟩ = some (.bool b22) ∧
 (w13.there w.heap.size 0 4 ∧ (∀ w23, w23 = w13.setCells w.heap.size 0 [(.int .i64 0), (.bool false), (.bool b22), (.bool false)] →
 (∃ n24, w23.cell? ⟨w.heap.size, 0, none⟩ = some (.int .i64 n24) ∧ (∃ b25, w23.cell? ⟨w.heap.size, 1, none⟩ = some (.bool b25) ∧
 (∃ b26, w23.cell? ⟨w.heap.size, 2, none⟩ = some (.bool b26) ∧ (∃ b27, w23.cell? ⟨w.heap.size, 3, none⟩ = some (.bool b27) ∧
 (R (.returned (.agg #[(.int .i64 n24), (.bool b25), (.bool b26), (.bool b27)])) w23))))))))))))))) ∧
 (∀ w28, w28 = w1.alloc (.cells #[(.int .i64 0), (.bool false), (.bool false), (.bool false)] 86) →
 ((w28.cell? ⟨q1, qo1, none⟩ = some (.int .i64 n3)) ∧ ((w28.cell? ⟨q0, 4, none⟩ = some v2) ∧ (Invoke Tryz.prog (Value.iface ty4 iv5) "Step" #[(.int .i64 n3), (.int .i64 a2), (.int .i64 a3)] w28 (fun e29 w30 =>
 ∃ n31 b32 b33 b34, e29 = .returned (.agg #[(.int .i64 n31), (.bool b32), (.bool b33), (.bool b34)]) ∧
 (w30.there w1.heap.size 0 4 ∧ (∀ w35, w35 = w30.setCells w1.heap.size 0 [(.int .i64 n31), (.bool b32), (.bool b33), (.bool b34)] →
 (∃ n36, w35.cell? ⟨w1.heap.size, 0, none⟩ = some (.int .i64 n36) ∧ (Br (n36 == 1) (oneCells [(.func (.func 242) #[] #[])] ∧
 (CanSet w35 q1 (qo1 + 2) ∧ (∀ w37, w37 = w35.setCell ⟨q1, qo1 + 2, none⟩ (.func (.func 242) #[] #[]) →
 (∃ b38, w37.cell? ⟨w1.heap.size, 1, none⟩ = some (.bool b38) ∧ (w37.there w.heap.size 0 4 ∧
 (∀ w39, w39 = w37.setCells w.heap.size 0 [(.int .i64 0), (.bool false), (.bool b38), (.bool false)] →
 (∃ n40, w39.cell? ⟨w.heap.size, 0, none⟩ = some (.int .i64 n40) ∧ (∃ b41, w39.cell? ⟨w.heap.size, 1, none⟩ = some (.bool b41) ∧
 (∃ b42, w39.cell? ⟨w.heap.size, 2, none⟩ = some (.bool b42) ∧ (∃ b43, w39.cell? ⟨w.heap.size, 3, none⟩ = some (.bool b43) ∧
 (R (.returned (.agg #[(.int .i64 n40), (.bool b41), (.bool b42), (.bool b43)])) w39))))))))))) (∃ b44, w35.cell? ⟨w1.heap.size, 1, none⟩ = some (.bool b44) ∧
 (w35.there w.heap.size 0 4 ∧ (∀ w45, w45 = w35.setCells w.heap.size 0 [(.int .i64 0), (.bool false), (.bool b44), (.bool false)] →
 (∃ n46, w45.cell? ⟨w.heap.size, 0, none⟩ = some (.int .i64 n46) ∧ (∃ b47, w45.cell? ⟨w.heap.size, 1, none⟩ = some (.bool b47) ∧
 (∃ b48, w45.cell? ⟨w.heap.size, 2, none⟩ = some (.bool b48) ∧ (∃ b49, w45.cell? ⟨w.heap.size, 3, none⟩ = some (.bool b49) ∧
 (R (.returned (.agg #[(.int .i64 n46), (.bool b47), (.bool b48), (.bool b49)])) w45))))))))))))))))))))))
theorem callsCohortLock_wide (q0 : Nat) (q1 qo1 : Nat) (a2 a3 : Int) (R : Ending → 
    World → Prop) (w : World) (h : preCohortLock_wide q0 q1 qo1 a2 a3 R w) : Calls Tryz.prog 219 #[(.pointer (some ⟨q0, 0, none⟩)), (.pointer (some ⟨q1, qo1, none⟩)), (.int .i64 a2), (.int .i64 a3)] w R :=
  calls_of_sym Tryz.func219 (c := bodyOf Tryz.f219) rfl (Eq.mpr (by kernel_rfl) h)

/-- (*weighlock/cohort.Lock).away -/
def preCohortLock_away (q0 : Nat) (q1 qo1 : Nat) (R : Ending → World → 
    Prop) (w : World) : Prop :=
  ∀ w0, w0 = w.alloc (.cells #[(.int .i64 0), (.bool false), (.bool false), (.bool false)] 86) →
 (∀ w1, w1 = w0.drew → (∃ n2, w1.cell? ⟨q1, qo1, none⟩ = some (.int .i64 n2) ∧ (((0 : Int) ≤ n2 ∧
 n2 < ((8 : Nat) : Int)) ∧ (∃ v3, w1.cell? ⟨q0, 5 + (Int.toNat n2), none⟩ = some v3 ∧ (∃ n4, w1.cell? ⟨q1, qo1 + 1, none⟩ = some (.int .i64 n4) ∧
 (RawIf v3 (fun ty5 iv6 => Invoke Tryz.prog (Value.iface ty5 iv6) "Unlock" #[(.int .i64 n4)] w1 (fun e7 w8 =>
 ∃ n9, e7 = .returned (.int .i64 n9) ∧ (oneCells [(.func (.func 255) #[] #[])] ∧ (CanSet w8 q1 (qo1 + 2) ∧
 (∀ w10, w10 = w8.setCell ⟨q1, qo1 + 2, none⟩ (.func (.func 255) #[] #[]) → (w10.there w.heap.size 0 4 ∧
 (∀ w11, w11 = w10.setCells w.heap.size 0 [(.int .i64 0), (.bool false), (.bool false), (.bool false)] →
 (∃ n12, w11.cell? ⟨w.heap.size, 0, none⟩ = some (.int .i64 n12) ∧ (∃ b13, w11.cell? ⟨w.heap.size, 1, none⟩ = some (.bool b13) ∧
 (∃ b14, w11.cell? ⟨w.heap.size, 2, none⟩ = some (.bool b14) ∧ (∃ b15, w11.cell? ⟨w.heap.size, 3, none⟩ = some (.bool b15) ∧
 (R (.returned (.agg #[(.int .i64 n12), (.bool b13), (.bool b14), (.bool b15)])) w11))))))))))))))))))
theorem callsCohortLock_away (q0 : Nat) (q1 qo1 : Nat) (R : Ending → 
    World → Prop) (w : World) (h : preCohortLock_away q0 q1 qo1 R w) : Calls Tryz.prog 241 #[(.pointer (some ⟨q0, 0, none⟩)), (.pointer (some ⟨q1, qo1, none⟩))] w R :=
  calls_of_sym Tryz.func241 (c := bodyOf Tryz.f241) rfl (Eq.mpr (by kernel_rfl) h)

/-- (*weighlock/cohort.Lock).first -/
def preCohortLock_first (q0 : Nat) (q1 qo1 : Nat) (a2 a3 : Int) (R : Ending → 
    World → Prop) (w : World) : Prop :=
  ∀ w0, w0 = w.alloc (.cells #[(.int .i64 0), (.bool false), (.bool false), (.bool false)] 86) →
 (∀ w1, w1 = w0.drew → (∃ p2, w1.cell? ⟨q0, 1, none⟩ = some (.pointer p2) ∧ (∃ n3, w1.cell? ⟨q0, 2, none⟩ = some (.int .i64 n3) ∧
 (∃ n4, w1.cell? ⟨q1, qo1, none⟩ = some (.int .i64 n4) ∧ (Calls Tryz.prog 216 #[(.pointer p2), (.int .i64 a2), (.int .i64 (IntKind.i64.wrap (n3 + n4))), (.int .u32 1)] w1 (fun e5 w6 =>
 e5 = .returned (.tuple #[]) ∧ (w6.there w.heap.size 0 4 ∧ (∀ w7, w7 = w6.setCells w.heap.size 0 [(.int .i64 1), (.bool false), (.bool false), (.bool true)] →
 (∃ n8, w7.cell? ⟨w.heap.size, 0, none⟩ = some (.int .i64 n8) ∧ (∃ b9, w7.cell? ⟨w.heap.size, 1, none⟩ = some (.bool b9) ∧
 (∃ b10, w7.cell? ⟨w.heap.size, 2, none⟩ = some (.bool b10) ∧ (∃ b11, w7.cell? ⟨w.heap.size, 3, none⟩ = some (.bool b11) ∧
 (R (.returned (.agg #[(.int .i64 n8), (.bool b9), (.bool b10), (.bool b11)])) w7)))))))))))))
theorem callsCohortLock_first (q0 : Nat) (q1 qo1 : Nat) (a2 a3 : Int) (R : Ending → 
    World → Prop) (w : World) (h : preCohortLock_first q0 q1 qo1 a2 a3 R w) : Calls Tryz.prog 242 #[(.pointer (some ⟨q0, 0, none⟩)), (.pointer (some ⟨q1, qo1, none⟩)), (.int .i64 a2), (.int .i64 a3)] w R :=
  calls_of_sym Tryz.func242 (c := bodyOf Tryz.f242) rfl (Eq.mpr (by kernel_rfl) h)

/-- (*weighlock/cohort.Lock).out -/
def preCohortLock_out (q0 : Nat) (q1 qo1 : Nat) (a2 a3 : Int) (R : Ending → 
    World → Prop) (w : World) : Prop :=
  ∀ w0, w0 = w.alloc (.cells #[(.int .i64 0), (.bool false), (.bool false), (.bool false)] 86) →
 (∀ w1, w1 = w0.drew → (∃ n2, w1.cell? ⟨q1, qo1, none⟩ = some (.int .i64 n2) ∧ (((0 : Int) ≤ n2 ∧
 n2 < ((8 : Nat) : Int)) ∧ (∃ v3, w1.cell? ⟨q0, 5 + (Int.toNat n2), none⟩ = some v3 ∧ (∃ n4, w1.cell? ⟨q1, qo1 + 1, none⟩ = some (.int .i64 n4) ∧
 (RawIf v3 (fun ty5 iv6 => Invoke Tryz.prog (Value.iface ty5 iv6) "Step" #[(.int .i64 n4), (.int .i64 a2), (.int .i64 a3)] w1 (fun e7 w8 =>
 ∃ n9 b10 b11 b12, e7 = .returned (.agg #[(.int .i64 n9), (.bool b10), (.bool b11), (.bool b12)]) ∧
 (w8.there w.heap.size 0 4 ∧ (∀ w13, w13 = w8.setCells w.heap.size 0 [(.int .i64 n9), (.bool false), (.bool false), (.bool false)] →
 (∃ n14, w13.cell? ⟨w.heap.size, 0, none⟩ = some (.int .i64 n14) ∧ (∃ b15, w13.cell? ⟨w.heap.size, 1, none⟩ = some (.bool b15) ∧
 (∃ b16, w13.cell? ⟨w.heap.size, 2, none⟩ = some (.bool b16) ∧ (∃ b17, w13.cell? ⟨w.heap.size, 3, none⟩ = some (.bool b17) ∧
 (R (.returned (.agg #[(.int .i64 n14), (.bool b15), (.bool b16), (.bool b17)])) w13)))))))))))))))
theorem callsCohortLock_out (q0 : Nat) (q1 qo1 : Nat) (a2 a3 : Int) (R : Ending → 
    World → Prop) (w : World) (h : preCohortLock_out q0 q1 qo1 a2 a3 R w) : Calls Tryz.prog 255 #[(.pointer (some ⟨q0, 0, none⟩)), (.pointer (some ⟨q1, qo1, none⟩)), (.int .i64 a2), (.int .i64 a3)] w R :=
  calls_of_sym Tryz.func255 (c := bodyOf Tryz.f255) rfl (Eq.mpr (by kernel_rfl) h)

end Go.Proofs.YtollfjfcdofbaaaGreat
