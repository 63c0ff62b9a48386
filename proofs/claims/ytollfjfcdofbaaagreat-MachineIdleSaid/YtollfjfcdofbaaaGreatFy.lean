/- The document's configuration among a law's arguments, opened; the statement that MachineNews proves. -/
import Derived.Test.YtollfjfcdofbaaaGreatFz
namespace Go.Proofs.YtollfjfcdofbaaaGreat
open Go Go.Proofs Go.ChangeShapes Go.WideShapes Go.ChangeAt Go.RowKit
set_option linter.unusedSimpArgs false
set_option linter.unusedVariables false
set_option maxRecDepth 100000

theorem open_cf {H : Type} {enc : TypeId × Value → H} {W : World} {r : Go.Reach} {b0 : Nat} {v : Value} {d : DataW H} {ps : List MemPlace}
    (hval : Value.okWide Tryz.prog W r b0 74 v) (h : DataW.Trod enc Tryz.prog W 0 (fun _ => true) true 74 v d ps) :
    ∃ (c : Cf) (p : Option Addr) (cap : Nat), v = c.val p cap ∧ ROi W [] p c.homes := by
  obtain ⟨cs, rfl, hcs⟩ := okWide_struct Tryz.underlying74 hval
  obtain ⟨fuel, hf⟩ := h
  obtain ⟨xs, n, _, _, hl, hx, hfs⟩ := DataW.trod_struct Tryz.underlying74 hf
  have hlen : cs.size = 8 := by rw [hcs]; kernel_rfl
  obtain ⟨l⟩ := cs
  match l, hlen with
  | [v0, v1, v2, v3, v4, v5, v6, v7], _ =>
    have hx8 : xs.length = 8 := by rw [hx]; rfl
    match xs, hx8 with
    | [x0, x1, x2, x3, x4, x5, x6, x7], _ =>
      have h0 : DataW.trod enc Tryz.prog W 0 (fun _ => true) true n 3 (List.take (Tryz.prog.cellsOf 3) (List.drop 0 [v0, v1, v2, v3, v4, v5, v6, v7])) = some x0 := hfs 0 _ rfl
      have h1 : DataW.trod enc Tryz.prog W 0 (fun _ => true) true n 22 (List.take (Tryz.prog.cellsOf 22) (List.drop 1 [v0, v1, v2, v3, v4, v5, v6, v7])) = some x1 := hfs 1 _ rfl
      have h2 : DataW.trod enc Tryz.prog W 0 (fun _ => true) true n 29 (List.take (Tryz.prog.cellsOf 29) (List.drop 2 [v0, v1, v2, v3, v4, v5, v6, v7])) = some x2 := hfs 2 _ rfl
      have h3 : DataW.trod enc Tryz.prog W 0 (fun _ => true) true n 3 (List.take (Tryz.prog.cellsOf 3) (List.drop 3 [v0, v1, v2, v3, v4, v5, v6, v7])) = some x3 := hfs 3 _ rfl
      have h4 : DataW.trod enc Tryz.prog W 0 (fun _ => true) true n 3 (List.take (Tryz.prog.cellsOf 3) (List.drop 4 [v0, v1, v2, v3, v4, v5, v6, v7])) = some x4 := hfs 4 _ rfl
      have h5 : DataW.trod enc Tryz.prog W 0 (fun _ => true) true n 3 (List.take (Tryz.prog.cellsOf 3) (List.drop 5 [v0, v1, v2, v3, v4, v5, v6, v7])) = some x5 := hfs 5 _ rfl
      have h6 : DataW.trod enc Tryz.prog W 0 (fun _ => true) true n 3 (List.take (Tryz.prog.cellsOf 3) (List.drop 6 [v0, v1, v2, v3, v4, v5, v6, v7])) = some x6 := hfs 6 _ rfl
      have h7 : DataW.trod enc Tryz.prog W 0 (fun _ => true) true n 3 (List.take (Tryz.prog.cellsOf 3) (List.drop 7 [v0, v1, v2, v3, v4, v5, v6, v7])) = some x7 := hfs 7 _ rfl
      have c3 : Tryz.prog.cellsOf 3 = 1 := by kernel_rfl
      have c22 : Tryz.prog.cellsOf 22 = 1 := by kernel_rfl
      have c29 : Tryz.prog.cellsOf 29 = 1 := by kernel_rfl
      rw [c3] at h0 h3 h4 h5 h6 h7
      rw [c22] at h1
      rw [c29] at h2
      obtain ⟨n0, e0, _⟩ := open_int64 h0
      obtain ⟨p, hs, cap, e1, hr⟩ := open_homes h1
      obtain ⟨n2, e2, _⟩ := open_u32 h2
      obtain ⟨n3, e3, _⟩ := open_int64 h3
      obtain ⟨n4, e4, _⟩ := open_int64 h4
      obtain ⟨n5, e5, _⟩ := open_int64 h5
      obtain ⟨n6, e6, _⟩ := open_int64 h6
      obtain ⟨n7, e7, _⟩ := open_int64 h7
      simp at e0 e1 e2 e3 e4 e5 e6 e7
      subst e0 e1 e2 e3 e4 e5 e6 e7
      exact ⟨⟨n0, hs, n2, n3, n4, n5, n6, n7⟩, p, cap, rfl, hr⟩
end Go.Proofs.YtollfjfcdofbaaaGreat
