/- The lock of locks: the locks in it made, and used. -/
import Derived.Test.YtollfjfcdofbaaaGreatLf
namespace Go.Proofs.YtollfjfcdofbaaaGreat
open Go Go.Proofs
set_option linter.unusedSimpArgs false
set_option linter.unusedVariables false
set_option maxRecDepth 100000
set_option maxHeartbeats 4000000
-- NB 4

namespace LIA
def setPa : LIA → PA → LIA
  | .tic a, q => .tic { a with pa := q } | .clh a m, q => .clh { a with pa := q } m | .mcs a, q => .mcs { a with pa := q }
@[simp] theorem setPa_pa (a : LIA) (q : PA) : (a.setPa q).pa = q := by cases a <;> rfl
@[simp] theorem setPa_v (a : LIA) (q : PA) : (a.setPa q).v = a.v := by cases a <;> rfl
end LIA
namespace LI
/-- where it lies while the cell of its port holds C -/
def blkC (C : Value) : LIA → LI → Blocks
  | .tic a, .tic s => (a.l, [ptr a.sa.s, C, i64 s.next, i64 s.owner, slv a.nb s.ss.l.length, slv a.db s.ss.l.length]) :: (a.nb, ints .u32 s.numbers) :: (a.db, bools s.drew) :: seatL a.sa s.ss
  | .clh a m, .clh s => (a.l, [ptr a.sa.s, C, i64 s.tail, .slice (some ⟨a.rb, 0, none⟩) s.ss.l.length a.rc]) :: (a.rb, rows clRow (s.places ++ m)) :: seatL a.sa s.ss
  | .mcs a, .mcs s => (a.l, [ptr a.sa.s, C, i64 s.tail, slv a.rb s.ss.l.length]) :: (a.rb, rows mcRow s.places) :: seatL a.sa s.ss
  | _, _ => []
theorem blkC_pa (C : Value) (a : LIA) (s : LI) (q : PA) : blkC C (a.setPa q) s = blkC C a s := by cases a <;> cases s <;> rfl
theorem blkC_own (a : LIA) (s : LI) : blkC (ptr a.pa.p) a s = blk a s := by cases a <;> cases s <;> rfl
theorem fits_pa {a : LIA} {s : LI} (h : fits a s) (q : PA) : fits (a.setPa q) s := by cases a <;> cases s <;> exact h
end LI
theorem liUse (a : LIA) (s : LI) (hf : LI.fits a s) (C : Value) (q : PA) : SpI a.v "Use" #[ptr q.p] (LI.blkC C a s) (.tuple #[]) (LI.blk (a.setPa q) s) := by
  cases a with
  | tic a => cases s with
    | tic s => exact useI methFlat (by kernel_rfl) (flatUse { a with pa := q } s 0 C [])
    | clh s => exact hf.elim
    | mcs s => exact hf.elim
  | clh a m => cases s with
    | tic s => exact hf.elim
    | clh s => exact useI methClh (by kernel_rfl) (clhUse { a with pa := q } (s.ext m) C)
    | mcs s => exact hf.elim
  | mcs a => cases s with
    | tic s => exact hf.elim
    | clh s => exact hf.elim
    | mcs s => exact useI methMcs (by kernel_rfl) (mcsUse { a with pa := q } s C)

/-! ## made -/
def seats0 (n : Nat) (timed probed : Bool) : SS := ⟨List.replicate n (0, -1), timed, probed⟩
def FS.first (n : Nat) (at_ own : Int) : FS := ⟨seats0 n false true, at_, own, List.replicate n 0, List.replicate n false⟩
def HS.first (n : Nat) (at_ : Int) : HS := ⟨seats0 n false true, at_, clhPl n, []⟩
def IS.first (n : Nat) (at_ : Int) : IS := ⟨seats0 n false true, at_, List.replicate n (0, 0)⟩
def LI.first (kind : Int) (n : Nat) (at_ : Int) : LI := if kind = 1 then .tic (FS.first n at_ (at_ + 1)) else if kind = 3 then .clh (HS.first n at_) else .mcs (IS.first n at_)
def innerH (kind : Int) (xs : List Int) : List Int :=
  if kind = 1 then [xs.getD 0 0, xs.getD 0 0] else if kind = 3 then xs.getD 0 0 :: xs.getD 0 0 :: xs else xs.getD 0 0 :: xs.flatMap fun h => [h, h]
def innerW (kind : Int) (n : Nat) : List Int := if kind = 1 then [0, 0] else if kind = 3 then List.replicate (2 + n) 0 else List.replicate (1 + 2 * n) 0
theorem LI.first_ss (kind : Int) (n : Nat) (at_ : Int) : (LI.first kind n at_).ss = seats0 n false true := by unfold LI.first; split; rfl; split <;> rfl
theorem LI.first_wf (kind : Int) (n : Nat) (at_ : Int) : (LI.first kind n at_).wf := by
  unfold LI.first
  split
  · exact ⟨by simp [FS.first, seats0], by simp [FS.first, seats0]⟩
  · split
    · simp [LI.wf, HS.first, seats0, clhPl]
    · simp [LI.wf, IS.wf, IS.first, seats0]
theorem Grew.off {a a' : LA} {s s' : LS} {hs ws : List Int} (g : Grew a s a' s' hs ws) : s'.n = s.n + hs.length := g.n
theorem cohInner (a : LA) (s : LS) (hs : s.ok a) (hb : s.n ≤ 100000) (kind : Int) (p : Option Addr) (xs : List Int) (c : Nat) (hl : xs.length ≤ 1000000) (hx : newOk xs) :
    SpR Tryz.prog 91 #[ptr a.p, i64 kind, .slice p xs.length c] (fun w S => ROi w S p xs) (planL a s) (fun r A =>
      ∃ (la : LIA) (a' : LA) (s' : LS), r = la.v ∧ LI.fits la (LI.first kind xs.length s.n) ∧ Grew a s a' s' (innerH kind xs) (innerW kind xs.length) ∧
        A = LI.blkC (.pointer none) la (LI.first kind xs.length s.n) ++ planL a' s') := by
  intro w0 S w B hr H
  refine callsCohortInner _ _ _ _ _ _ _ ?_
  unfold preCohortInner
  by_cases c1 : kind = 1
  · refine Br_eq c1 ?_
    refine (flatNew a s hs hb p xs c 0 hl).go H [] B rfl (hr.sub H (H.keys (by intro q hq; simp [hq]))) (fun r A w' hq H => ?_)
    rcases hq with ⟨hno, _⟩ | ⟨_, l, nb, db, sa, a', s', rfl, g, rfl⟩
    · exact absurd hx hno
    · refine ⟨_, _, rfl, _, _, rfl, ⟨.tic ⟨l, nb, db, sa, ⟨0, 0, 0, 0, 0, 0, [], 0, 0, 0⟩⟩, a', s', rfl, ?_, ?_, rfl⟩, H.to ?_⟩
      · simp only [LI.first, if_pos c1]; trivial
      · simp only [innerH, innerW, if_pos c1]; exact g
      · simp only [LI.first, if_pos c1, LI.blkC, FS.first, seats0, flatN, List.length_replicate]; simp
  · refine Br_neq c1 ?_
    by_cases c3 : kind = 3
    · refine Br_eq c3 ?_
      refine (clhNew a s hs hb p xs c hl).go H [] B rfl (hr.sub H (H.keys (by intro q hq; simp [hq]))) (fun r A w' hq H => ?_)
      rcases hq with ⟨hno, _⟩ | ⟨_, l, rb, sa, all, a', s', rfl, g, ht, hle, rfl⟩
      · exact absurd hx hno
      · refine ⟨_, _, rfl, _, _, rfl, ⟨.clh ⟨l, rb, all.length, sa, ⟨0, 0, 0, 0, 0, 0, [], 0, 0, 0⟩⟩ (all.drop xs.length), a', s', rfl, ?_, ?_, rfl⟩, H.to ?_⟩
        · simp only [LI.first, if_neg c1, if_pos c3]; trivial
        · simp only [innerH, innerW, if_neg c1, if_pos c3]; exact g
        · simp only [LI.first, if_neg c1, if_pos c3, LI.blkC, HS.first, seats0, clhN, List.length_replicate, ← ht, List.take_append_drop, slB, slA, Option.map_some]; simp
    · refine Br_neq c3 ?_
      refine (mcsNew a s hs hb p xs c hl).go H [] B rfl (hr.sub H (H.keys (by intro q hq; simp [hq]))) (fun r A w' hq H => ?_)
      rcases hq with ⟨hno, _⟩ | ⟨_, l, rb, sa, a', s', rfl, g, rfl⟩
      · exact absurd hx hno
      · refine ⟨_, _, rfl, _, _, rfl, ⟨.mcs ⟨l, rb, sa, ⟨0, 0, 0, 0, 0, 0, [], 0, 0, 0⟩⟩, a', s', rfl, ?_, ?_, rfl⟩, H.to ?_⟩
        · simp only [LI.first, if_neg c1, if_neg c3]; trivial
        · simp only [innerH, innerW, if_neg c1, if_neg c3]; exact g
        · simp only [LI.first, if_neg c1, if_neg c3, LI.blkC, IS.first, seats0, mcsN, List.length_replicate]; simp
end Go.Proofs.YtollfjfcdofbaaaGreat
