/- Locks built of configurations. -/
import Derived.Test.YtollfjfcdofbaaaGreatLq
namespace Go.Proofs.YtollfjfcdofbaaaGreat
open Go Go.Proofs
set_option linter.unusedSimpArgs false
set_option linter.unusedVariables false
set_option maxRecDepth 100000
set_option maxHeartbeats 4000000
-- NB 4

namespace LkA
def setPa : LkA → PA → LkA
  | .inn a, q => .inn (a.setPa q) | .slo a, q => .slo { a with pa := q } | .abo a r, q => .abo { a with pa := q } r | .hie a m, q => .hie { a with pa := q } m | .coh a, q => .coh (a.setPa q)
@[simp] theorem setPa_pa (a : LkA) (q : PA) : (a.setPa q).pa = q := by cases a <;> first | rfl | exact LIA.setPa_pa _ _
@[simp] theorem setPa_v (a : LkA) (q : PA) : (a.setPa q).v = a.v := by cases a <;> first | rfl | exact LIA.setPa_v _ _
end LkA
namespace Lk
/-- where it lies while its cell for the port holds C -/
def blkC (C : Value) : LkA → Lk → Blocks
  | .inn a, .inn s => LI.blkC C a s
  | .slo a, .slo s => (a.l, [ptr a.sa.s, C, i64 s.tail, i64 s.n, slv a.rb s.ss.l.length]) :: (a.rb, rows slRow s.places) :: seatL a.sa s.ss
  | .abo a q, .abo s _ => (a.l, [ptr a.sa.s, C, ptr a.pool, i64 s.tail, slv a.rb s.ss.l.length]) :: (a.rb, rows abRow s.places) :: (seatL a.sa s.ss ++ poolL a.pool q)
  | .hie a m, .hie s => (a.l, [ptr a.sa.s, C, i64 s.tail, .slice (some ⟨a.rb, 0, none⟩) s.ss.l.length a.rc]) :: (a.rb, rows hiRow (s.places ++ m)) :: seatL a.sa s.ss
  | .coh a, .coh s => cohLC C a s
  | _, _ => []
/-- what is asked of a lock that has no port yet -/
def goodN : LkA → Lk → Prop
  | .inn a, .inn s => LI.fits a s ∧ s.wf
  | .slo _, .slo s => s.wf
  | .abo _ q, .abo s e => q.first s.ss.l.length e ∧ s.wf ∧ s.inv e
  | .hie _ _, .hie s => s.places.length = s.ss.l.length
  | .coh a, .coh s => (LI.fits a.glob s.glob ∧ s.glob.wf ∧ fitsL a.locs s.locs) ∧ s.ok ∧ s.todos
  | _, _ => False
theorem good_use {a : LkA} {s : Lk} (h : goodN a s) (q : PA) : good (a.setPa q) s := by
  cases a <;> cases s <;> try exact h.elim
  · exact ⟨LI.fits_pa h.1 q, h.2⟩
  · exact h
  · exact h
  · exact h
  · refine ⟨⟨LI.fits_pa h.1.1 q, h.1.2.1, fitsL_pa q h.1.2.2, LIA.setPa_pa _ _, fun x hx y hy => ?_⟩, h.2⟩
    subst hy
    simp only [CA.setPa, setPaL, List.mem_map] at hx
    obtain ⟨z, _, hz⟩ := hx
    cases z with
    | none => cases hz
    | some z => simp only [Option.map_some, Option.some.injEq] at hz; subst hz; exact LIA.setPa_pa _ _
end Lk
theorem lkUse {a : LkA} {s : Lk} (h : Lk.goodN a s) (C : Value) (q : PA) : SpI a.v "Use" #[ptr q.p] (Lk.blkC C a s) (.tuple #[]) (Lk.blk (a.setPa q) s) := by
  cases a <;> cases s <;> try exact h.elim
  · exact liUse _ _ h.1 C q
  · rename_i a s; exact useI methSlot (by kernel_rfl) (slotUse { a with pa := q } s C)
  · rename_i a r s e
    have k := (aboUse { a with pa := q } s C).frame (poolL a.pool r)
    exact useI methAbo (by kernel_rfl) (by simpa [Lk.blkC, Lk.blk, LkA.setPa] using k)
  · rename_i a m s
    exact useI methHie (by kernel_rfl) (hieUse { a with pa := q } (s.ext m) C)
  · rename_i a s
    exact useI methCoh (by kernel_rfl) (cohUse a s h.1.1 h.1.2.2 h.2.1.eight C q)

/-! ## configurations -/
structure Cf where
  kind : Int
  homes : List Int
  start : Int
  slots : Int
  pool : Int
  budget : Int
  glob : Int
  loc : Int
def Cf.val (c : Cf) (p : Option Addr) (cap : Nat) : Value := .agg #[i64 c.kind, .slice p c.homes.length cap, u32 c.start, i64 c.slots, i64 c.pool, i64 c.budget, i64 c.glob, i64 c.loc]
namespace Cf
instance (xs : List Int) : Decidable (newOk xs) := by unfold newOk; exact inferInstance
instance (xs : List Int) (m : Int) : Decidable (slotOk xs m) := by unfold slotOk; exact inferInstance
instance (g l b : Int) : Decidable (cohOk g l b) := by unfold cohOk; exact inferInstance
/-- the error's number -/
def err (c : Cf) : Int :=
  if c.kind < 1 ∨ 7 < c.kind then 7
  else if ¬ newOk c.homes then 1
  else if c.kind = 2 ∧ ¬ slotOk c.homes c.slots then 7
  else if c.kind = 5 ∧ ¬ (1 ≤ c.pool ∧ c.pool ≤ 8) then 7
  else if c.kind = 7 ∧ ¬ cohOk c.glob c.loc c.budget then 7
  else 0
def first (c : Cf) : Lk :=
  if c.kind = 1 then .inn (.tic (FS.first c.homes.length 0 1))
  else if c.kind = 2 then .slo ⟨seats0 c.homes.length false false, 0, c.slots, List.replicate c.homes.length (0, 0)⟩
  else if c.kind = 3 then .inn (.clh (HS.first c.homes.length 0))
  else if c.kind = 4 then .inn (.mcs (IS.first c.homes.length 0))
  else if c.kind = 5 then .abo ⟨seats0 c.homes.length true false, 0, List.replicate c.homes.length (0, 0, 0, 0)⟩ c.pool.toNat
  else if c.kind = 6 then .hie ⟨seats0 c.homes.length false false, 0, hiePl c.homes c.homes.length⟩
  else .coh (CS.first c.homes c.glob c.loc c.budget 0)
def wh (c : Cf) : List Int :=
  if c.kind = 1 then [c.homes.getD 0 0, c.homes.getD 0 0]
  else if c.kind = 2 then c.homes.getD 0 0 :: slotH c.homes c.slots.toNat
  else if c.kind = 3 then c.homes.getD 0 0 :: c.homes.getD 0 0 :: c.homes
  else if c.kind = 4 then c.homes.getD 0 0 :: c.homes.flatMap fun h => [h, h]
  else if c.kind = 5 then c.homes.getD 0 0 :: c.homes.flatMap fun h => List.replicate (3 * c.pool.toNat) h
  else if c.kind = 6 then c.homes.getD 0 0 :: (upTo 8 ++ c.homes ++ [c.homes.getD 0 0])
  else cohH c.homes c.glob c.loc
def ww (c : Cf) : List Int :=
  if c.kind = 1 then [c.start, c.start]
  else if c.kind = 2 then c.start :: slotW c.start c.slots c.slots.toNat
  else if c.kind = 3 then List.replicate (2 + c.homes.length) 0
  else if c.kind = 4 then List.replicate (1 + 2 * c.homes.length) 0
  else if c.kind = 5 then List.replicate (1 + 3 * c.pool.toNat * c.homes.length) 0
  else if c.kind = 6 then hieFirst c.homes.length :: (List.replicate (8 + c.homes.length) 0 ++ [pkPack 1073741823 false false])
  else cohW c.homes c.glob c.loc
theorem err_ok {c : Cf} (h : c.err = 0) : (1 ≤ c.kind ∧ c.kind ≤ 7) ∧ newOk c.homes ∧ (c.kind = 2 → slotOk c.homes c.slots) ∧ (c.kind = 5 → 1 ≤ c.pool ∧ c.pool ≤ 8) ∧ (c.kind = 7 → cohOk c.glob c.loc c.budget) := by
  unfold err at h
  split at h
  · cases h
  · split at h
    · cases h
    · split at h
      · cases h
      · split at h
        · cases h
        · split at h
          · cases h
          · rename_i h1 h2 h3 h4 h5
            refine ⟨by omega, Decidable.not_not.1 h2, fun e => ?_, fun e => ?_, fun e => ?_⟩
            · exact Decidable.not_not.1 fun n => h3 ⟨e, n⟩
            · exact Decidable.not_not.1 fun n => h4 ⟨e, n⟩
            · exact Decidable.not_not.1 fun n => h5 ⟨e, n⟩
theorem first_ss (c : Cf) : ∃ a b, c.first.ss = seats0 c.homes.length a b := by
  unfold first
  repeat' split
  all_goals exact ⟨_, _, rfl⟩
theorem first_len (c : Cf) : c.first.ss.l.length = c.homes.length := by
  obtain ⟨a, b, h⟩ := c.first_ss
  rw [h]; simp [seats0]
end Cf
theorem seats0_state (n : Nat) (a b : Bool) (t : Int) : (seats0 n a b).state t = 0 := by
  unfold SS.state
  split
  · rename_i h
    obtain ⟨h1, h2⟩ := seat_there h
    simp only [seats0, List.length_replicate] at h2
    have : t.toNat < n := by omega
    simp [SS.at_, seats0, this]
  · rfl
theorem coh_first_ok {xs : List Int} (hx : newOk xs) (g l b at_ : Int) : (CS.first xs g l b at_).ok ∧ (CS.first xs g l b at_).todos := by
  have hp : ∀ t : Int, (CS.first xs g l b at_).ss.there t = true → (CS.first xs g l b at_).pl t = ⟨xs.getD t.toNat 0, ((xs.take t.toNat).count (xs.getD t.toNat 0) : Nat), 0, 0⟩ := by
    intro t ht
    obtain ⟨h1, h2⟩ := seat_there ht
    simp only [CS.first, seats0, List.length_replicate] at h2
    have : t.toNat < xs.length := by omega
    simp [CS.pl, CS.first, coPl, this]
  refine ⟨⟨by simp [CS.first, coPl, seats0], by simp [CS.first, locF_len], fun t ht => ?_⟩, fun t ht => by rw [hp t ht]; simp⟩
  rw [hp t ht]
  obtain ⟨h1, h2⟩ := seat_there ht
  simp only [CS.first, seats0, List.length_replicate] at h2
  have hi : t.toNat < xs.length := by omega
  obtain ⟨k0, k8⟩ := anyBad_get hx.2 hi
  refine ⟨⟨k0, k8⟩, ?_⟩
  refine locF_some l xs _ 8 (xs.getD t.toNat 0).toNat (by omega) ?_
  rw [Int.toNat_of_nonneg k0]
  have : xs.getD t.toNat 0 ∈ xs := List.mem_of_getElem? (getD_lt hi)
  have := List.count_pos_iff.2 this
  omega
theorem buildLay (a : LA) (s : LS) (hs : s.ok a) (h0 : s.n = 0) (c : Cf) (p : Option Addr) (cap : Nat) (hl : c.homes.length ≤ 1000000) :
    SpR Tryz.prog 101 #[ptr a.p, c.val p cap] (fun w S => ROi w S p c.homes) (planL a s) (fun r A =>
      (c.err ≠ 0 ∧ (∃ v, r = .tuple #[v, i64 c.err]) ∧ ∃ X, A = X ++ planL a s) ∨
      (c.err = 0 ∧ ∃ (la : LkA) (a' : LA) (s' : LS), r = .tuple #[la.v, i64 0] ∧ Lk.goodN la c.first ∧ Grew a s a' s' c.wh c.ww ∧ A = Lk.blkC (.pointer none) la c.first ++ planL a' s')) := by
  intro w0 S w B hr H
  refine callsBuildLay _ _ _ _ _ _ _ _ _ _ _ _ _ ?_
  unfold preBuildLay
  refine H.allocK (fun w H => exInt (H.cell 0 rfl rfl) ?_)
  by_cases c1 : c.kind = 1
  · refine Br_eq c1 (exSlice (H.cell 0 rfl rfl) (exInt (H.cell 0 rfl rfl) ?_))
    replace H := H.tail
    refine (flatNew a s hs (by omega) p c.homes cap c.start hl).go H [] B rfl (hr.sub H (H.keys (by intro q hq; simp [hq]))) (fun r A w' hq H => ?_)
    rcases hq with ⟨hno, rfl, X, rfl⟩ | ⟨hok, l, nb, db, sa, a', s', rfl, g, rfl⟩
    · have he : c.err = 1 := by simp [Cf.err, c1, hno]
      exact ⟨_, _, rfl, _, _, rfl, Or.inl ⟨by omega, ⟨_, by rw [he]⟩, X, rfl⟩, H⟩
    · have he : c.err = 0 := by simp [Cf.err, c1, hok]
      refine ⟨_, _, rfl, _, _, rfl, Or.inr ⟨he, .inn (.tic ⟨l, nb, db, sa, dummyPA⟩), a', s', rfl, ?_, ?_, rfl⟩, H.to ?_⟩
      · simp only [Cf.first, if_pos c1, Lk.goodN, LI.fits, true_and]; exact ⟨by simp [FS.first, seats0], by simp [FS.first, seats0]⟩
      · simp only [Cf.wh, Cf.ww, if_pos c1]; exact g
      · simp only [Cf.first, if_pos c1, Lk.blkC, LI.blkC, FS.first, seats0, flatN, List.length_replicate, h0]; simp
  refine Br_neq c1 ?_
  by_cases c2 : c.kind = 2
  · refine Br_eq c2 (exSlice (H.cell 0 rfl rfl) (exInt (H.cell 0 rfl rfl) (exInt (H.cell 0 rfl rfl) ?_)))
    replace H := H.tail
    refine (slotNew a s hs (by omega) p c.homes cap c.slots c.start hl).go H [] B rfl (hr.sub H (H.keys (by intro q hq; simp [hq]))) (fun r A w' hq H => ?_)
    rcases hq with ⟨hno, e, he0, he1, he7, rfl, X, rfl⟩ | ⟨hok, l, rb, sa, a', s', rfl, g, rfl⟩
    · have he : c.err = e := by
        by_cases hn : newOk c.homes
        · rw [he7 hn]; simp [Cf.err, c2, hn, hno]
        · rw [he1 hn]; simp [Cf.err, c2, hn]
      exact ⟨_, _, rfl, _, _, rfl, Or.inl ⟨by omega, ⟨_, by rw [he]⟩, X, rfl⟩, H⟩
    · have he : c.err = 0 := by simp [Cf.err, c2, hok, hok.1]
      refine ⟨_, _, rfl, _, _, rfl, Or.inr ⟨he, .slo ⟨l, rb, sa, dummyPA⟩, a', s', rfl, ?_, ?_, rfl⟩, H.to ?_⟩
      · simp only [Cf.first, if_neg c1, if_pos c2, Lk.goodN, GS.wf]; simp [seats0]
      · simp only [Cf.wh, Cf.ww, if_neg c1, if_pos c2]; exact g
      · simp only [Cf.first, if_neg c1, if_pos c2, Lk.blkC, seats0, slotN, List.length_replicate, h0]; simp
  refine Br_neq c2 ?_
  by_cases c3 : c.kind = 3
  · refine Br_eq c3 (exSlice (H.cell 0 rfl rfl) ?_)
    replace H := H.tail
    refine (clhNew a s hs (by omega) p c.homes cap hl).go H [] B rfl (hr.sub H (H.keys (by intro q hq; simp [hq]))) (fun r A w' hq H => ?_)
    rcases hq with ⟨hno, rfl, X, rfl⟩ | ⟨hok, l, rb, sa, all, a', s', rfl, g, ht, hle, rfl⟩
    · have he : c.err = 1 := by simp [Cf.err, c3, hno]
      exact ⟨_, _, rfl, _, _, rfl, Or.inl ⟨by omega, ⟨_, by rw [he]⟩, X, rfl⟩, H⟩
    · have he : c.err = 0 := by simp [Cf.err, c3, hok]
      refine ⟨_, _, rfl, _, _, rfl, Or.inr ⟨he, .inn (.clh ⟨l, rb, all.length, sa, dummyPA⟩ (all.drop c.homes.length)), a', s', rfl, ?_, ?_, rfl⟩, H.to ?_⟩
      · simp only [Cf.first, if_neg c1, if_neg c2, if_pos c3, Lk.goodN, LI.fits, LI.wf, true_and]; simp [HS.first, seats0, clhPl]
      · simp only [Cf.wh, Cf.ww, if_neg c1, if_neg c2, if_pos c3]; exact g
      · simp only [Cf.first, if_neg c1, if_neg c2, if_pos c3, Lk.blkC, LI.blkC, HS.first, seats0, clhN, List.length_replicate, ← ht, List.take_append_drop, slB, slA, Option.map_some, h0]; simp
  refine Br_neq c3 ?_
  by_cases c4 : c.kind = 4
  · refine Br_eq c4 (exSlice (H.cell 0 rfl rfl) ?_)
    replace H := H.tail
    refine (mcsNew a s hs (by omega) p c.homes cap hl).go H [] B rfl (hr.sub H (H.keys (by intro q hq; simp [hq]))) (fun r A w' hq H => ?_)
    rcases hq with ⟨hno, rfl, X, rfl⟩ | ⟨hok, l, rb, sa, a', s', rfl, g, rfl⟩
    · have he : c.err = 1 := by simp [Cf.err, c4, hno]
      exact ⟨_, _, rfl, _, _, rfl, Or.inl ⟨by omega, ⟨_, by rw [he]⟩, X, rfl⟩, H⟩
    · have he : c.err = 0 := by simp [Cf.err, c4, hok]
      refine ⟨_, _, rfl, _, _, rfl, Or.inr ⟨he, .inn (.mcs ⟨l, rb, sa, dummyPA⟩), a', s', rfl, ?_, ?_, rfl⟩, H.to ?_⟩
      · simp only [Cf.first, if_neg c1, if_neg c2, if_neg c3, if_pos c4, Lk.goodN, LI.fits, LI.wf, IS.wf, true_and]; simp [IS.first, seats0]
      · simp only [Cf.wh, Cf.ww, if_neg c1, if_neg c2, if_neg c3, if_pos c4]; exact g
      · simp only [Cf.first, if_neg c1, if_neg c2, if_neg c3, if_pos c4, Lk.blkC, LI.blkC, IS.first, seats0, mcsN, List.length_replicate, h0]; simp
  refine Br_neq c4 ?_
  by_cases c5 : c.kind = 5
  · refine Br_eq c5 (exSlice (H.cell 0 rfl rfl) (exInt (H.cell 0 rfl rfl) ?_))
    replace H := H.tail
    refine (aboNew a s hs (by omega) p c.homes cap c.pool hl).go H [] B rfl (hr.sub H (H.keys (by intro q hq; simp [hq]))) (fun r A w' hq H => ?_)
    rcases hq with ⟨hno, rfl, X, rfl⟩ | ⟨hok, hno, rfl, X, rfl⟩ | ⟨hok, hpl, l, rb, sa, pb, q, a', s', rfl, hq1, g, rfl⟩
    · have he : c.err = 1 := by simp [Cf.err, c5, hno]
      exact ⟨_, _, rfl, _, _, rfl, Or.inl ⟨by omega, ⟨_, by rw [he]⟩, X, rfl⟩, H⟩
    · have he : c.err = 7 := by
        simp only [Cf.err, c5]
        rw [if_neg (by decide), if_neg (by simpa using hok), if_neg (by simp), if_pos ⟨trivial, hno⟩]
      exact ⟨_, _, rfl, _, _, rfl, Or.inl ⟨by omega, ⟨_, by rw [he]⟩, X, rfl⟩, H⟩
    · have he : c.err = 0 := by
        simp only [Cf.err, c5]
        rw [if_neg (by decide), if_neg (by simpa using hok), if_neg (by simp), if_neg (by rintro ⟨_, h⟩; exact h hpl), if_neg (by simp)]
      refine ⟨_, _, rfl, _, _, rfl, Or.inr ⟨he, .abo ⟨l, rb, pb, sa, dummyPA⟩ q, a', s', rfl, ?_, ?_, rfl⟩, H.to ?_⟩
      · simp only [Cf.first, if_neg c1, if_neg c2, if_neg c3, if_neg c4, if_pos c5, Lk.goodN]
        refine ⟨by simpa [seats0] using hq1, by simp [BS.wf, seats0], fun t ht => ?_⟩
        refine ⟨fun _ => ?_, fun h => ?_⟩
        · obtain ⟨h1, h2⟩ := seat_there ht
          simp only [seats0, List.length_replicate] at h2
          have : t.toNat < c.homes.length := by omega
          simp [BS.step, BS.tried, BS.pl, this]
        · rw [seats0_state] at h; cases h
      · simp only [Cf.wh, Cf.ww, if_neg c1, if_neg c2, if_neg c3, if_neg c4, if_pos c5]; exact g
      · simp only [Cf.first, if_neg c1, if_neg c2, if_neg c3, if_neg c4, if_pos c5, Lk.blkC, seats0, aboN, List.length_replicate, h0]; simp
  refine Br_neq c5 ?_
  by_cases c6 : c.kind = 6
  · refine Br_eq c6 (exSlice (H.cell 0 rfl rfl) ?_)
    replace H := H.tail
    refine (hieNew a s hs (by omega) p c.homes cap hl).go H [] B rfl (hr.sub H (H.keys (by intro q hq; simp [hq]))) (fun r A w' hq H => ?_)
    rcases hq with ⟨hno, rfl, X, rfl⟩ | ⟨hok, l, rb, sa, all, a', s', rfl, g, ht, hle, rfl⟩
    · have he : c.err = 1 := by simp [Cf.err, c6, hno]
      exact ⟨_, _, rfl, _, _, rfl, Or.inl ⟨by omega, ⟨_, by rw [he]⟩, X, rfl⟩, H⟩
    · have he : c.err = 0 := by simp [Cf.err, c6, hok]
      refine ⟨_, _, rfl, _, _, rfl, Or.inr ⟨he, .hie ⟨l, rb, all.length, sa, dummyPA⟩ (all.drop c.homes.length), a', s', rfl, ?_, ?_, rfl⟩, H.to ?_⟩
      · simp only [Cf.first, if_neg c1, if_neg c2, if_neg c3, if_neg c4, if_neg c5, if_pos c6, Lk.goodN]; simp [seats0, hiePl]
      · simp only [Cf.wh, Cf.ww, if_neg c1, if_neg c2, if_neg c3, if_neg c4, if_neg c5, if_pos c6]; exact g
      · simp only [Cf.first, if_neg c1, if_neg c2, if_neg c3, if_neg c4, if_neg c5, if_pos c6, Lk.blkC, seats0, hieN, List.length_replicate, ← ht, List.take_append_drop, slB, slA, Option.map_some, h0]; simp
  refine Br_neq c6 ?_
  by_cases c7 : c.kind = 7
  · refine Br_eq c7 (exSlice (H.cell 0 rfl rfl) (exInt (H.cell 0 rfl rfl) (exInt (H.cell 0 rfl rfl) (exInt (H.cell 0 rfl rfl) ?_))))
    replace H := H.tail
    refine (cohNew a s hs (by omega) p c.homes cap c.glob c.loc c.budget hl).go H [] B rfl (hr.sub H (H.keys (by intro q hq; simp [hq]))) (fun r A w' hq H => ?_)
    rcases hq with ⟨hno, rfl, X, rfl⟩ | ⟨hok, hno, rfl, X, rfl⟩ | ⟨hok, hcl, ca, a', s', rfl, hg, hfl, g, rfl⟩
    · have he : c.err = 1 := by simp [Cf.err, c7, hno]
      exact ⟨_, _, rfl, _, _, rfl, Or.inl ⟨by omega, ⟨_, by rw [he]⟩, X, rfl⟩, H⟩
    · have he : c.err = 7 := by
        simp only [Cf.err, c7]
        rw [if_neg (by decide), if_neg (by simpa using hok), if_neg (by simp), if_neg (by simp), if_pos ⟨trivial, hno⟩]
      exact ⟨_, _, rfl, _, _, rfl, Or.inl ⟨by omega, ⟨_, by rw [he]⟩, X, rfl⟩, H⟩
    · have he : c.err = 0 := by
        simp only [Cf.err, c7]
        rw [if_neg (by decide), if_neg (by simpa using hok), if_neg (by simp), if_neg (by simp), if_neg (by rintro ⟨_, h⟩; exact h hcl)]
      have e0 : ((s.n : Nat) : Int) = 0 := by omega
      rw [e0] at hg hfl H
      have ho := coh_first_ok hok c.glob c.loc c.budget 0
      refine ⟨_, _, rfl, _, _, rfl, Or.inr ⟨he, .coh ca, a', s', rfl, ?_, ?_, rfl⟩, H.to ?_⟩
      · simp only [Cf.first, if_neg c1, if_neg c2, if_neg c3, if_neg c4, if_neg c5, if_neg c6, Lk.goodN]
        exact ⟨⟨hg, LI.first_wf _ _ _, hfl⟩, ho.1, ho.2⟩
      · simp only [Cf.wh, Cf.ww, if_neg c1, if_neg c2, if_neg c3, if_neg c4, if_neg c5, if_neg c6]; exact g
      · simp only [Cf.first, if_neg c1, if_neg c2, if_neg c3, if_neg c4, if_neg c5, if_neg c6, Lk.blkC, List.nil_append]
  refine Br_neq c7 ?_
  replace H := H.tail
  have he : c.err = 7 := by simp only [Cf.err]; rw [if_pos (by omega)]
  exact ⟨_, planL a s, rfl, Or.inl ⟨by omega, ⟨_, by rw [he]⟩, [], rfl⟩, H⟩
theorem wh_ww_len {c : Cf} (h : c.err = 0) : c.wh.length = c.ww.length := by
  obtain ⟨hk, hn, h2, h5, h7⟩ := Cf.err_ok h
  have fl : ∀ ys : List Int, (ys.flatMap fun h => [h, h]).length = 2 * ys.length := by intro ys; induction ys with | nil => rfl | cons y ys ih => simp only [List.flatMap_cons, List.length_append, ih, List.length_cons, List.length_nil]; omega
  have iw : ∀ (k : Int) (xs : List Int), (innerH k xs).length = (innerW k xs.length).length := by
    intro k xs
    unfold innerH innerW
    split
    · rfl
    · split
      · simp; omega
      · rw [List.length_cons, fl, List.length_replicate]; omega
  have lw : ∀ k, (locH c.loc c.homes k).length = (locW c.loc c.homes k).length := by
    intro k
    induction k with
    | zero => rfl
    | succ k ih =>
      unfold locH locW
      split
      · simp [ih]
      · rw [List.length_append, List.length_append, ih, iw, List.length_replicate]
  unfold Cf.wh Cf.ww
  repeat' split
  · rfl
  · simp [slotH, slotW]
  · simp; omega
  · rw [List.length_cons, fl, List.length_replicate]; omega
  · rw [List.length_cons, flat_rep, List.length_replicate]; omega
  · simp [upTo]; omega
  · have := iw c.glob (upTo 8)
    rw [show (upTo 8).length = 8 from rfl] at this
    simp only [cohH, cohW, List.length_append, List.length_replicate, this, lw, show (upTo 8).length = 8 from rfl]
theorem any_app (xs ys : List Int) : anyBad (xs ++ ys) = (anyBad xs || anyBad ys) := by simp [anyBad]
theorem bad_mem {xs : List Int} : anyBad xs = false ↔ ∀ x ∈ xs, badHome x = false := by
  unfold anyBad
  rw [List.any_eq_false]
  simp
theorem innerH_good {k : Int} {xs : List Int} (hx : newOk xs) : anyBad (innerH k xs) = false := by
  have h0 : badHome (xs.getD 0 0) = false := bad_mem.1 hx.2 _ (List.mem_of_getElem? (getD_lt (by have := hx.1.1; omega)))
  have hm := bad_mem.1 hx.2
  unfold innerH
  split
  · rw [bad_mem]; intro x hx'; simp only [List.mem_cons, List.not_mem_nil, or_false] at hx'; rcases hx' with rfl | rfl <;> exact h0
  · split
    · rw [bad_mem]; intro x hx'; simp only [List.mem_cons] at hx'; rcases hx' with rfl | rfl | hx'
      · exact h0
      · exact h0
      · exact hm x hx'
    · rw [bad_mem]; intro x hx'; simp only [List.mem_cons, List.mem_flatMap, List.not_mem_nil, or_false] at hx'; rcases hx' with rfl | ⟨y, hy, rfl | rfl⟩
      · exact h0
      · exact hm _ hy
      · exact hm _ hy
theorem wh_good {c : Cf} (h : c.err = 0) : anyBad c.wh = false ∧ c.wh.length ≤ 4096 ∧ 0 < c.wh.length := by
  obtain ⟨hk, hn, h2, h5, h7⟩ := Cf.err_ok h
  have fl : ∀ ys : List Int, (ys.flatMap fun h => [h, h]).length = 2 * ys.length := by intro ys; induction ys with | nil => rfl | cons y ys ih => simp only [List.flatMap_cons, List.length_append, ih, List.length_cons, List.length_nil]; omega
  have hpos : 0 < c.homes.length := by have := hn.1.1; omega
  have h64 := hn.1.2
  have hb0 : badHome (c.homes.getD 0 0) = false := bad_mem.1 hn.2 _ (List.mem_of_getElem? (getD_lt hpos))
  have hm := bad_mem.1 hn.2
  unfold Cf.wh
  split
  · refine ⟨?_, by simp, by simp⟩
    rw [bad_mem]; intro x hx'; simp only [List.mem_cons, List.not_mem_nil, or_false] at hx'; rcases hx' with rfl | rfl <;> exact hb0
  split
  · rename_i c2
    have hs := h2 c2
    have hm64 : c.slots ≤ 64 := by
      have := hs.2.2
      simp [pows, List.range_succ] at this; omega
    refine ⟨?_, by simp [slotH]; omega, by simp⟩
    rw [bad_mem]; intro x hx'; simp only [List.mem_cons, slotH, List.mem_map, List.mem_range] at hx'; rcases hx' with rfl | ⟨j, _, rfl⟩
    · exact hb0
    · exact hm _ (List.mem_of_getElem? (getD_lt (Nat.mod_lt _ hpos)))
  split
  · refine ⟨?_, by simp; omega, by simp⟩
    rw [bad_mem]; intro x hx'; simp only [List.mem_cons] at hx'; rcases hx' with rfl | rfl | hx'
    · exact hb0
    · exact hb0
    · exact hm x hx'
  split
  · refine ⟨?_, by rw [List.length_cons, fl]; omega, by simp⟩
    rw [bad_mem]; intro x hx'; simp only [List.mem_cons, List.mem_flatMap, List.not_mem_nil, or_false] at hx'; rcases hx' with rfl | ⟨y, hy, rfl | rfl⟩
    · exact hb0
    · exact hm _ hy
    · exact hm _ hy
  split
  · rename_i c5
    have hp := h5 c5
    refine ⟨?_, ?_, by simp⟩
    · rw [bad_mem]; intro x hx'; simp only [List.mem_cons, List.mem_flatMap] at hx'; rcases hx' with rfl | ⟨y, hy, hx'⟩
      · exact hb0
      · rw [List.eq_of_mem_replicate hx']; exact hm _ hy
    · rw [List.length_cons, flat_rep]
      have : 3 * c.pool.toNat * c.homes.length ≤ 24 * 64 := Nat.mul_le_mul (by omega) h64
      omega
  split
  · refine ⟨?_, by simp [upTo]; omega, by simp⟩
    rw [bad_mem]; intro x hx'; simp only [List.mem_cons, List.mem_append, List.not_mem_nil, or_false] at hx'; rcases hx' with rfl | (hx' | hx') | rfl
    · exact hb0
    · exact bad_mem.1 newOk_up.2 x hx'
    · exact hm x hx'
    · exact hb0
  · have hlf := locH_few c.loc c.homes h64 8
    have hif := innerH_few c.glob (upTo 8)
    rw [show (upTo 8).length = 8 from rfl] at hif
    refine ⟨?_, by simp only [cohH, List.length_append, show (upTo 8).length = 8 from rfl]; omega, by simp only [cohH, List.length_append, show (upTo 8).length = 8 from rfl]; omega⟩
    unfold cohH
    rw [any_app, any_app, newOk_up.2, innerH_good newOk_up]
    have : ∀ k, k ≤ 8 → anyBad (locH c.loc c.homes k) = false := by
      intro k
      induction k with
      | zero => intro _; rfl
      | succ k ih =>
        intro hk8
        unfold locH
        rw [any_app, ih (by omega)]
        split
        · rfl
        · rename_i hne
          have := innerH_good (k := c.loc) (newOk_rep (c := k) (n := c.homes.count ((k : Nat) : Int)) (by omega) (by omega) (Nat.le_trans List.count_le_length h64))
          rw [this]; rfl
    rw [this 8 (by decide)]; rfl
/-- a lock and its port, made -/
theorem buildNew (c : Cf) (p : Option Addr) (cap : Nat) (hl : c.homes.length ≤ 1000000) :
    SpR Tryz.prog 41 #[c.val p cap] (fun w S => ROi w S p c.homes) [] (fun r A =>
      (c.err ≠ 0 ∧ r = .tuple #[.nilIface, .pointer none, i64 c.err] ∧ A = []) ∨
      (c.err = 0 ∧ ∃ la : LkA, r = .tuple #[la.v, ptr la.pa.p, i64 0] ∧ Lk.good la c.first ∧ A = Lk.blk la c.first ++ portL la.pa (PS.first c.homes.length c.wh c.ww))) := by
  intro w0 S w B hr H
  refine callsBuildNew _ _ _ _ _ _ _ _ _ _ _ _ ?_
  unfold preBuildNew
  refine H.allocK (fun w H => exSlice (H.cell 0 rfl rfl) ?_)
  refine (planNew c.homes.length).go H [_] _ rfl (fun r A w H1 H => ?_)
  obtain ⟨pl, rfl, rfl⟩ := H1
  refine ⟨_, rfl, exInt (H.cell 0 rfl rfl) (exSlice (H.cell 0 rfl rfl) (exInt (H.cell 0 rfl rfl) (exInt (H.cell 0 rfl rfl) (exInt (H.cell 0 rfl rfl) (exInt (H.cell 0 rfl rfl) (exInt (H.cell 0 rfl rfl) (exInt (H.cell 0 rfl rfl) ?_)))))))⟩
  have hs0 : LS.ok ⟨pl, none, none⟩ ⟨c.homes.length, 0, [], []⟩ := ⟨by simp, by simp, fun _ => rfl, fun _ => rfl⟩
  refine (buildLay ⟨pl, none, none⟩ ⟨c.homes.length, 0, [], []⟩ hs0 rfl c p cap hl).go H [_] B rfl (hr.sub H (H.keys (by intro q hq; simp [hq]))) (fun r A w hq H => ?_)
  rcases hq with ⟨he, ⟨v, rfl⟩, X, rfl⟩ | ⟨he, la, a', s', rfl, hg, g, rfl⟩
  · refine ⟨_, _, rfl, Br_ne he ⟨_, [], rfl, Or.inl ⟨he, rfl, rfl⟩, H.sub ?_⟩⟩
    simp only [List.nil_append]
    exact (List.sublist_append_right _ _).trans (List.sublist_append_right _ _)
  · refine ⟨_, _, rfl, Br_nne rfl ?_⟩
    have hgp : a'.p = pl := g.p
    rw [← hgp]
    have gn := g.n
    obtain ⟨b1, b2, b3⟩ := wh_good he
    have hlen := wh_ww_len he
    have hh : s'.homes = c.wh := by rw [g.homes]; rfl
    have hww : s'.words = c.ww := by rw [g.words]; rfl
    have ht : s'.threads = c.homes.length := g.threads
    have hn := (Cf.err_ok he).2.1
    refine (planPort a' s' g.ok (by simp at gn; omega) (by simp at gn; omega)).go H (_ :: Lk.blkC (.pointer none) la c.first) B (by simp; rfl) (fun r A w hq H => ?_)
    have hpo : portOk s'.threads s'.homes s'.words := by
      rw [hh, hww, ht]
      exact ⟨⟨by have := hn.1.1; omega, by have := hn.1.2; omega⟩, hlen, b2, b1⟩
    rcases hq with ⟨hno, _⟩ | ⟨_, b, rfl, rfl⟩
    · exact absurd hpo hno
    · refine ⟨_, _, rfl, Br_nne rfl ?_⟩
      rw [hh, hww, ht, Int.toNat_natCast] at H
      refine (lkUse hg (.pointer none) b).go H [_] (portL b (PS.first c.homes.length c.wh c.ww) ++ (planL a' s' ++ B)) (by simp; rfl) (fun w H => ⟨rfl, ?_⟩)
      refine ⟨_, _, rfl, Or.inr ⟨he, la.setPa b, by rw [LkA.setPa_v, LkA.setPa_pa], Lk.good_use hg b, rfl⟩, (H.to (L' := [_] ++ ((Lk.blk (la.setPa b) c.first ++ portL b (PS.first c.homes.length c.wh c.ww)) ++ (planL a' s' ++ B))) (by simp; rfl)).sub ?_⟩
      rw [LkA.setPa_pa]
      refine List.Sublist.trans ?_ (List.sublist_append_right _ _)
      exact List.Sublist.append (List.Sublist.refl _) (List.sublist_append_right _ _)
end Go.Proofs.YtollfjfcdofbaaaGreat
