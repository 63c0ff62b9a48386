/- The lock of locks: used over a port. -/
import Derived.Test.YtollfjfcdofbaaaGreatLg
namespace Go.Proofs.YtollfjfcdofbaaaGreat
open Go Go.Proofs
set_option linter.unusedSimpArgs false
set_option linter.unusedVariables false
set_option maxRecDepth 100000
set_option maxHeartbeats 4000000
-- NB 4

def locsLC (C : Value) : List (Option LIA) → List (Option LI) → Blocks
  | some a :: A, some s :: S => LI.blkC C a s ++ locsLC C A S
  | _ :: A, _ :: S => locsLC C A S
  | _, _ => []
def cohLC (C : Value) (a : CA) (s : CS) : Blocks :=
  (a.l, ptr a.sa.s :: C :: i64 s.pass :: u32 s.budget :: a.glob.v :: (a.locs.map optV ++ [slv a.rb s.ss.l.length])) :: (a.rb, rows coRow s.places) ::
    (seatL a.sa s.ss ++ (LI.blkC C a.glob s.glob ++ locsLC C a.locs s.locs))
def setPaL (q : PA) (A : List (Option LIA)) : List (Option LIA) := A.map fun x => x.map fun a => a.setPa q
def CA.setPa (a : CA) (q : PA) : CA := { a with pa := q, glob := a.glob.setPa q, locs := setPaL q a.locs }
theorem setPaL_opt (q : PA) (A : List (Option LIA)) : (setPaL q A).map optV = A.map optV := by
  simp only [setPaL, List.map_map]
  refine List.map_congr_left fun x _ => ?_
  cases x <;> simp [optV]
theorem locsL_app : ∀ {A A' : List (Option LIA)} {S S' : List (Option LI)}, A.length = S.length → locsL (A ++ A') (S ++ S') = locsL A S ++ locsL A' S'
  | [], _, [], _, _ => rfl
  | some a :: A, A', some s :: S, S', h => by
    simp only [List.cons_append, locsL, List.append_assoc]
    rw [locsL_app (by simpa using h)]
  | none :: A, A', some s :: S, S', h => by simp only [List.cons_append, locsL]; rw [locsL_app (by simpa using h)]
  | some a :: A, A', none :: S, S', h => by simp only [List.cons_append, locsL]; rw [locsL_app (by simpa using h)]
  | none :: A, A', none :: S, S', h => by simp only [List.cons_append, locsL]; rw [locsL_app (by simpa using h)]
theorem locsLC_app {C : Value} : ∀ {A A' : List (Option LIA)} {S S' : List (Option LI)}, A.length = S.length → locsLC C (A ++ A') (S ++ S') = locsLC C A S ++ locsLC C A' S'
  | [], _, [], _, _ => rfl
  | some a :: A, A', some s :: S, S', h => by
    simp only [List.cons_append, locsLC, List.append_assoc]
    rw [locsLC_app (by simpa using h)]
  | none :: A, A', some s :: S, S', h => by simp only [List.cons_append, locsLC]; rw [locsLC_app (by simpa using h)]
  | some a :: A, A', none :: S, S', h => by simp only [List.cons_append, locsLC]; rw [locsLC_app (by simpa using h)]
  | none :: A, A', none :: S, S', h => by simp only [List.cons_append, locsLC]; rw [locsLC_app (by simpa using h)]
theorem fitsL_app : ∀ {A A' : List (Option LIA)} {S S' : List (Option LI)}, fitsL A S → fitsL A' S' → fitsL (A ++ A') (S ++ S')
  | [], _, [], _, _, h => h
  | some a :: A, A', some s :: S, S', h, k => ⟨h.1, fitsL_app h.2 k⟩
  | none :: A, A', none :: S, S', h, k => fitsL_app (A := A) (S := S) h k
  | none :: _, _, some _ :: _, _, h, _ => h.elim
  | some _ :: _, _, none :: _, _, h, _ => h.elim
theorem fitsL_get : ∀ {A : List (Option LIA)} {S : List (Option LI)} {c : Nat}, fitsL A S → c < A.length →
    (A[c]? = some none ∧ S[c]? = some none) ∨ ∃ a s, A[c]? = some (some a) ∧ S[c]? = some (some s) ∧ LI.fits a s ∧ s.wf
  | some a :: A, some s :: S, 0, h, _ => Or.inr ⟨a, s, rfl, rfl, h.1.1, h.1.2⟩
  | some a :: A, some s :: S, c + 1, h, hc => by simpa using fitsL_get (c := c) h.2 (by simpa using hc)
  | none :: A, none :: S, 0, h, _ => Or.inl ⟨rfl, rfl⟩
  | none :: A, none :: S, c + 1, h, hc => by simpa using fitsL_get (A := A) (S := S) (c := c) h (by simpa using hc)
  | none :: _, some _ :: _, _, h, _ => h.elim
  | some _ :: _, none :: _, _, h, _ => h.elim
  | [], [], _, _, hc => by simp at hc
theorem fitsL_pa (q : PA) : ∀ {A : List (Option LIA)} {S : List (Option LI)}, fitsL A S → fitsL (setPaL q A) S
  | some a :: A, some s :: S, h => ⟨⟨LI.fits_pa h.1.1 q, h.1.2⟩, fitsL_pa q h.2⟩
  | none :: A, none :: S, h => fitsL_pa q (A := A) (S := S) h
  | none :: _, some _ :: _, h => h.elim
  | some _ :: _, none :: _, h => h.elim
  | [], [], _ => trivial
theorem take_snocO {α : Type} {xs : List α} {i : Nat} {x : α} (h : xs[i]? = some x) : xs.take (i + 1) = xs.take i ++ [x] ∧ xs.drop i = x :: xs.drop (i + 1) := by
  obtain ⟨h1, rfl⟩ := List.getElem?_eq_some_iff.1 h
  exact ⟨by rw [List.take_add_one, List.getElem?_eq_getElem h1]; rfl, by rw [List.drop_eq_getElem_cons h1]⟩
theorem getD8 {A : List Value} (h : A.length = 8) (i : Nat) (hi : i < 8) : Array.getD #[A[0]!, A[1]!, A[2]!, A[3]!, A[4]!, A[5]!, A[6]!, A[7]!] i undef = A.getD i undef := by
  match A, h with
  | [a, b, c, d, e, f, g, k], _ =>
    match i, hi with
    | 0, _ => rfl
    | 1, _ => rfl
    | 2, _ => rfl
    | 3, _ => rfl
    | 4, _ => rfl
    | 5, _ => rfl
    | 6, _ => rfl
    | 7, _ => rfl
theorem optV_iface (x : Option LIA) : isIfaceV (optV x) = true := by
  cases x with
  | none => rfl
  | some a => cases a <;> rfl
theorem optV_nil (x : Option LIA) : isNilI (optV x) = x.isNone := by
  cases x with
  | none => rfl
  | some a => cases a <;> rfl
theorem coCellL {P0 A Z : List Value} {c : Nat} (h8 : A.length = 8) (h5 : P0.length = 5) (hc : c < 8) : (P0 ++ (A ++ Z))[5 + c]? = some (A[c]!) := by
  rw [List.getElem?_append_right (by omega), h5, show 5 + c - 5 = c by omega, List.getElem?_append_left (by omega)]
  simp [h8, hc]
theorem cohUse (a : CA) (s : CS) (hg : LI.fits a.glob s.glob) (hf : fitsL a.locs s.locs) (h8 : s.locs.length = 8) (C : Value) (q : PA) :
    Sp Tryz.prog 95 #[ptr a.l, ptr q.p] (cohLC C a s) (.tuple #[]) (cohL (a.setPa q) s) := by
  intro w0 S w B H
  have ha8 : a.locs.length = 8 := (fitsL_len hf).trans h8
  have hv8 : (a.locs.map optV).length = 8 := by simpa using ha8
  simp only [cohLC, List.cons_append, List.append_assoc] at H
  refine callsCohortLockUse _ _ _ _ ?_
  unfold preCohortLockUse
  refine ⟨H.can 0 rfl (by simp), H.setK 0 rfl (fun w H => exVal (H.cell 0 rfl rfl) ?_)⟩
  simp only [List.set_cons_zero, List.set_cons_succ] at H
  -- the cell that tells of the port holds C in all that is used below: the own one is written already
  refine (liUse a.glob s.glob hg C q).go H (_ :: _ :: seatL a.sa s.ss) (locsLC C a.locs s.locs ++ B) (by simp; exact ⟨rfl, rfl⟩) (fun w H => ⟨rfl, ?_⟩)
  simp only [List.cons_append, List.append_assoc] at H
  have cc : ∀ c, c < 8 → ∀ z : Value, (ptr a.sa.s :: ptr q.p :: i64 s.pass :: u32 s.budget :: a.glob.v :: (a.locs.map optV ++ [z]))[5 + c]? = some ((a.locs.map optV)[c]!) := fun c hc z => coCellL (P0 := [_, _, _, _, _]) hv8 rfl hc
  refine exVal (H.cell 0 rfl (cc 0 (by decide) _)) (exVal (H.cell 0 rfl (cc 1 (by decide) _)) (exVal (H.cell 0 rfl (cc 2 (by decide) _)) (exVal (H.cell 0 rfl (cc 3 (by decide) _)) ?_)))
  refine exVal (H.cell 0 rfl (cc 4 (by decide) _)) (exVal (H.cell 0 rfl (cc 5 (by decide) _)) (exVal (H.cell 0 rfl (cc 6 (by decide) _)) (exVal (H.cell 0 rfl (cc 7 (by decide) _)) ?_)))
  refine ⟨fun i w' => (0 ≤ i ∧ i ≤ 8) ∧ St w0 S w' ((a.l, ptr a.sa.s :: ptr q.p :: i64 s.pass :: u32 s.budget :: a.glob.v :: (a.locs.map optV ++ [slv a.rb s.ss.l.length])) :: (a.rb, rows coRow s.places) ::
      (seatL a.sa s.ss ++ (LI.blk (a.glob.setPa q) s.glob ++ (locsL (setPaL q (a.locs.take i.toNat)) (s.locs.take i.toNat) ++ (locsLC C (a.locs.drop i.toNat) (s.locs.drop i.toNat) ++ B))))),
    fun i _ => (8 - i).toNat, ⟨⟨by omega, by omega⟩, H.to (by simp [setPaL, locsL])⟩, ?_⟩
  rintro _g w i ⟨⟨h0, h1⟩, H⟩
  by_cases c1 : i < 8
  · refine Br_t c1 ⟨⟨h0, c1⟩, ?_⟩
    have hi : i.toNat < 8 := by omega
    rw [getD8 hv8 _ hi, wrap_succ h0 (by omega)]
    refine ⟨_, rfl, ?_⟩
    have hlt : i.toNat < a.locs.length := by omega
    have hv : (a.locs.map optV).getD i.toNat undef = optV (a.locs[i.toNat]'hlt) := by simp [hlt]
    rw [hv]
    refine ⟨optV_iface _, ?_⟩
    have hle : (setPaL q (a.locs.take i.toNat)).length = (s.locs.take i.toNat).length := by simp [setPaL]; omega
    rcases fitsL_get hf hlt with ⟨e1, e2⟩ | ⟨la, ls, e1, e2, hfx, hwx⟩
    · obtain ⟨t1, d1⟩ := take_snocO e1
      obtain ⟨t2, d2⟩ := take_snocO e2
      have ex : a.locs[i.toNat]'hlt = none := (List.getElem?_eq_some_iff.1 e1).2
      rw [ex]
      refine Br_neg rfl ⟨⟨⟨by omega, by omega⟩, H.to ?_⟩, show (8 - (i + 1)).toNat < (8 - i).toNat by omega⟩
      rw [show (i + 1).toNat = i.toNat + 1 by omega, t1, t2, d1, d2]
      simp only [setPaL, List.map_append, List.map_cons, List.map_nil]
      rw [locsL_app (by simpa [setPaL] using hle)]
      simp [locsL, locsLC]
    · obtain ⟨t1, d1⟩ := take_snocO e1
      obtain ⟨t2, d2⟩ := take_snocO e2
      have ex : a.locs[i.toNat]'hlt = some la := (List.getElem?_eq_some_iff.1 e1).2
      rw [ex]
      have nn : isNilI (optV (some la)) = false := optV_nil _
      rw [nn]
      simp only [Bool.not_false, Br_true]
      rw [d1, d2] at H
      simp only [locsLC] at H
      refine (liUse la ls hfx C q).go H (_ :: _ :: (seatL a.sa s.ss ++ (LI.blk (a.glob.setPa q) s.glob ++ locsL (setPaL q (a.locs.take i.toNat)) (s.locs.take i.toNat)))) (locsLC C (a.locs.drop (i.toNat + 1)) (s.locs.drop (i.toNat + 1)) ++ B) (by simp; exact ⟨rfl, rfl⟩) (fun w H => ⟨rfl, ?_⟩)
      refine ⟨⟨⟨by omega, by omega⟩, H.to ?_⟩, show (8 - (i + 1)).toNat < (8 - i).toNat by omega⟩
      rw [show (i + 1).toNat = i.toNat + 1 by omega, t1, t2]
      simp only [setPaL, List.map_append, List.map_cons, List.map_nil]
      rw [locsL_app (by simpa [setPaL] using hle)]
      simp [locsL]
  · have e : i = 8 := by omega
    subst e
    refine Br_f c1 ⟨rfl, H.to ?_⟩
    have t1 : a.locs.take (8 : Int).toNat = a.locs := List.take_of_length_le (by rw [ha8]; decide)
    have t2 : s.locs.take (8 : Int).toNat = s.locs := List.take_of_length_le (by rw [h8]; decide)
    have d1 : a.locs.drop (8 : Int).toNat = [] := List.drop_eq_nil_of_le (by rw [ha8]; decide)
    have d2 : s.locs.drop (8 : Int).toNat = [] := List.drop_eq_nil_of_le (by rw [h8]; decide)
    rw [t1, t2, d1, d2]
    simp [cohL, CA.setPa, locsLC, setPaL_opt]
end Go.Proofs.YtollfjfcdofbaaaGreat
