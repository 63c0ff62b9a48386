/- Contracts: the lock that can be given up, made. -/
import Derived.Test.YtollfjfcdofbaaaGreatFa
namespace Go.Proofs.YtollfjfcdofbaaaGreat
open Go Go.Proofs
set_option linter.unusedSimpArgs false
set_option linter.unusedVariables false
set_option maxRecDepth 100000
set_option maxHeartbeats 4000000
-- NB 5

theorem poolBad (n e : Int) (h : ¬ ((1 ≤ n ∧ n ≤ 64) ∧ 1 ≤ e ∧ e ≤ 8)) (A : Blocks) : Sp Tryz.prog 190 #[i64 n, i64 e] A (.tuple #[.pointer none, i64 1]) A := by
  intro w0 S w B H
  refine callsPoolNew _ _ _ _ ?_
  unfold prePoolNew
  by_cases c1 : n < 1
  · exact Br_t c1 ⟨rfl, H⟩
  refine Br_f c1 ?_
  by_cases c2 : n > 64
  · exact Br_t c2 ⟨rfl, H⟩
  refine Br_f c2 ?_
  by_cases c3 : e < 1
  · exact Br_t c3 ⟨rfl, H⟩
  refine Br_f c3 ?_
  by_cases c4 : e > 8
  · exact Br_t c4 ⟨rfl, H⟩
  exact absurd ⟨⟨by omega, by omega⟩, by omega, by omega⟩ h
theorem aboTells : Tells Tryz.prog (.func (.func 189) #[] #[]) badHome := tells_of (fun _ _ _ => rfl) (fun x w R h => by
  refine callsAbortNew1 _ _ _ ?_
  unfold preAbortNew1
  by_cases h1 : x < 0
  · refine Br_t h1 ?_
    have e : badHome x = true := by simp [badHome, h1]
    rw [e] at h; exact h
  · refine Br_f h1 ?_
    have e : badHome x = decide (x ≥ 8) := by simp [badHome, h1]
    rw [e] at h; exact h)
theorem made_abRow (n : Nat) : (madeCells #[.int .i64 0, .int .i64 0, .int .i64 0, .int .i64 0] (n * 4)).toList = rows abRow (List.replicate n (0, 0, 0, 0)) := by
  have := madeCells_rows abRow ((0 : Int), (0 : Int), (0 : Int), (0 : Int)) n (by simp)
  have e : (abRow ((0 : Int), (0 : Int), (0 : Int), (0 : Int))).toArray = #[.int .i64 0, .int .i64 0, .int .i64 0, .int .i64 0] := rfl
  rw [e] at this
  rw [show n * 4 = n * (abRow ((0 : Int), (0 : Int), (0 : Int), (0 : Int))).length from rfl, this]
  simp [rowsA, rows]
def aboN (l rb : Nat) (sa : SA) (pa : Nat) (q : QS) (n : Nat) (tail : Int) : Blocks :=
  (l, [ptr sa.s, .pointer none, ptr pa, i64 tail, slv rb n]) :: (rb, rows abRow (List.replicate n (0, 0, 0, 0))) :: (seatL sa ⟨List.replicate n (0, -1), true, false⟩ ++ poolL pa q)
theorem flat_rep (k : Nat) : ∀ ys : List Int, (ys.flatMap fun h => List.replicate k h).length = k * ys.length
  | [] => rfl
  | y :: ys => by simp only [List.flatMap_cons, List.length_append, flat_rep k ys, List.length_cons, List.length_replicate, Nat.mul_add, Nat.mul_one]; omega
theorem take_getD (xs : List Int) (i : Nat) (h : i < xs.length) : xs.take (i + 1) = xs.take i ++ [xs.getD i 0] := by
  rw [List.take_add_one, List.getElem?_eq_getElem h, List.getD_eq_getElem?_getD, List.getElem?_eq_getElem h]; rfl
theorem aboNew (a : LA) (s : LS) (hs : s.ok a) (hb : s.n ≤ 100000) (p : Option Addr) (xs : List Int) (c : Nat) (each : Int) (hl : xs.length ≤ 1000000) :
    SpR Tryz.prog 155 #[ptr a.p, .slice p xs.length c, i64 each] (fun w S => ROi w S p xs) (planL a s) (fun r A =>
      (¬ newOk xs ∧ r = .tuple #[.pointer none, i64 1] ∧ ∃ X, A = X ++ planL a s) ∨
      (newOk xs ∧ ¬ (1 ≤ each ∧ each ≤ 8) ∧ r = .tuple #[.pointer none, i64 7] ∧ ∃ X, A = X ++ planL a s) ∨
      (newOk xs ∧ (1 ≤ each ∧ each ≤ 8) ∧ ∃ (l rb : Nat) (sa : SA) (pa : Nat) (q : QS) (a' : LA) (s' : LS), r = .tuple #[ptr l, i64 0] ∧ q.first xs.length each.toNat ∧
        Grew a s a' s' (xs.getD 0 0 :: xs.flatMap fun h => List.replicate (3 * each.toNat) h) (List.replicate (1 + 3 * each.toNat * xs.length) 0) ∧ A = aboN l rb sa pa q xs.length s.n ++ planL a' s')) := by
  intro w0 S w B hr H
  refine callsAbortNew _ _ _ _ _ _ _ ?_
  unfold preAbortNew
  refine (seatNew xs.length true false).go H [] (planL a s ++ B) rfl (fun r A w hq H => ?_)
  rcases hq with ⟨hno, rfl, rfl⟩ | ⟨h64, sa, rfl, rfl⟩
  · exact ⟨_, _, rfl, Br_ne (by decide) ⟨_, planL a s, rfl, Or.inl ⟨fun h => hno ⟨by have := h.1.1; omega, by have := h.1.2; omega⟩, rfl, [], rfl⟩, H⟩⟩
  refine ⟨_, _, rfl, Br_nne rfl ?_⟩
  simp only [List.nil_append] at H
  refine (containsFunc p xs c _ _ aboTells hl).go H [] _ rfl (hr.sub H (by simp)) (fun r A w hq H => ?_)
  obtain ⟨rfl, rfl⟩ := hq
  refine ⟨_, rfl, ?_⟩
  simp only [List.nil_append] at H
  by_cases hbad : xs.any badHome = true
  · rw [hbad]
    exact ⟨_, _, rfl, Or.inl ⟨fun h => absurd (hbad.symm.trans h.2) (by decide), rfl, seatL sa ⟨List.replicate (((xs.length : Nat) : Int)).toNat (0, -1), true, false⟩, rfl⟩, H.to (by simp [seatL])⟩
  rw [Bool.not_eq_true] at hbad
  rw [hbad]
  simp only [Br_false]
  have hgood : newOk xs := ⟨⟨by omega, by omega⟩, hbad⟩
  have hpos : 0 < xs.length := by omega
  by_cases he : ¬ (1 ≤ each ∧ each ≤ 8)
  · refine (poolBad xs.length each (fun h => he h.2) []).go H [] _ rfl (fun w H => ⟨_, _, rfl, Br_ne (by decide) ⟨_, _, rfl, Or.inr (Or.inl ⟨hgood, he, rfl, seatL sa ⟨List.replicate (((xs.length : Nat) : Int)).toNat (0, -1), true, false⟩, rfl⟩), H.to (by first | (simp [seatL]; done) | rfl | (simp; rfl))⟩⟩)
  rw [Decidable.not_not] at he
  obtain ⟨e, rfl⟩ := Int.eq_ofNat_of_zero_le (show 0 ≤ each by omega)
  simp only [Int.toNat_natCast]
  refine (poolNew xs.length e (by omega) (by omega)).go H [] _ rfl (fun r A w hq H => ?_)
  rcases hq with ⟨hno, _⟩ | ⟨_, pa, q, rfl, rfl, hq1⟩
  · exact absurd ⟨⟨by omega, by omega⟩, by omega, by omega⟩ hno
  refine ⟨_, _, rfl, Br_nne rfl ?_⟩
  simp only [List.nil_append, Int.toNat_natCast] at H
  refine H.drewK (fun wd H => ?_)
  refine ⟨⟨by omega, by omega⟩, ?_⟩
  obtain ⟨b, o, ee, hc⟩ := hr.read H hpos
  subst ee
  refine PtrSome_at (exInt hc ⟨?_, ?_⟩)
  · refine (planWordG a s hs (xs.getD 0 0) 0 (by omega)).go H (poolL pa q ++ seatL sa ⟨List.replicate xs.length (0, -1), true, false⟩) B (by simp [seatL]) (fun r A w5 hq H => ?_)
    obtain ⟨rfl, a1, s1, rfl, g1⟩ := hq
    refine ⟨_, rfl, ⟨by omega, by omega, by omega, by omega⟩, H.allocK (fun w1 H => H.allocK (fun w2 H => ?_))⟩
    rw [made_abRow] at H
    simp only [Int.toNat_natCast] at H ⊢
    refine ⟨fun i w' => (0 ≤ i ∧ i ≤ xs.length) ∧ ∃ a' s', Grew a s a' s' (xs.getD 0 0 :: (xs.take i.toNat).flatMap fun h => List.replicate (3 * e) h) (List.replicate (1 + 3 * e * i.toNat) 0) ∧ St w0 S w' (aboN w1.heap.size w5.heap.size sa pa q xs.length s.n ++ (planL a' s' ++ B)),
      fun i _ => (xs.length - i).toNat, ⟨⟨by omega, by omega⟩, a1, s1, by simpa using g1, H.perm (by simp only [aboN, List.cons_append, List.append_assoc]; exact ((List.perm_append_comm_assoc _ _ _).cons _).cons _)⟩, ?_⟩
    rintro _g w i ⟨⟨h0, h1⟩, a', s', g, H⟩
    by_cases c1 : i < xs.length
    · refine Br_t c1 ⟨⟨h0, c1⟩, ?_⟩
      obtain ⟨b, o, ee, hc⟩ := hr.read H (j := i.toNat) (by omega)
      cases ee
      refine PtrSome_at (exInt hc ?_)
      rw [← g.p]
      have gn := g.n
      rw [List.length_cons, flat_rep, List.length_take] at gn
      have hmul : 3 * e * (min i.toNat xs.length) ≤ 24 * 64 := Nat.mul_le_mul (by omega) (by omega)
      have we : IntKind.i64.wrap (3 * ((e : Nat) : Int)) = ((3 * e : Nat) : Int) := wrap_i64 (by omega) (by omega)
      rw [we]
      refine (planRowG a' s' g.ok (3 * e) (by omega) (xs.getD i.toNat 0) 0 (by omega)).go H (aboN w1.heap.size w5.heap.size sa pa q xs.length s.n) B rfl (fun r A w6 hq H => ?_)
      obtain ⟨rfl, a2, s2, rfl, g2⟩ := hq
      refine ⟨_, rfl, ?_⟩
      rw [wrap_succ h0 (by omega)]
      refine ⟨⟨⟨by omega, by omega⟩, a2, s2, ?_, H⟩, show (xs.length - (i + 1)).toNat < (xs.length - i).toNat by omega⟩
      have g3 := g.trans g2
      have e2 : xs.take (i + 1).toNat = xs.take i.toNat ++ [xs.getD i.toNat 0] := by
        rw [show (i + 1).toNat = i.toNat + 1 by omega, take_getD _ _ (by omega)]
      rw [e2, List.flatMap_append, show 1 + 3 * e * (i + 1).toNat = (1 + 3 * e * i.toNat) + 3 * e by rw [show (i + 1).toNat = i.toNat + 1 by omega, Nat.mul_add]; omega, ← List.replicate_append_replicate]
      simpa using g3
    · have ei : i = xs.length := by omega
      subst ei
      refine Br_f c1 ⟨_, _, rfl, Or.inr (Or.inr ⟨hgood, by omega, w1.heap.size, w5.heap.size, sa, pa, q, a', s', rfl, hq1, by simpa using g, rfl⟩), H.to (by simp)⟩
  · refine ⟨⟨by omega, by omega, by omega, by omega⟩, H.allocK (fun w1 H => ?_)⟩
    rw [made_abRow] at H
    obtain ⟨b', o', e', hc'⟩ := hr.read H hpos
    cases e'
    refine andCell hc' ?_
    (try simp only [Int.toNat_natCast] at H)
    refine (planWordG a s hs (xs.getD 0 0) 0 (by omega)).go H (_ :: (poolL pa q ++ seatL sa ⟨List.replicate xs.length (0, -1), true, false⟩)) B (by simp [seatL]; rfl) (fun r A w5 hq H => ?_)
    obtain ⟨rfl, a1, s1, rfl, g1⟩ := hq
    refine ⟨_, rfl, H.allocK (fun w2 H => ?_)⟩
    (try simp only [Int.toNat_natCast] at H ⊢)
    refine ⟨fun i w' => (0 ≤ i ∧ i ≤ xs.length) ∧ ∃ a' s', Grew a s a' s' (xs.getD 0 0 :: (xs.take i.toNat).flatMap fun h => List.replicate (3 * e) h) (List.replicate (1 + 3 * e * i.toNat) 0) ∧ St w0 S w' (aboN w5.heap.size wd.heap.size sa pa q xs.length s.n ++ (planL a' s' ++ B)),
      fun i _ => (xs.length - i).toNat, ⟨⟨by omega, by omega⟩, a1, s1, by simpa using g1, H.perm (by simp only [aboN, List.cons_append, List.append_assoc]; exact ((List.perm_append_comm_assoc _ _ _).cons _).cons _)⟩, ?_⟩
    rintro _g w i ⟨⟨h0, h1⟩, a', s', g, H⟩
    by_cases c1 : i < xs.length
    · refine Br_t c1 ⟨⟨h0, c1⟩, ?_⟩
      obtain ⟨b, o, ee, hc⟩ := hr.read H (j := i.toNat) (by omega)
      cases ee
      refine PtrSome_at (exInt hc ?_)
      rw [← g.p]
      have gn := g.n
      rw [List.length_cons, flat_rep, List.length_take] at gn
      have hmul : 3 * e * (min i.toNat xs.length) ≤ 24 * 64 := Nat.mul_le_mul (by omega) (by omega)
      have we : IntKind.i64.wrap (3 * ((e : Nat) : Int)) = ((3 * e : Nat) : Int) := wrap_i64 (by omega) (by omega)
      rw [we]
      refine (planRowG a' s' g.ok (3 * e) (by omega) (xs.getD i.toNat 0) 0 (by omega)).go H (aboN w5.heap.size wd.heap.size sa pa q xs.length s.n) B rfl (fun r A w6 hq H => ?_)
      obtain ⟨rfl, a2, s2, rfl, g2⟩ := hq
      refine ⟨_, rfl, ?_⟩
      rw [wrap_succ h0 (by omega)]
      refine ⟨⟨⟨by omega, by omega⟩, a2, s2, ?_, H⟩, show (xs.length - (i + 1)).toNat < (xs.length - i).toNat by omega⟩
      have g3 := g.trans g2
      have e2 : xs.take (i + 1).toNat = xs.take i.toNat ++ [xs.getD i.toNat 0] := by
        rw [show (i + 1).toNat = i.toNat + 1 by omega, take_getD _ _ (by omega)]
      rw [e2, List.flatMap_append, show 1 + 3 * e * (i + 1).toNat = (1 + 3 * e * i.toNat) + 3 * e by rw [show (i + 1).toNat = i.toNat + 1 by omega, Nat.mul_add]; omega, ← List.replicate_append_replicate]
      simpa using g3
    · have ei : i = xs.length := by omega
      subst ei
      refine Br_f c1 ⟨_, _, rfl, Or.inr (Or.inr ⟨hgood, by omega, w5.heap.size, wd.heap.size, sa, pa, q, a', s', rfl, hq1, by simpa using g, rfl⟩), H.to (by simp)⟩
end Go.Proofs.YtollfjfcdofbaaaGreat
