/- Contracts: the two-level lock made. -/
import Derived.Test.YtollfjfcdofbaaaGreatFn
namespace Go.Proofs.YtollfjfcdofbaaaGreat
open Go Go.Proofs
set_option linter.unusedSimpArgs false
set_option linter.unusedVariables false
set_option maxRecDepth 100000
set_option maxHeartbeats 400000
-- NB 8
-- NORM seatL

theorem hieTells : Tells Tryz.prog (.func (.func 191) #[] #[]) badHome := tells_of (fun _ _ _ => rfl) (fun x w R h => by
  refine callsHierNew1 _ _ _ ?_
  unfold preHierNew1
  by_cases h1 : x < 0
  · refine Br_t h1 ?_
    have e : badHome x = true := by simp [badHome, h1]
    rw [e] at h; exact h
  · refine Br_f h1 ?_
    have e : badHome x = decide (x ≥ 8) := by simp [badHome, h1]
    rw [e] at h; exact h)
def hiePl (xs : List Int) (n : Nat) : List HiPl := (List.range n).map fun t => (xs.getD t 0, ((t : Nat) : Int) + 1, 0, 0, 0, 0)
theorem hiePl_succ (xs : List Int) (n : Nat) : hiePl xs (n + 1) = hiePl xs n ++ [(xs.getD n 0, ((n : Nat) : Int) + 1, 0, 0, 0, 0)] := by simp [hiePl, List.range_succ]
def upTo (n : Nat) : List Int := (List.range n).map fun t => ((t : Nat) : Int)
theorem upTo_succ (n : Nat) : upTo (n + 1) = upTo n ++ [((n : Nat) : Int)] := by simp [upTo, List.range_succ]
def hieN (l : Nat) (rp : Option Nat) (sa : SA) (k n : Nat) (tail : Int) (all : List HiPl) : Blocks :=
  (l, [ptr sa.s, .pointer none, i64 tail, .slice (slA rp) k all.length]) :: (slB hiRow rp all ++ seatL sa ⟨List.replicate n (0, -1), false, false⟩)
def hieFirst (n : Nat) : Int := IntKind.u32.wrap (IntKind.i64.wrap (((n : Nat) : Int) + 1))
theorem tC_Fh {P : Prop} (h : P := by (first | ((first | refine bkCell (H.bkAt 0 rfl) ?_ | refine bkCell (H.bkAt 1 rfl) ?_ | refine bkCell (H.bkAt 2 rfl) ?_ | refine bkCell (H.bkAt 3 rfl) ?_ | refine bkCell (H.bkAt 4 rfl) ?_ | refine bkCell (H.bkAt 5 rfl) ?_ | refine bkCell (H.bkAt 6 rfl) ?_ | refine bkCell (H.bkAt 7 rfl) ?_); (first | rfl | ((first | refine ints_at0 ?_ | refine bools_at0 ?_ | refine rows_at1 (f := accRow) (s := 2) (fun _ => rfl) (by decide) ?_ rfl | refine rows_at0 (f := accRow) (s := 2) (fun _ => rfl) (by decide) ?_ rfl); first | omega | assumption | (simp only [List.length_set, List.length_append, List.length_cons, List.length_nil, List.length_map, List.length_replicate, List.length_drop, List.length_take]; omega)))) | ((first | refine bkCan (H.bkAt 0 rfl) ?_ | refine bkCan (H.bkAt 1 rfl) ?_ | refine bkCan (H.bkAt 2 rfl) ?_ | refine bkCan (H.bkAt 3 rfl) ?_ | refine bkCan (H.bkAt 4 rfl) ?_ | refine bkCan (H.bkAt 5 rfl) ?_ | refine bkCan (H.bkAt 6 rfl) ?_ | refine bkCan (H.bkAt 7 rfl) ?_); (first | decide | ((first | refine ints_lt ?_ | refine bools_lt ?_ | refine rows_lt1 (f := accRow) (s := 2) (fun _ => rfl) (by decide) ?_ | refine rows_lt0 (f := accRow) (s := 2) (fun _ => rfl) (by decide) ?_); first | omega | assumption | (simp only [List.length_set, List.length_append, List.length_cons, List.length_nil, List.length_map, List.length_replicate, List.length_drop, List.length_take]; omega)) | (simp only [List.length_cons, List.length_nil]; omega))) | ((first | refine bkThere (H.bkAt 0 rfl) ?_ | refine bkThere (H.bkAt 1 rfl) ?_ | refine bkThere (H.bkAt 2 rfl) ?_ | refine bkThere (H.bkAt 3 rfl) ?_ | refine bkThere (H.bkAt 4 rfl) ?_ | refine bkThere (H.bkAt 5 rfl) ?_ | refine bkThere (H.bkAt 6 rfl) ?_ | refine bkThere (H.bkAt 7 rfl) ?_); (first | decide | (simp only [List.length_cons, List.length_nil]; omega) | (refine rows_le (f := accRow) (s := 2) (fun _ => rfl) ?_; first | omega | assumption | (simp only [List.length_set, List.length_append, List.length_cons, List.length_nil, List.length_map, List.length_replicate, List.length_drop, List.length_take]; omega)))) | exact ⟨by omega, by omega⟩)) : P := h
theorem tS_Fh {w0 w : World} {S : List Nat} {L L' : Blocks} {b o : Nat} {v : Value} {K : World → Prop} (H : St w0 S w L) (k : ∀ w', St w0 S w' L' → K w') (h : SetG w b o v (fun w' => St w0 S w' L') := by ((first | refine bkSet H 0 rfl (fun w H => ?_) | refine bkSet H 1 rfl (fun w H => ?_) | refine bkSet H 2 rfl (fun w H => ?_) | refine bkSet H 3 rfl (fun w H => ?_) | refine bkSet H 4 rfl (fun w H => ?_) | refine bkSet H 5 rfl (fun w H => ?_) | refine bkSet H 6 rfl (fun w H => ?_) | refine bkSet H 7 rfl (fun w H => ?_)); (try simp only [List.set_cons_succ, List.set_cons_zero, ints_set0, bools_set0, pair_set0, pair_set1] at H); exact H)) : SetG w b o v K := k _ h
theorem tG_Fh {w0 w : World} {S : List Nat} {L L' : Blocks} {b o : Nat} {vs : List Value} {K : World → Prop} (H : St w0 S w L) (k : ∀ w', St w0 S w' L' → K w') (h : SetsG w b o vs (fun w' => St w0 S w' L') := by ((first | refine bkSetsF H 0 rfl rfl (fun w H => ?_) | refine bkSetsF H 1 rfl rfl (fun w H => ?_) | refine bkSetsF H 2 rfl rfl (fun w H => ?_) | refine bkSetsF H 3 rfl rfl (fun w H => ?_) | refine bkSetsF H 4 rfl rfl (fun w H => ?_) | refine bkSetsF H 5 rfl rfl (fun w H => ?_) | refine bkSetsF H 6 rfl rfl (fun w H => ?_) | refine bkSetsF H 7 rfl rfl (fun w H => ?_) | (refine bkSetsP H 0 rfl ?_ (fun w H => ?_); · first | omega | assumption | (simp only [List.length_set, List.length_append, List.length_cons, List.length_nil, List.length_map, List.length_replicate, List.length_drop, List.length_take]; omega)) | (refine bkSetsP H 1 rfl ?_ (fun w H => ?_); · first | omega | assumption | (simp only [List.length_set, List.length_append, List.length_cons, List.length_nil, List.length_map, List.length_replicate, List.length_drop, List.length_take]; omega)) | (refine bkSetsP H 2 rfl ?_ (fun w H => ?_); · first | omega | assumption | (simp only [List.length_set, List.length_append, List.length_cons, List.length_nil, List.length_map, List.length_replicate, List.length_drop, List.length_take]; omega)) | (refine bkSetsP H 3 rfl ?_ (fun w H => ?_); · first | omega | assumption | (simp only [List.length_set, List.length_append, List.length_cons, List.length_nil, List.length_map, List.length_replicate, List.length_drop, List.length_take]; omega)) | (refine bkSetsP H 4 rfl ?_ (fun w H => ?_); · first | omega | assumption | (simp only [List.length_set, List.length_append, List.length_cons, List.length_nil, List.length_map, List.length_replicate, List.length_drop, List.length_take]; omega)) | (refine bkSetsP H 5 rfl ?_ (fun w H => ?_); · first | omega | assumption | (simp only [List.length_set, List.length_append, List.length_cons, List.length_nil, List.length_map, List.length_replicate, List.length_drop, List.length_take]; omega)) | (refine bkSetsP H 6 rfl ?_ (fun w H => ?_); · first | omega | assumption | (simp only [List.length_set, List.length_append, List.length_cons, List.length_nil, List.length_map, List.length_replicate, List.length_drop, List.length_take]; omega)) | (refine bkSetsP H 7 rfl ?_ (fun w H => ?_); · first | omega | assumption | (simp only [List.length_set, List.length_append, List.length_cons, List.length_nil, List.length_map, List.length_replicate, List.length_drop, List.length_take]; omega)) ); (try simp only [List.set_cons_succ, List.set_cons_zero, ints_set0, bools_set0, pair_set0, pair_set1] at H); exact H)) : SetsG w b o vs K := k _ h
theorem hieNew (a : LA) (s : LS) (hs : s.ok a) (hb : s.n ≤ 100000) (p : Option Addr) (xs : List Int) (c : Nat) (hl : xs.length ≤ 1000000) :
    SpR Tryz.prog 156 #[ptr a.p, .slice p xs.length c] (fun w S => ROi w S p xs) (planL a s) (fun r A =>
      (¬ newOk xs ∧ r = .tuple #[.pointer none, i64 1] ∧ ∃ X, A = X ++ planL a s) ∨
      (newOk xs ∧ ∃ (l rb : Nat) (sa : SA) (all : List HiPl) (a' : LA) (s' : LS), r = .tuple #[ptr l, i64 0] ∧
        Grew a s a' s' (xs.getD 0 0 :: (upTo 8 ++ xs ++ [xs.getD 0 0])) (hieFirst xs.length :: (List.replicate (8 + xs.length) 0 ++ [pkPack 1073741823 false false])) ∧
        all.take xs.length = hiePl xs xs.length ∧ xs.length ≤ all.length ∧ A = hieN l (some rb) sa xs.length xs.length s.n all ++ planL a' s')) := by
  intro w0 S w B hr H
  refine callsHierNew _ _ _ _ _ _ ?_
  unfold preHierNew
  refine (seatNew xs.length false false).go H [] (planL a s ++ B) rfl (fun r A w hq H => ?_)
  rcases hq with ⟨hno, rfl, rfl⟩ | ⟨h64, sa, rfl, rfl⟩
  · exact ⟨_, _, rfl, Br_ne (by decide) ⟨_, planL a s, rfl, Or.inl ⟨fun h => hno ⟨by have := h.1.1; omega, by have := h.1.2; omega⟩, rfl, [], rfl⟩, H⟩⟩
  refine ⟨_, _, rfl, Br_nne rfl ?_⟩
  simp only [List.nil_append] at H
  refine (containsFunc p xs c _ _ hieTells hl).go H [] _ rfl (hr.sub H (by simp)) (fun r A w hq H => ?_)
  obtain ⟨rfl, rfl⟩ := hq
  refine ⟨_, rfl, ?_⟩
  simp only [List.nil_append] at H
  by_cases hbad : xs.any badHome = true
  · rw [hbad]
    exact ⟨_, _, rfl, Or.inl ⟨fun h => absurd (hbad.symm.trans h.2) (by decide), rfl, seatL sa ⟨List.replicate (((xs.length : Nat) : Int)).toNat (0, -1), false, false⟩, rfl⟩, H.to (by simp [seatL])⟩
  rw [Bool.not_eq_true] at hbad
  rw [hbad]
  simp only [Br_false]
  have hgood : newOk xs := ⟨⟨by omega, by omega⟩, hbad⟩
  have hpos : 0 < xs.length := by omega
  refine ⟨⟨by omega, by omega⟩, ?_⟩
  obtain ⟨b, o, e, hc⟩ := hr.read H hpos
  subst e
  simp only [Int.toNat_natCast] at H
  refine PtrSome_at (exInt hc ?_)
  refine (planWordG a s hs (xs.getD 0 0) (hieFirst xs.length) (by omega)).go H (seatL sa ⟨List.replicate xs.length (0, -1), false, false⟩) B rfl (fun r A w5 hq H => ?_)
  obtain ⟨rfl, a1, s1, rfl, g1⟩ := hq
  refine ⟨_, rfl, H.allocK (fun w1 H => ?_)⟩
  refine ⟨fun i w' => (0 ≤ i ∧ i ≤ 8) ∧ ∃ a' s', Grew a s a' s' (xs.getD 0 0 :: upTo i.toNat) (hieFirst xs.length :: List.replicate i.toNat 0) ∧ St w0 S w' (hieN w5.heap.size none sa 0 xs.length s.n [] ++ (planL a' s' ++ B)),
    fun i _ => (8 - i).toNat, ⟨⟨by omega, by omega⟩, a1, s1, by simpa [upTo] using g1, H.to (by simp [hieN, slB, slA])⟩, ?_⟩
  rintro _g w i ⟨⟨h0, h1⟩, a', s', g, H⟩
  by_cases c1 : i < 8
  · refine Br_t c1 ?_
    have gn := g.n
    simp only [List.length_cons, upTo, List.length_map, List.length_range] at gn
    rw [← g.p]
    refine (planWordG a' s' g.ok i 0 (by omega)).go H (hieN w5.heap.size none sa 0 xs.length s.n []) B rfl (fun r A w7 hq H => ?_)
    obtain ⟨rfl, a3, s3, rfl, g3⟩ := hq
    refine ⟨_, rfl, ?_⟩
    rw [wrap_succ h0 (by omega)]
    refine ⟨⟨⟨by omega, by omega⟩, a3, s3, ?_, H⟩, show (8 - (i + 1)).toNat < (8 - i).toNat by omega⟩
    have g4 := g.trans g3
    rw [show (i + 1).toNat = i.toNat + 1 by omega, upTo_succ, ← List.replicate_append_replicate, Int.toNat_of_nonneg h0]
    simpa using g4
  have e8 : i = 8 := by omega
  subst e8
  refine Br_f c1 ?_
  clear g1 c1
  refine ⟨fun i w' => (0 ≤ i ∧ i ≤ xs.length) ∧ ∃ rp all a' s', Grew a s a' s' (xs.getD 0 0 :: (upTo 8 ++ xs.take i.toNat)) (hieFirst xs.length :: List.replicate (8 + i.toNat) 0) ∧ all.take i.toNat = hiePl xs i.toNat ∧ i.toNat ≤ all.length ∧ (rp = none → all = []) ∧
      St w0 S w' (hieN w5.heap.size rp sa i.toNat xs.length s.n all ++ (planL a' s' ++ B)),
    fun i _ => (xs.length - i).toNat, ⟨⟨by omega, by omega⟩, none, [], a', s', by simpa using g, rfl, by simp, fun _ => rfl, H⟩, ?_⟩
  clear g H
  rintro _g w i ⟨⟨h0, h1⟩, rp, all, a', s', g, ht, hle, hnone, H⟩
  have gn := g.n
  simp only [List.length_cons, List.length_append, upTo, List.length_map, List.length_range, List.length_take] at gn
  by_cases c1 : i < xs.length
  · refine Br_t c1 ⟨⟨h0, c1⟩, ?_⟩
    obtain ⟨b, o, e, hc⟩ := hr.read H (j := i.toNat) (by omega)
    cases e
    refine PtrSome_at (exInt hc ?_)
    rw [← g.p]
    refine (planWordG a' s' g.ok (xs.getD i.toNat 0) 0 (by omega)).go H (hieN w5.heap.size rp sa i.toNat xs.length s.n all) B rfl (fun r A w7 hq H => ?_)
    obtain ⟨rfl, a3, s3, rfl, g3⟩ := hq
    refine ⟨_, rfl, ?_⟩
    refine exSlice (H.cell 0 rfl rfl) ?_
    rw [wrap_succ h0 (by omega)]
    refine H.allocK (fun w8 H => ?_)
    refine app1' hiRow 6 48 (0, 0, 0, 0, 0, 0) 338 338 342 (.agg #[.int .i64 0, .int .i64 0, .int .i64 0, .int .i64 0, .int .u32 0, .int .i64 0]) (by kernel_rfl) (by kernel_rfl) (by decide) (fun _ => rfl) rfl (by intro x u hu; simp at hu; rcases hu with rfl | rfl | rfl | rfl | rfl | rfl <;> rfl) H
      [_, (w5.heap.size, [ptr sa.s, .pointer none, i64 s.n, .slice (slA rp) i.toNat all.length])] (seatL sa ⟨List.replicate xs.length (0, -1), false, false⟩ ++ (planL a3 s3 ++ B)) rp all i.toNat (xs.getD i.toNat 0, i + 1, 0, 0, 0, 0) (by simp [hieN]; rfl) hle hnone 0 rfl (by omega) (by decide) ?_
    intro p1 all1 w9 t1 l1 H
    simp only [slB, List.cons_append, List.nil_append, List.append_assoc] at H
    (first | refine PtrSome_at ?_ | refine andOne ?_ | ((first | apply exSlice | apply exInt | apply exBool | apply exPtr | apply exVal | apply andCell | apply andBd | apply andCan | apply andThere); · exact tC_Fh) | (refine toSet ?_; refine tS_Fh H (fun w H => ?_)) | (refine toSets ?_; refine tG_Fh H (fun w H => ?_)) | refine H.drewK (fun w H => ?_) | refine H.allocK (fun w H => ?_))
    (first | refine PtrSome_at ?_ | refine andOne ?_ | ((first | apply exSlice | apply exInt | apply exBool | apply exPtr | apply exVal | apply andCell | apply andBd | apply andCan | apply andThere); · exact tC_Fh) | (refine toSet ?_; refine tS_Fh H (fun w H => ?_)) | (refine toSets ?_; refine tG_Fh H (fun w H => ?_)) | refine H.drewK (fun w H => ?_) | refine H.allocK (fun w H => ?_))
    refine ⟨⟨⟨by omega, by omega⟩, some p1, all1, a3, s3, ?_, ?_, by omega, by simp, H.tail.to ?_⟩, show (xs.length - (i + 1)).toNat < (xs.length - i).toNat by omega⟩
    · have g4 := g.trans g3
      rw [show (i + 1).toNat = i.toNat + 1 by omega, take_snoc _ _ (by omega), show 8 + (i.toNat + 1) = (8 + i.toNat) + 1 by omega, ← List.replicate_append_replicate]
      simpa using g4
    · rw [show (i + 1).toNat = i.toNat + 1 by omega, t1, ht, hiePl_succ, Int.toNat_of_nonneg h0]
    · rw [show (i + 1).toNat = i.toNat + 1 by omega]
      simp [hieN, slB, slA]
  have e : i = xs.length := by omega
  subst e
  simp only [Int.toNat_natCast] at ht hle H g
  rw [List.take_length] at g
  refine Br_f c1 (H.drewK (fun w H => ⟨⟨by omega, by omega⟩, ?_⟩))
  obtain ⟨b, o, e, hc⟩ := hr.read H hpos
  cases e
  refine PtrSome_at (exInt hc ?_)
  refine (packPack 1073741823 false false []).go H [] _ rfl (fun w H => ⟨_, rfl, ?_⟩)
  simp only [List.nil_append] at H
  obtain ⟨b, o, e, hc⟩ := hr.read H hpos
  cases e
  refine andCell hc ?_
  rw [← g.p]
  refine (planWordG a' s' g.ok (xs.getD 0 0) (pkPack 1073741823 false false) (by omega)).go H (hieN w5.heap.size rp sa xs.length xs.length s.n all) B rfl (fun r A w7 hq H => ?_)
  obtain ⟨rfl, a3, s3, rfl, g3⟩ := hq
  refine ⟨_, rfl, ?_⟩
  cases rp with
  | none => have := hnone rfl; rw [this, List.length_nil] at hle; omega
  | some rb => exact ⟨_, _, rfl, Or.inr ⟨hgood, w5.heap.size, rb, sa, all, a3, s3, rfl, by simpa using g.trans g3, ht, hle, rfl⟩, H.to (by simp)⟩
end Go.Proofs.YtollfjfcdofbaaaGreat
