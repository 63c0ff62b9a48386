/- Contracts: the locks made. -/
import Derived.Test.YtollfjfcdofbaaaGreatMn
namespace Go.Proofs.YtollfjfcdofbaaaGreat
open Go Go.Proofs
set_option linter.unusedSimpArgs false
set_option linter.unusedVariables false
set_option maxRecDepth 100000
set_option maxHeartbeats 400000
-- NB 8
-- NORM seatL

theorem tells_of {f : Nat} {g : Int → Bool} (he : ∀ x R w, CallV Tryz.prog (.func (.func f) #[] #[]) [.int .i64 x] R w = Calls Tryz.prog f #[.int .i64 x] w R)
    (hc : ∀ (x : Int) (w : World) (R : Ending → World → Prop), R (.returned (.bool (g x))) w → Calls Tryz.prog f #[.int .i64 x] w R) : Tells Tryz.prog (.func (.func f) #[] #[]) g :=
  fun x w R h => by rw [he]; exact hc x w R h
theorem flatTells : Tells Tryz.prog (.func (.func 180) #[] #[]) badHome := tells_of (fun _ _ _ => rfl) (fun x w R h => by
  refine callsFlatNew1 _ _ _ ?_
  unfold preFlatNew1
  by_cases h1 : x < 0
  · refine Br_t h1 ?_
    have e : badHome x = true := by simp [badHome, h1]
    rw [e] at h; exact h
  · refine Br_f h1 ?_
    have e : badHome x = decide (x ≥ 8) := by simp [badHome, h1]
    rw [e] at h; exact h)
/-- what a plan becomes by words -/
structure Grew (a : LA) (s : LS) (a' : LA) (s' : LS) (hs ws : List Int) : Prop where
  p : a'.p = a.p
  ok : s'.ok a'
  threads : s'.threads = s.threads
  n : s'.n = s.n + hs.length
  homes : s'.homes = s.homes ++ hs
  words : s'.words = s.words ++ ws
theorem Grew.trans {a a' a'' : LA} {s s' s'' : LS} {h1 w1 h2 w2 : List Int} (g : Grew a s a' s' h1 w1) (k : Grew a' s' a'' s'' h2 w2) : Grew a s a'' s'' (h1 ++ h2) (w1 ++ w2) :=
  ⟨k.p.trans g.p, k.ok, k.threads.trans g.threads, by rw [k.n, g.n, List.length_append]; omega, by rw [k.homes, g.homes, List.append_assoc], by rw [k.words, g.words, List.append_assoc]⟩
theorem planWordG (a : LA) (s : LS) (hs : s.ok a) (home v : Int) (hb : s.n ≤ 1000000000) : SpE Tryz.prog 90 #[ptr a.p, i64 home, u32 v] (planL a s) (fun r A =>
    r = i64 s.n ∧ ∃ a' s', A = planL a' s' ∧ Grew a s a' s' [home] [v]) := by
  intro w0 S w B H
  refine (planWord a s hs home v hb w0 S w B H).mono ?_
  rintro e w' ⟨r, A', rfl, ⟨rfl, a', s', rfl, h1, h2, h3, h4, h5, h6⟩, H⟩
  exact ⟨_, _, rfl, ⟨rfl, a', s', rfl, ⟨h1, h2, h3, h4, h5, h6⟩⟩, H⟩
def newOk (xs : List Int) : Prop := (1 ≤ xs.length ∧ xs.length ≤ 64) ∧ anyBad xs = false
def flatN (l nb db : Nat) (sa : SA) (n : Nat) (next owner : Int) : Blocks :=
  (l, [ptr sa.s, .pointer none, i64 next, i64 owner, slv nb n, slv db n]) :: (nb, ints .u32 (List.replicate n 0)) :: (db, bools (List.replicate n false)) :: seatL sa ⟨List.replicate n (0, -1), false, true⟩
theorem tC_Fn {P : Prop} (h : P := by (first | ((first | refine bkCell (H.bkAt 0 rfl) ?_ | refine bkCell (H.bkAt 1 rfl) ?_ | refine bkCell (H.bkAt 2 rfl) ?_ | refine bkCell (H.bkAt 3 rfl) ?_ | refine bkCell (H.bkAt 4 rfl) ?_ | refine bkCell (H.bkAt 5 rfl) ?_ | refine bkCell (H.bkAt 6 rfl) ?_ | refine bkCell (H.bkAt 7 rfl) ?_); (first | rfl | ((first | refine ints_at0 ?_ | refine bools_at0 ?_ | refine rows_at1 (f := accRow) (s := 2) (fun _ => rfl) (by decide) ?_ rfl | refine rows_at0 (f := accRow) (s := 2) (fun _ => rfl) (by decide) ?_ rfl); first | omega | assumption | (simp only [List.length_set, List.length_append, List.length_cons, List.length_nil, List.length_map, List.length_replicate, List.length_drop, List.length_take]; omega)))) | ((first | refine bkCan (H.bkAt 0 rfl) ?_ | refine bkCan (H.bkAt 1 rfl) ?_ | refine bkCan (H.bkAt 2 rfl) ?_ | refine bkCan (H.bkAt 3 rfl) ?_ | refine bkCan (H.bkAt 4 rfl) ?_ | refine bkCan (H.bkAt 5 rfl) ?_ | refine bkCan (H.bkAt 6 rfl) ?_ | refine bkCan (H.bkAt 7 rfl) ?_); (first | decide | ((first | refine ints_lt ?_ | refine bools_lt ?_ | refine rows_lt1 (f := accRow) (s := 2) (fun _ => rfl) (by decide) ?_ | refine rows_lt0 (f := accRow) (s := 2) (fun _ => rfl) (by decide) ?_); first | omega | assumption | (simp only [List.length_set, List.length_append, List.length_cons, List.length_nil, List.length_map, List.length_replicate, List.length_drop, List.length_take]; omega)) | (simp only [List.length_cons, List.length_nil]; omega))) | ((first | refine bkThere (H.bkAt 0 rfl) ?_ | refine bkThere (H.bkAt 1 rfl) ?_ | refine bkThere (H.bkAt 2 rfl) ?_ | refine bkThere (H.bkAt 3 rfl) ?_ | refine bkThere (H.bkAt 4 rfl) ?_ | refine bkThere (H.bkAt 5 rfl) ?_ | refine bkThere (H.bkAt 6 rfl) ?_ | refine bkThere (H.bkAt 7 rfl) ?_); (first | decide | (simp only [List.length_cons, List.length_nil]; omega) | (refine rows_le (f := accRow) (s := 2) (fun _ => rfl) ?_; first | omega | assumption | (simp only [List.length_set, List.length_append, List.length_cons, List.length_nil, List.length_map, List.length_replicate, List.length_drop, List.length_take]; omega)))) | exact ⟨by omega, by omega⟩)) : P := h
theorem tS_Fn {w0 w : World} {S : List Nat} {L L' : Blocks} {b o : Nat} {v : Value} {K : World → Prop} (H : St w0 S w L) (k : ∀ w', St w0 S w' L' → K w') (h : SetG w b o v (fun w' => St w0 S w' L') := by ((first | refine bkSet H 0 rfl (fun w H => ?_) | refine bkSet H 1 rfl (fun w H => ?_) | refine bkSet H 2 rfl (fun w H => ?_) | refine bkSet H 3 rfl (fun w H => ?_) | refine bkSet H 4 rfl (fun w H => ?_) | refine bkSet H 5 rfl (fun w H => ?_) | refine bkSet H 6 rfl (fun w H => ?_) | refine bkSet H 7 rfl (fun w H => ?_)); (try simp only [List.set_cons_succ, List.set_cons_zero, ints_set0, bools_set0, pair_set0, pair_set1] at H); exact H)) : SetG w b o v K := k _ h
theorem tG_Fn {w0 w : World} {S : List Nat} {L L' : Blocks} {b o : Nat} {vs : List Value} {K : World → Prop} (H : St w0 S w L) (k : ∀ w', St w0 S w' L' → K w') (h : SetsG w b o vs (fun w' => St w0 S w' L') := by ((first | refine bkSetsF H 0 rfl rfl (fun w H => ?_) | refine bkSetsF H 1 rfl rfl (fun w H => ?_) | refine bkSetsF H 2 rfl rfl (fun w H => ?_) | refine bkSetsF H 3 rfl rfl (fun w H => ?_) | refine bkSetsF H 4 rfl rfl (fun w H => ?_) | refine bkSetsF H 5 rfl rfl (fun w H => ?_) | refine bkSetsF H 6 rfl rfl (fun w H => ?_) | refine bkSetsF H 7 rfl rfl (fun w H => ?_) | (refine bkSetsP H 0 rfl ?_ (fun w H => ?_); · first | omega | assumption | (simp only [List.length_set, List.length_append, List.length_cons, List.length_nil, List.length_map, List.length_replicate, List.length_drop, List.length_take]; omega)) | (refine bkSetsP H 1 rfl ?_ (fun w H => ?_); · first | omega | assumption | (simp only [List.length_set, List.length_append, List.length_cons, List.length_nil, List.length_map, List.length_replicate, List.length_drop, List.length_take]; omega)) | (refine bkSetsP H 2 rfl ?_ (fun w H => ?_); · first | omega | assumption | (simp only [List.length_set, List.length_append, List.length_cons, List.length_nil, List.length_map, List.length_replicate, List.length_drop, List.length_take]; omega)) | (refine bkSetsP H 3 rfl ?_ (fun w H => ?_); · first | omega | assumption | (simp only [List.length_set, List.length_append, List.length_cons, List.length_nil, List.length_map, List.length_replicate, List.length_drop, List.length_take]; omega)) | (refine bkSetsP H 4 rfl ?_ (fun w H => ?_); · first | omega | assumption | (simp only [List.length_set, List.length_append, List.length_cons, List.length_nil, List.length_map, List.length_replicate, List.length_drop, List.length_take]; omega)) | (refine bkSetsP H 5 rfl ?_ (fun w H => ?_); · first | omega | assumption | (simp only [List.length_set, List.length_append, List.length_cons, List.length_nil, List.length_map, List.length_replicate, List.length_drop, List.length_take]; omega)) | (refine bkSetsP H 6 rfl ?_ (fun w H => ?_); · first | omega | assumption | (simp only [List.length_set, List.length_append, List.length_cons, List.length_nil, List.length_map, List.length_replicate, List.length_drop, List.length_take]; omega)) | (refine bkSetsP H 7 rfl ?_ (fun w H => ?_); · first | omega | assumption | (simp only [List.length_set, List.length_append, List.length_cons, List.length_nil, List.length_map, List.length_replicate, List.length_drop, List.length_take]; omega)) ); (try simp only [List.set_cons_succ, List.set_cons_zero, ints_set0, bools_set0, pair_set0, pair_set1] at H); exact H)) : SetsG w b o vs K := k _ h
theorem flatNew (a : LA) (s : LS) (hs : s.ok a) (hb : s.n ≤ 100000) (p : Option Addr) (xs : List Int) (c : Nat) (start : Int) (hl : xs.length ≤ 1000000) :
    SpR Tryz.prog 143 #[ptr a.p, .slice p xs.length c, u32 start] (fun w S => ROi w S p xs) (planL a s) (fun r A =>
      (¬ newOk xs ∧ r = .tuple #[.pointer none, i64 1] ∧ ∃ X, A = X ++ planL a s) ∨
      (newOk xs ∧ ∃ (l nb db : Nat) (sa : SA) (a' : LA) (s' : LS), r = .tuple #[ptr l, i64 0] ∧ Grew a s a' s' [xs.getD 0 0, xs.getD 0 0] [start, start] ∧
        A = flatN l nb db sa xs.length s.n (s.n + 1) ++ planL a' s')) := by
  intro w0 S w B hr H
  refine callsFlatNew _ _ _ _ _ _ _ ?_
  unfold preFlatNew
  refine (seatNew xs.length false true).go H [] (planL a s ++ B) rfl (fun r A w hq H => ?_)
  rcases hq with ⟨hno, rfl, rfl⟩ | ⟨h64, sa, rfl, rfl⟩
  · exact ⟨_, _, rfl, Br_ne (by decide) ⟨_, planL a s, rfl, Or.inl ⟨fun h => hno ⟨by have := h.1.1; omega, by have := h.1.2; omega⟩, rfl, [], rfl⟩, H⟩⟩
  refine ⟨_, _, rfl, Br_nne rfl ?_⟩
  simp only [List.nil_append] at H
  refine (containsFunc p xs c _ _ flatTells hl).go H [] _ rfl (hr.sub H (by simp)) (fun r A w hq H => ?_)
  obtain ⟨rfl, rfl⟩ := hq
  refine ⟨_, rfl, ?_⟩
  simp only [List.nil_append] at H
  by_cases hbad : xs.any badHome = true
  · rw [hbad]
    exact ⟨_, _, rfl, Or.inl ⟨fun h => absurd (hbad.symm.trans h.2) (by decide), rfl, seatL sa ⟨List.replicate (((xs.length : Nat) : Int)).toNat (0, -1), false, true⟩, rfl⟩, H.to (by simp [seatL])⟩
  rw [Bool.not_eq_true] at hbad
  rw [hbad]
  simp only [Br_false]
  refine H.drewK (fun wd H => ?_)
  have hgood : newOk xs := ⟨⟨by omega, by omega⟩, hbad⟩
  have hpos : 0 < xs.length := by omega
  refine ⟨⟨⟨by omega, by omega, by omega, by omega⟩, H.allocK (fun w1 H => ⟨⟨by omega, by omega, by omega, by omega⟩, H.allocK (fun w2 H => H.allocK (fun w3 H => H.drewK (fun w4 H => ?_)))⟩)⟩,
    ⟨by omega, by omega, by omega, by omega⟩, H.allocK (fun w1 H => ⟨⟨by omega, by omega, by omega, by omega⟩, H.allocK (fun w2 H => H.allocK (fun w3 H => H.drewK (fun w4 H => ?_)))⟩)⟩
  · rw [made_ints, made_bools] at H
    simp only [List.cons_append, List.nil_append, Int.toNat_natCast, List.append_assoc] at H ⊢
    refine ⟨⟨by omega, by omega⟩, ?_⟩
    obtain ⟨b, o, e, hc⟩ := hr.read H hpos
    subst e
    refine PtrSome_at (exInt hc ⟨⟨by omega, by omega⟩, PtrSome_at (exInt hc ?_)⟩)
    refine (planWordG a s hs (xs.getD 0 0) start (by omega)).go H (_ :: _ :: _ :: seatL sa ⟨List.replicate xs.length (0, -1), false, true⟩) B rfl (fun r A w5 hq H => ?_)
    obtain ⟨rfl, a1, s1, rfl, g1⟩ := hq
    refine ⟨_, rfl, ?_⟩
    obtain ⟨b', o', e', hc'⟩ := hr.read H hpos
    cases e'
    refine andCell hc' ?_
    rw [← g1.p]
    refine (planWordG a1 s1 g1.ok (xs.getD 0 0) start (by have := g1.n; simp at this; omega)).go H (_ :: _ :: _ :: seatL sa ⟨List.replicate xs.length (0, -1), false, true⟩) B rfl (fun r A w6 hq H => ?_)
    obtain ⟨rfl, a2, s2, rfl, g2⟩ := hq
    refine ⟨_, rfl, ?_⟩
    simp only [List.cons_append, List.nil_append, List.append_assoc] at H
    (first | refine PtrSome_at ?_ | refine andOne ?_ | ((first | apply exSlice | apply exInt | apply exBool | apply exPtr | apply exVal | apply andCell | apply andBd | apply andCan | apply andThere); · exact tC_Fn) | (refine toSet ?_; refine tS_Fn H (fun w H => ?_)) | (refine toSets ?_; refine tG_Fn H (fun w H => ?_)) | refine H.drewK (fun w H => ?_) | refine H.allocK (fun w H => ?_))
    (first | refine PtrSome_at ?_ | refine andOne ?_ | ((first | apply exSlice | apply exInt | apply exBool | apply exPtr | apply exVal | apply andCell | apply andBd | apply andCan | apply andThere); · exact tC_Fn) | (refine toSet ?_; refine tS_Fn H (fun w H => ?_)) | (refine toSets ?_; refine tG_Fn H (fun w H => ?_)) | refine H.drewK (fun w H => ?_) | refine H.allocK (fun w H => ?_))
    (first | refine PtrSome_at ?_ | refine andOne ?_ | ((first | apply exSlice | apply exInt | apply exBool | apply exPtr | apply exVal | apply andCell | apply andBd | apply andCan | apply andThere); · exact tC_Fn) | (refine toSet ?_; refine tS_Fn H (fun w H => ?_)) | (refine toSets ?_; refine tG_Fn H (fun w H => ?_)) | refine H.drewK (fun w H => ?_) | refine H.allocK (fun w H => ?_))
    (first | refine PtrSome_at ?_ | refine andOne ?_ | ((first | apply exSlice | apply exInt | apply exBool | apply exPtr | apply exVal | apply andCell | apply andBd | apply andCan | apply andThere); · exact tC_Fn) | (refine toSet ?_; refine tS_Fn H (fun w H => ?_)) | (refine toSets ?_; refine tG_Fn H (fun w H => ?_)) | refine H.drewK (fun w H => ?_) | refine H.allocK (fun w H => ?_))
    have en : ((s1.n : Nat) : Int) = s.n + 1 := by have := g1.n; simp at this; omega
    rw [en] at H
    refine ⟨_, _, rfl, Or.inr ⟨hgood, w2.heap.size, wd.heap.size, w1.heap.size, sa, a2, s2, rfl, g1.trans g2, rfl⟩, H.perm (by simp only [flatN, List.cons_append]; exact List.Perm.cons _ (List.Perm.swap _ _ _))⟩
  · rw [made_bools, made_ints] at H
    simp only [List.cons_append, List.nil_append, Int.toNat_natCast, List.append_assoc] at H ⊢
    refine ⟨⟨by omega, by omega⟩, ?_⟩
    obtain ⟨b, o, e, hc⟩ := hr.read H hpos
    subst e
    refine PtrSome_at (exInt hc ⟨⟨by omega, by omega⟩, PtrSome_at (exInt hc ?_)⟩)
    refine (planWordG a s hs (xs.getD 0 0) start (by omega)).go H (_ :: _ :: _ :: seatL sa ⟨List.replicate xs.length (0, -1), false, true⟩) B rfl (fun r A w5 hq H => ?_)
    obtain ⟨rfl, a1, s1, rfl, g1⟩ := hq
    refine ⟨_, rfl, ?_⟩
    obtain ⟨b', o', e', hc'⟩ := hr.read H hpos
    cases e'
    refine andCell hc' ?_
    rw [← g1.p]
    refine (planWordG a1 s1 g1.ok (xs.getD 0 0) start (by have := g1.n; simp at this; omega)).go H (_ :: _ :: _ :: seatL sa ⟨List.replicate xs.length (0, -1), false, true⟩) B rfl (fun r A w6 hq H => ?_)
    obtain ⟨rfl, a2, s2, rfl, g2⟩ := hq
    refine ⟨_, rfl, ?_⟩
    simp only [List.cons_append, List.nil_append, List.append_assoc] at H
    (first | refine PtrSome_at ?_ | refine andOne ?_ | ((first | apply exSlice | apply exInt | apply exBool | apply exPtr | apply exVal | apply andCell | apply andBd | apply andCan | apply andThere); · exact tC_Fn) | (refine toSet ?_; refine tS_Fn H (fun w H => ?_)) | (refine toSets ?_; refine tG_Fn H (fun w H => ?_)) | refine H.drewK (fun w H => ?_) | refine H.allocK (fun w H => ?_))
    (first | refine PtrSome_at ?_ | refine andOne ?_ | ((first | apply exSlice | apply exInt | apply exBool | apply exPtr | apply exVal | apply andCell | apply andBd | apply andCan | apply andThere); · exact tC_Fn) | (refine toSet ?_; refine tS_Fn H (fun w H => ?_)) | (refine toSets ?_; refine tG_Fn H (fun w H => ?_)) | refine H.drewK (fun w H => ?_) | refine H.allocK (fun w H => ?_))
    (first | refine PtrSome_at ?_ | refine andOne ?_ | ((first | apply exSlice | apply exInt | apply exBool | apply exPtr | apply exVal | apply andCell | apply andBd | apply andCan | apply andThere); · exact tC_Fn) | (refine toSet ?_; refine tS_Fn H (fun w H => ?_)) | (refine toSets ?_; refine tG_Fn H (fun w H => ?_)) | refine H.drewK (fun w H => ?_) | refine H.allocK (fun w H => ?_))
    (first | refine PtrSome_at ?_ | refine andOne ?_ | ((first | apply exSlice | apply exInt | apply exBool | apply exPtr | apply exVal | apply andCell | apply andBd | apply andCan | apply andThere); · exact tC_Fn) | (refine toSet ?_; refine tS_Fn H (fun w H => ?_)) | (refine toSets ?_; refine tG_Fn H (fun w H => ?_)) | refine H.drewK (fun w H => ?_) | refine H.allocK (fun w H => ?_))
    have en : ((s1.n : Nat) : Int) = s.n + 1 := by have := g1.n; simp at this; omega
    rw [en] at H
    refine ⟨_, _, rfl, Or.inr ⟨hgood, w2.heap.size, w1.heap.size, wd.heap.size, sa, a2, s2, rfl, g1.trans g2, rfl⟩, H.to (by simp [flatN])⟩
theorem planRowG (a : LA) (s : LS) (hs : s.ok a) (k : Nat) (hk : k ≤ 4097) (home v : Int) (hb : s.n ≤ 1000000000) : SpE Tryz.prog 24 #[ptr a.p, i64 k, i64 home, u32 v] (planL a s) (fun r A =>
    r = i64 s.n ∧ ∃ a' s', A = planL a' s' ∧ Grew a s a' s' (List.replicate k home) (List.replicate k v)) := by
  intro w0 S w B H
  refine (planRow a s hs k home v hb w0 S w B H).mono ?_
  have e : (rowN k).toNat = k := by unfold rowN minI maxI; split <;> split <;> omega
  rintro e' w' ⟨r, A', rfl, ⟨rfl, a', s', rfl, h1, h2, h3, h4, h5, h6⟩, H⟩
  rw [e] at h4 h5 h6
  exact ⟨_, _, rfl, ⟨rfl, a', s', rfl, ⟨h1, h2, h3, by rw [h4, List.length_replicate], h5, h6⟩⟩, H⟩
theorem mcsTells : Tells Tryz.prog (.func (.func 182) #[] #[]) badHome := tells_of (fun _ _ _ => rfl) (fun x w R h => by
  refine callsMcsNew1 _ _ _ ?_
  unfold preMcsNew1
  by_cases h1 : x < 0
  · refine Br_t h1 ?_
    have e : badHome x = true := by simp [badHome, h1]
    rw [e] at h; exact h
  · refine Br_f h1 ?_
    have e : badHome x = decide (x ≥ 8) := by simp [badHome, h1]
    rw [e] at h; exact h)
theorem made_mcRow (n : Nat) : (madeCells #[.int .i64 0, .int .u32 0] (n * 2)).toList = rows mcRow (List.replicate n (0, 0)) := by
  have := madeCells_rows mcRow ((0 : Int), (0 : Int)) n (by simp)
  have e : (mcRow ((0 : Int), (0 : Int))).toArray = #[.int .i64 0, .int .u32 0] := rfl
  rw [e] at this
  rw [show n * 2 = n * (mcRow ((0 : Int), (0 : Int))).length from rfl, this]
  simp [rowsA, rows]
def mcsN (l rb : Nat) (sa : SA) (n : Nat) (tail : Int) : Blocks :=
  (l, [ptr sa.s, .pointer none, i64 tail, slv rb n]) :: (rb, rows mcRow (List.replicate n (0, 0))) :: seatL sa ⟨List.replicate n (0, -1), false, true⟩
theorem mcsNew (a : LA) (s : LS) (hs : s.ok a) (hb : s.n ≤ 100000) (p : Option Addr) (xs : List Int) (c : Nat) (hl : xs.length ≤ 1000000) :
    SpR Tryz.prog 145 #[ptr a.p, .slice p xs.length c] (fun w S => ROi w S p xs) (planL a s) (fun r A =>
      (¬ newOk xs ∧ r = .tuple #[.pointer none, i64 1] ∧ ∃ X, A = X ++ planL a s) ∨
      (newOk xs ∧ ∃ (l rb : Nat) (sa : SA) (a' : LA) (s' : LS), r = .tuple #[ptr l, i64 0] ∧ Grew a s a' s' (xs.getD 0 0 :: xs.flatMap fun h => [h, h]) (List.replicate (1 + 2 * xs.length) 0) ∧
        A = mcsN l rb sa xs.length s.n ++ planL a' s')) := by
  intro w0 S w B hr H
  refine callsMcsNew _ _ _ _ _ _ ?_
  unfold preMcsNew
  refine (seatNew xs.length false true).go H [] (planL a s ++ B) rfl (fun r A w hq H => ?_)
  rcases hq with ⟨hno, rfl, rfl⟩ | ⟨h64, sa, rfl, rfl⟩
  · exact ⟨_, _, rfl, Br_ne (by decide) ⟨_, planL a s, rfl, Or.inl ⟨fun h => hno ⟨by have := h.1.1; omega, by have := h.1.2; omega⟩, rfl, [], rfl⟩, H⟩⟩
  refine ⟨_, _, rfl, Br_nne rfl ?_⟩
  simp only [List.nil_append] at H
  refine (containsFunc p xs c _ _ mcsTells hl).go H [] _ rfl (hr.sub H (by simp)) (fun r A w hq H => ?_)
  obtain ⟨rfl, rfl⟩ := hq
  refine ⟨_, rfl, ?_⟩
  simp only [List.nil_append] at H
  by_cases hbad : xs.any badHome = true
  · rw [hbad]
    exact ⟨_, _, rfl, Or.inl ⟨fun h => absurd (hbad.symm.trans h.2) (by decide), rfl, seatL sa ⟨List.replicate (((xs.length : Nat) : Int)).toNat (0, -1), false, true⟩, rfl⟩, H.to (by simp [seatL])⟩
  rw [Bool.not_eq_true] at hbad
  rw [hbad]
  simp only [Br_false]
  refine H.drewK (fun wd H => ?_)
  have hgood : newOk xs := ⟨⟨by omega, by omega⟩, hbad⟩
  have hpos : 0 < xs.length := by omega
  refine ⟨⟨by omega, by omega⟩, ?_⟩
  obtain ⟨b, o, e, hc⟩ := hr.read H hpos
  subst e
  simp only [Int.toNat_natCast] at H
  refine PtrSome_at (exInt hc ⟨?_, ?_⟩)
  · refine (planWordG a s hs (xs.getD 0 0) 0 (by omega)).go H (seatL sa ⟨List.replicate xs.length (0, -1), false, true⟩) B rfl (fun r A w5 hq H => ?_)
    obtain ⟨rfl, a1, s1, rfl, g1⟩ := hq
    refine ⟨_, rfl, ⟨by omega, by omega, by omega, by omega⟩, H.allocK (fun w1 H => H.allocK (fun w2 H => ?_))⟩
    rw [made_mcRow] at H
    simp only [List.cons_append, List.nil_append, Int.toNat_natCast, List.append_assoc] at H ⊢
    refine ⟨fun i w' => (0 ≤ i ∧ i ≤ xs.length) ∧ ∃ a' s', Grew a s a' s' (xs.getD 0 0 :: (xs.take i.toNat).flatMap fun h => [h, h]) (List.replicate (1 + 2 * i.toNat) 0) ∧ St w0 S w' (mcsN w1.heap.size w5.heap.size sa xs.length s.n ++ (planL a' s' ++ B)),
      fun i _ => (xs.length - i).toNat, ⟨⟨by omega, by omega⟩, a1, s1, by simpa using g1, H.to (by simp [mcsN])⟩, ?_⟩
    rintro _g w i ⟨⟨h0, h1⟩, a', s', g, H⟩
    by_cases c1 : i < xs.length
    · refine Br_t c1 ⟨⟨h0, c1⟩, ?_⟩
      obtain ⟨b, o, e, hc⟩ := hr.read H (j := i.toNat) (by omega)
      cases e
      refine PtrSome_at (exInt hc ?_)
      rw [← g.p]
      have gn := g.n
      have fl : ∀ ys : List Int, (ys.flatMap fun h => [h, h]).length = 2 * ys.length := by intro ys; induction ys with | nil => rfl | cons y ys ih => simp only [List.flatMap_cons, List.length_append, ih, List.length_cons, List.length_nil]; omega
      rw [List.length_cons, fl, List.length_take] at gn
      refine (planRowG a' s' g.ok 2 (by decide) (xs.getD i.toNat 0) 0 (by omega)).go H (mcsN w1.heap.size w5.heap.size sa xs.length s.n) B rfl (fun r A w6 hq H => ?_)
      obtain ⟨rfl, a2, s2, rfl, g2⟩ := hq
      refine ⟨_, rfl, ?_⟩
      rw [wrap_succ h0 (by omega)]
      refine ⟨⟨⟨by omega, by omega⟩, a2, s2, ?_, H⟩, show (xs.length - (i + 1)).toNat < (xs.length - i).toNat by omega⟩
      have g3 := g.trans g2
      have h : i.toNat < xs.length := by omega
      have e2 : xs.take (i + 1).toNat = xs.take i.toNat ++ [xs.getD i.toNat 0] := by
        rw [show (i + 1).toNat = i.toNat + 1 by omega, List.take_add_one, List.getElem?_eq_getElem h, List.getD_eq_getElem?_getD, List.getElem?_eq_getElem h]; rfl
      rw [e2, List.flatMap_append, show 1 + 2 * (i + 1).toNat = (1 + 2 * i.toNat) + 2 by omega, ← List.replicate_append_replicate]
      simpa using g3
    · have e : i = xs.length := by omega
      subst e
      refine Br_f c1 ⟨_, _, rfl, Or.inr ⟨hgood, w1.heap.size, w5.heap.size, sa, a', s', rfl, by simpa using g, rfl⟩, H.to (by simp)⟩
  · refine ⟨⟨by omega, by omega, by omega, by omega⟩, H.allocK (fun w1 H => ?_)⟩
    rw [made_mcRow] at H
    obtain ⟨b', o', e', hc'⟩ := hr.read H hpos
    cases e'
    refine andCell hc' ?_
    simp only [Int.toNat_natCast] at H
    refine (planWordG a s hs (xs.getD 0 0) 0 (by omega)).go H (_ :: seatL sa ⟨List.replicate xs.length (0, -1), false, true⟩) B rfl (fun r A w5 hq H => ?_)
    obtain ⟨rfl, a1, s1, rfl, g1⟩ := hq
    refine ⟨_, rfl, H.allocK (fun w2 H => ?_)⟩
    simp only [List.cons_append, List.nil_append, Int.toNat_natCast, List.append_assoc] at H ⊢
    refine ⟨fun i w' => (0 ≤ i ∧ i ≤ xs.length) ∧ ∃ a' s', Grew a s a' s' (xs.getD 0 0 :: (xs.take i.toNat).flatMap fun h => [h, h]) (List.replicate (1 + 2 * i.toNat) 0) ∧ St w0 S w' (mcsN w5.heap.size wd.heap.size sa xs.length s.n ++ (planL a' s' ++ B)),
      fun i _ => (xs.length - i).toNat, ⟨⟨by omega, by omega⟩, a1, s1, by simpa using g1, H.to (by simp [mcsN])⟩, ?_⟩
    rintro _g w i ⟨⟨h0, h1⟩, a', s', g, H⟩
    by_cases c1 : i < xs.length
    · refine Br_t c1 ⟨⟨h0, c1⟩, ?_⟩
      obtain ⟨b, o, e, hc⟩ := hr.read H (j := i.toNat) (by omega)
      cases e
      refine PtrSome_at (exInt hc ?_)
      rw [← g.p]
      have gn := g.n
      have fl : ∀ ys : List Int, (ys.flatMap fun h => [h, h]).length = 2 * ys.length := by intro ys; induction ys with | nil => rfl | cons y ys ih => simp only [List.flatMap_cons, List.length_append, ih, List.length_cons, List.length_nil]; omega
      rw [List.length_cons, fl, List.length_take] at gn
      refine (planRowG a' s' g.ok 2 (by decide) (xs.getD i.toNat 0) 0 (by omega)).go H (mcsN w5.heap.size wd.heap.size sa xs.length s.n) B rfl (fun r A w6 hq H => ?_)
      obtain ⟨rfl, a2, s2, rfl, g2⟩ := hq
      refine ⟨_, rfl, ?_⟩
      rw [wrap_succ h0 (by omega)]
      refine ⟨⟨⟨by omega, by omega⟩, a2, s2, ?_, H⟩, show (xs.length - (i + 1)).toNat < (xs.length - i).toNat by omega⟩
      have g3 := g.trans g2
      have h : i.toNat < xs.length := by omega
      have e2 : xs.take (i + 1).toNat = xs.take i.toNat ++ [xs.getD i.toNat 0] := by
        rw [show (i + 1).toNat = i.toNat + 1 by omega, List.take_add_one, List.getElem?_eq_getElem h, List.getD_eq_getElem?_getD, List.getElem?_eq_getElem h]; rfl
      rw [e2, List.flatMap_append, show 1 + 2 * (i + 1).toNat = (1 + 2 * i.toNat) + 2 by omega, ← List.replicate_append_replicate]
      simpa using g3
    · have e : i = xs.length := by omega
      subst e
      refine Br_f c1 ⟨_, _, rfl, Or.inr ⟨hgood, w5.heap.size, wd.heap.size, sa, a', s', rfl, by simpa using g, rfl⟩, H.to (by simp)⟩
theorem clhTells : Tells Tryz.prog (.func (.func 181) #[] #[]) badHome := tells_of (fun _ _ _ => rfl) (fun x w R h => by
  refine callsClhNew1 _ _ _ ?_
  unfold preClhNew1
  by_cases h1 : x < 0
  · refine Br_t h1 ?_
    have e : badHome x = true := by simp [badHome, h1]
    rw [e] at h; exact h
  · refine Br_f h1 ?_
    have e : badHome x = decide (x ≥ 8) := by simp [badHome, h1]
    rw [e] at h; exact h)
theorem take_snoc (xs : List Int) (i : Nat) (h : i < xs.length) : xs.take (i + 1) = xs.take i ++ [xs.getD i 0] := by
  rw [List.take_add_one, List.getElem?_eq_getElem h, List.getD_eq_getElem?_getD, List.getElem?_eq_getElem h]; rfl
def clhPl (n : Nat) : List (Int × Int × Int) := (List.range n).map fun t => (((t : Nat) : Int) + 1, 0, 0)
theorem clhPl_succ (n : Nat) : clhPl (n + 1) = clhPl n ++ [(((n : Nat) : Int) + 1, 0, 0)] := by simp [clhPl, List.range_succ]
def clhN (l : Nat) (rp : Option Nat) (sa : SA) (k n : Nat) (tail : Int) (all : List (Int × Int × Int)) : Blocks :=
  (l, [ptr sa.s, .pointer none, i64 tail, .slice (slA rp) k all.length]) :: (slB clRow rp all ++ seatL sa ⟨List.replicate n (0, -1), false, true⟩)
theorem clhNew (a : LA) (s : LS) (hs : s.ok a) (hb : s.n ≤ 100000) (p : Option Addr) (xs : List Int) (c : Nat) (hl : xs.length ≤ 1000000) :
    SpR Tryz.prog 144 #[ptr a.p, .slice p xs.length c] (fun w S => ROi w S p xs) (planL a s) (fun r A =>
      (¬ newOk xs ∧ r = .tuple #[.pointer none, i64 1] ∧ ∃ X, A = X ++ planL a s) ∨
      (newOk xs ∧ ∃ (l rb : Nat) (sa : SA) (all : List (Int × Int × Int)) (a' : LA) (s' : LS), r = .tuple #[ptr l, i64 0] ∧ Grew a s a' s' (xs.getD 0 0 :: xs.getD 0 0 :: xs) (List.replicate (2 + xs.length) 0) ∧
        all.take xs.length = clhPl xs.length ∧ xs.length ≤ all.length ∧ A = clhN l (some rb) sa xs.length xs.length s.n all ++ planL a' s')) := by
  intro w0 S w B hr H
  refine callsClhNew _ _ _ _ _ _ ?_
  unfold preClhNew
  refine (seatNew xs.length false true).go H [] (planL a s ++ B) rfl (fun r A w hq H => ?_)
  rcases hq with ⟨hno, rfl, rfl⟩ | ⟨h64, sa, rfl, rfl⟩
  · exact ⟨_, _, rfl, Br_ne (by decide) ⟨_, planL a s, rfl, Or.inl ⟨fun h => hno ⟨by have := h.1.1; omega, by have := h.1.2; omega⟩, rfl, [], rfl⟩, H⟩⟩
  refine ⟨_, _, rfl, Br_nne rfl ?_⟩
  simp only [List.nil_append] at H
  refine (containsFunc p xs c _ _ clhTells hl).go H [] _ rfl (hr.sub H (by simp)) (fun r A w hq H => ?_)
  obtain ⟨rfl, rfl⟩ := hq
  refine ⟨_, rfl, ?_⟩
  simp only [List.nil_append] at H
  by_cases hbad : xs.any badHome = true
  · rw [hbad]
    exact ⟨_, _, rfl, Or.inl ⟨fun h => absurd (hbad.symm.trans h.2) (by decide), rfl, seatL sa ⟨List.replicate (((xs.length : Nat) : Int)).toNat (0, -1), false, true⟩, rfl⟩, H.to (by simp [seatL])⟩
  rw [Bool.not_eq_true] at hbad
  rw [hbad]
  simp only [Br_false]
  have hgood : newOk xs := ⟨⟨by omega, by omega⟩, hbad⟩
  have hpos : 0 < xs.length := by omega
  refine ⟨⟨by omega, by omega⟩, ?_⟩
  obtain ⟨b, o, e, hc⟩ := hr.read H hpos
  subst e
  simp only [Int.toNat_natCast] at H
  refine PtrSome_at (exInt hc ?_)
  refine (planWordG a s hs (xs.getD 0 0) 0 (by omega)).go H (seatL sa ⟨List.replicate xs.length (0, -1), false, true⟩) B rfl (fun r A w5 hq H => ?_)
  obtain ⟨rfl, a1, s1, rfl, g1⟩ := hq
  refine ⟨_, rfl, H.allocK (fun w1 H => ⟨⟨by omega, by omega⟩, ?_⟩)⟩
  obtain ⟨b', o', e', hc'⟩ := hr.read H hpos
  cases e'
  refine PtrSome_at (exInt hc' ?_)
  rw [← g1.p]
  have n1 := g1.n
  simp only [List.length_cons, List.length_nil] at n1
  refine (planWordG a1 s1 g1.ok (xs.getD 0 0) 0 (by omega)).go H (_ :: seatL sa ⟨List.replicate xs.length (0, -1), false, true⟩) B rfl (fun r A w6 hq H => ?_)
  obtain ⟨rfl, a2, s2, rfl, g2⟩ := hq
  have g12 := g1.trans g2
  refine ⟨_, rfl, ?_⟩
  refine ⟨fun i w' => (0 ≤ i ∧ i ≤ xs.length) ∧ ∃ rp all a' s', Grew a s a' s' (xs.getD 0 0 :: xs.getD 0 0 :: xs.take i.toNat) (List.replicate (2 + i.toNat) 0) ∧ all.take i.toNat = clhPl i.toNat ∧ i.toNat ≤ all.length ∧ (rp = none → all = []) ∧
      St w0 S w' (clhN w5.heap.size rp sa i.toNat xs.length s.n all ++ (planL a' s' ++ B)),
    fun i _ => (xs.length - i).toNat, ⟨⟨by omega, by omega⟩, none, [], a2, s2, by simpa using g12, rfl, by simp, fun _ => rfl, H.to (by simp [clhN, slB, slA])⟩, ?_⟩
  rintro _g w i ⟨⟨h0, h1⟩, rp, all, a', s', g, ht, hle, hnone, H⟩
  by_cases c1 : i < xs.length
  · refine Br_t c1 ⟨⟨h0, c1⟩, ?_⟩
    obtain ⟨b, o, e, hc⟩ := hr.read H (j := i.toNat) (by omega)
    cases e
    refine PtrSome_at (exInt hc ?_)
    rw [g1.p, ← g.p]
    have gn := g.n
    simp only [List.length_cons, List.length_take] at gn
    refine (planWordG a' s' g.ok (xs.getD i.toNat 0) 0 (by omega)).go H (clhN w5.heap.size rp sa i.toNat xs.length s.n all) B rfl (fun r A w7 hq H => ?_)
    obtain ⟨rfl, a3, s3, rfl, g3⟩ := hq
    refine ⟨_, rfl, ?_⟩
    refine exSlice (H.cell 0 rfl rfl) ?_
    rw [wrap_succ h0 (by omega)]
    refine H.allocK (fun w8 H => ?_)
    refine app1' clRow 3 24 (0, 0, 0) 314 314 318 (.agg #[.int .i64 0, .int .i64 0, .int .i64 0]) (by kernel_rfl) (by kernel_rfl) (by decide) (fun _ => rfl) rfl (by intro x u hu; simp at hu; rcases hu with rfl | rfl | rfl <;> rfl) H
      [_, (w5.heap.size, [ptr sa.s, .pointer none, i64 s.n, .slice (slA rp) i.toNat all.length])] (seatL sa ⟨List.replicate xs.length (0, -1), false, true⟩ ++ (planL a3 s3 ++ B)) rp all i.toNat (i + 1, 0, 0) (by simp [clhN]; rfl) hle hnone 0 rfl (by omega) (by decide) ?_
    intro p1 all1 w9 t1 l1 H
    simp only [slB, List.cons_append, List.nil_append, List.append_assoc] at H
    (first | refine PtrSome_at ?_ | refine andOne ?_ | ((first | apply exSlice | apply exInt | apply exBool | apply exPtr | apply exVal | apply andCell | apply andBd | apply andCan | apply andThere); · exact tC_Fn) | (refine toSet ?_; refine tS_Fn H (fun w H => ?_)) | (refine toSets ?_; refine tG_Fn H (fun w H => ?_)) | refine H.drewK (fun w H => ?_) | refine H.allocK (fun w H => ?_))
    (first | refine PtrSome_at ?_ | refine andOne ?_ | ((first | apply exSlice | apply exInt | apply exBool | apply exPtr | apply exVal | apply andCell | apply andBd | apply andCan | apply andThere); · exact tC_Fn) | (refine toSet ?_; refine tS_Fn H (fun w H => ?_)) | (refine toSets ?_; refine tG_Fn H (fun w H => ?_)) | refine H.drewK (fun w H => ?_) | refine H.allocK (fun w H => ?_))
    refine ⟨⟨⟨by omega, by omega⟩, some p1, all1, a3, s3, ?_, ?_, by omega, by simp, H.tail.to ?_⟩, show (xs.length - (i + 1)).toNat < (xs.length - i).toNat by omega⟩
    · have g4 := g.trans g3
      rw [show (i + 1).toNat = i.toNat + 1 by omega, take_snoc _ _ (by omega), show 2 + (i.toNat + 1) = (2 + i.toNat) + 1 by omega, ← List.replicate_append_replicate]
      simpa using g4
    · rw [show (i + 1).toNat = i.toNat + 1 by omega, t1, ht, clhPl_succ, Int.toNat_of_nonneg h0]
    · rw [show (i + 1).toNat = i.toNat + 1 by omega]
      simp [clhN, slB, slA]
  · have e : i = xs.length := by omega
    subst e
    simp only [Int.toNat_natCast] at ht hle H g
    rw [List.take_length] at g
    cases rp with
    | none => have := hnone rfl; rw [this, List.length_nil] at hle; omega
    | some rb => exact Br_f c1 ⟨_, _, rfl, Or.inr ⟨hgood, w5.heap.size, rb, sa, all, a', s', rfl, g, ht, hle, rfl⟩, H.to (by simp)⟩
end Go.Proofs.YtollfjfcdofbaaaGreat
