/- Contracts: Anderson's lock made. -/
import Derived.Test.YtollfjfcdofbaaaGreatFh
namespace Go.Proofs.YtollfjfcdofbaaaGreat
open Go Go.Proofs
set_option linter.unusedSimpArgs false
set_option linter.unusedVariables false
set_option maxRecDepth 100000
set_option maxHeartbeats 400000
-- NB 8
-- NORM seatL

def pows (k : Nat) : List Int := (List.range k).map fun j => ((2 ^ j : Nat) : Int)
theorem pows_succ (k : Nat) : pows (k + 1) = pows k ++ [((2 ^ k : Nat) : Int)] := by simp [pows, List.range_succ]
theorem packSizes : SpE Tryz.prog 187 #[] [] (fun r A => ∃ (b : Nat) (all : List Int), r = .slice (some ⟨b, 0, none⟩) 7 all.length ∧ all.take 7 = pows 7 ∧ 7 ≤ all.length ∧ A = [(b, rows iRow all)]) := by
  intro w0 S w B H
  refine callsPackSizes _ _ ?_
  unfold prePackSizes
  refine ⟨fun p l c n w' => ∃ (k : Nat) (rp : Option Nat) (all : List Int), k ≤ 7 ∧ n = ((2 ^ k : Nat) : Int) ∧ p = slA rp ∧ l = k ∧ c = all.length ∧ all.take k = pows k ∧ k ≤ all.length ∧ (rp = none → all = []) ∧ St w0 S w' (slB iRow rp all ++ B),
    fun _ l _ _ _ => 8 - l, ⟨0, none, [], by omega, rfl, rfl, rfl, rfl, rfl, by simp, fun _ => rfl, H⟩, ?_⟩
  rintro _g w p l c n ⟨k, rp, all, hk, rfl, rfl, rfl, rfl, ht, hle, hnone, H⟩
  by_cases c1 : l = 7
  · subst c1
    cases rp with
    | none => have := hnone rfl; rw [this, List.length_nil] at hle; omega
    | some b => exact Br_f (by decide) ⟨_, _, rfl, ⟨b, all, rfl, ht, hle, rfl⟩, H⟩
  · have hl : l ≤ 6 := by omega
    have hle64 : (2 ^ l : Nat) ≤ 64 := Nat.pow_le_pow_right (by decide) hl
    refine Br_t (by exact_mod_cast hle64) (H.allocK (fun w8 H => ?_))
    refine app1' iRow 1 8 0 22 22 3 (.int .i64 0) (by kernel_rfl) (by kernel_rfl) (by decide) (fun _ => rfl) rfl (by intro x u hu; simp at hu; subst hu; rfl) H
      [(w.heap.size, [i64 ((2 ^ l : Nat) : Int)])] B rp all l ((2 ^ l : Nat) : Int) (by simp) hle hnone 0 rfl (by omega) (by decide) ?_
    intro p1 all1 w9 t1 l1 H
    simp only [List.cons_append, List.nil_append] at H
    refine ⟨by decide, ?_⟩
    have e : IntKind.i64.wrap (((2 ^ l : Nat) : Int) * 2 ^ min (Int.toNat 1) IntKind.i64.bits) = ((2 ^ (l + 1) : Nat) : Int) := by
      have e2 : min (Int.toNat 1) IntKind.i64.bits = 1 := by decide
      rw [e2, Nat.pow_succ, wrap_i64]
      · simp
      · have : (0 : Int) ≤ ((2 ^ l : Nat) : Int) := Int.natCast_nonneg _
        omega
      · omega
    rw [e]
    refine ⟨⟨l + 1, some p1, all1, by omega, rfl, rfl, rfl, rfl, by rw [t1, ht, pows_succ], l1, by simp, H.tail⟩, show 8 - (l + 1) < 8 - l by omega⟩
theorem slotTells : Tells Tryz.prog (.func (.func 186) #[] #[]) badHome := tells_of (fun _ _ _ => rfl) (fun x w R h => by
  refine callsSlotsNew1 _ _ _ ?_
  unfold preSlotsNew1
  by_cases h1 : x < 0
  · refine Br_t h1 ?_
    have e : badHome x = true := by simp [badHome, h1]
    rw [e] at h; exact h
  · refine Br_f h1 ?_
    have e : badHome x = decide (x ≥ 8) := by simp [badHome, h1]
    rw [e] at h; exact h)
theorem made_slRow (n : Nat) : (madeCells #[.int .u32 0, .int .i64 0] (n * 2)).toList = rows slRow (List.replicate n (0, 0)) := by
  have := madeCells_rows slRow ((0 : Int), (0 : Int)) n (by simp)
  have e : (slRow ((0 : Int), (0 : Int))).toArray = #[.int .u32 0, .int .i64 0] := rfl
  rw [e] at this
  rw [show n * 2 = n * (slRow ((0 : Int), (0 : Int))).length from rfl, this]
  simp [rowsA, rows]
def slotN (l rb : Nat) (sa : SA) (n : Nat) (tail m : Int) : Blocks :=
  (l, [ptr sa.s, .pointer none, i64 tail, i64 m, slv rb n]) :: (rb, rows slRow (List.replicate n (0, 0))) :: seatL sa ⟨List.replicate n (0, -1), false, false⟩
def slotOk (xs : List Int) (m : Int) : Prop := newOk xs ∧ (xs.length : Int) ≤ m ∧ (pows 7).any (fun x => m == x) = true
def slotH (xs : List Int) (k : Nat) : List Int := (List.range k).map fun j => xs.getD (j % xs.length) 0
def slotW (start m : Int) (k : Nat) : List Int := (List.range k).map fun j => if ((j : Nat) : Int) = packSlot start m then 1 else 0
theorem slotH_succ (xs : List Int) (k : Nat) : slotH xs (k + 1) = slotH xs k ++ [xs.getD (k % xs.length) 0] := by simp [slotH, List.range_succ]
theorem slotW_succ (start m : Int) (k : Nat) : slotW start m (k + 1) = slotW start m k ++ [if ((k : Nat) : Int) = packSlot start m then 1 else 0] := by simp [slotW, List.range_succ]
theorem tC_Fg {P : Prop} (h : P := by (first | ((first | refine bkCell (H.bkAt 0 rfl) ?_ | refine bkCell (H.bkAt 1 rfl) ?_ | refine bkCell (H.bkAt 2 rfl) ?_ | refine bkCell (H.bkAt 3 rfl) ?_ | refine bkCell (H.bkAt 4 rfl) ?_ | refine bkCell (H.bkAt 5 rfl) ?_ | refine bkCell (H.bkAt 6 rfl) ?_ | refine bkCell (H.bkAt 7 rfl) ?_); (first | rfl | ((first | refine ints_at0 ?_ | refine bools_at0 ?_ | refine rows_at1 (f := accRow) (s := 2) (fun _ => rfl) (by decide) ?_ rfl | refine rows_at0 (f := accRow) (s := 2) (fun _ => rfl) (by decide) ?_ rfl); first | omega | assumption | (simp only [List.length_set, List.length_append, List.length_cons, List.length_nil, List.length_map, List.length_replicate, List.length_drop, List.length_take]; omega)))) | ((first | refine bkCan (H.bkAt 0 rfl) ?_ | refine bkCan (H.bkAt 1 rfl) ?_ | refine bkCan (H.bkAt 2 rfl) ?_ | refine bkCan (H.bkAt 3 rfl) ?_ | refine bkCan (H.bkAt 4 rfl) ?_ | refine bkCan (H.bkAt 5 rfl) ?_ | refine bkCan (H.bkAt 6 rfl) ?_ | refine bkCan (H.bkAt 7 rfl) ?_); (first | decide | ((first | refine ints_lt ?_ | refine bools_lt ?_ | refine rows_lt1 (f := accRow) (s := 2) (fun _ => rfl) (by decide) ?_ | refine rows_lt0 (f := accRow) (s := 2) (fun _ => rfl) (by decide) ?_); first | omega | assumption | (simp only [List.length_set, List.length_append, List.length_cons, List.length_nil, List.length_map, List.length_replicate, List.length_drop, List.length_take]; omega)) | (simp only [List.length_cons, List.length_nil]; omega))) | ((first | refine bkThere (H.bkAt 0 rfl) ?_ | refine bkThere (H.bkAt 1 rfl) ?_ | refine bkThere (H.bkAt 2 rfl) ?_ | refine bkThere (H.bkAt 3 rfl) ?_ | refine bkThere (H.bkAt 4 rfl) ?_ | refine bkThere (H.bkAt 5 rfl) ?_ | refine bkThere (H.bkAt 6 rfl) ?_ | refine bkThere (H.bkAt 7 rfl) ?_); (first | decide | (simp only [List.length_cons, List.length_nil]; omega) | (refine rows_le (f := accRow) (s := 2) (fun _ => rfl) ?_; first | omega | assumption | (simp only [List.length_set, List.length_append, List.length_cons, List.length_nil, List.length_map, List.length_replicate, List.length_drop, List.length_take]; omega)))) | exact ⟨by omega, by omega⟩)) : P := h
theorem tS_Fg {w0 w : World} {S : List Nat} {L L' : Blocks} {b o : Nat} {v : Value} {K : World → Prop} (H : St w0 S w L) (k : ∀ w', St w0 S w' L' → K w') (h : SetG w b o v (fun w' => St w0 S w' L') := by ((first | refine bkSet H 0 rfl (fun w H => ?_) | refine bkSet H 1 rfl (fun w H => ?_) | refine bkSet H 2 rfl (fun w H => ?_) | refine bkSet H 3 rfl (fun w H => ?_) | refine bkSet H 4 rfl (fun w H => ?_) | refine bkSet H 5 rfl (fun w H => ?_) | refine bkSet H 6 rfl (fun w H => ?_) | refine bkSet H 7 rfl (fun w H => ?_)); (try simp only [List.set_cons_succ, List.set_cons_zero, ints_set0, bools_set0, pair_set0, pair_set1] at H); exact H)) : SetG w b o v K := k _ h
theorem tG_Fg {w0 w : World} {S : List Nat} {L L' : Blocks} {b o : Nat} {vs : List Value} {K : World → Prop} (H : St w0 S w L) (k : ∀ w', St w0 S w' L' → K w') (h : SetsG w b o vs (fun w' => St w0 S w' L') := by ((first | refine bkSetsF H 0 rfl rfl (fun w H => ?_) | refine bkSetsF H 1 rfl rfl (fun w H => ?_) | refine bkSetsF H 2 rfl rfl (fun w H => ?_) | refine bkSetsF H 3 rfl rfl (fun w H => ?_) | refine bkSetsF H 4 rfl rfl (fun w H => ?_) | refine bkSetsF H 5 rfl rfl (fun w H => ?_) | refine bkSetsF H 6 rfl rfl (fun w H => ?_) | refine bkSetsF H 7 rfl rfl (fun w H => ?_) | (refine bkSetsP H 0 rfl ?_ (fun w H => ?_); · first | omega | assumption | (simp only [List.length_set, List.length_append, List.length_cons, List.length_nil, List.length_map, List.length_replicate, List.length_drop, List.length_take]; omega)) | (refine bkSetsP H 1 rfl ?_ (fun w H => ?_); · first | omega | assumption | (simp only [List.length_set, List.length_append, List.length_cons, List.length_nil, List.length_map, List.length_replicate, List.length_drop, List.length_take]; omega)) | (refine bkSetsP H 2 rfl ?_ (fun w H => ?_); · first | omega | assumption | (simp only [List.length_set, List.length_append, List.length_cons, List.length_nil, List.length_map, List.length_replicate, List.length_drop, List.length_take]; omega)) | (refine bkSetsP H 3 rfl ?_ (fun w H => ?_); · first | omega | assumption | (simp only [List.length_set, List.length_append, List.length_cons, List.length_nil, List.length_map, List.length_replicate, List.length_drop, List.length_take]; omega)) | (refine bkSetsP H 4 rfl ?_ (fun w H => ?_); · first | omega | assumption | (simp only [List.length_set, List.length_append, List.length_cons, List.length_nil, List.length_map, List.length_replicate, List.length_drop, List.length_take]; omega)) | (refine bkSetsP H 5 rfl ?_ (fun w H => ?_); · first | omega | assumption | (simp only [List.length_set, List.length_append, List.length_cons, List.length_nil, List.length_map, List.length_replicate, List.length_drop, List.length_take]; omega)) | (refine bkSetsP H 6 rfl ?_ (fun w H => ?_); · first | omega | assumption | (simp only [List.length_set, List.length_append, List.length_cons, List.length_nil, List.length_map, List.length_replicate, List.length_drop, List.length_take]; omega)) | (refine bkSetsP H 7 rfl ?_ (fun w H => ?_); · first | omega | assumption | (simp only [List.length_set, List.length_append, List.length_cons, List.length_nil, List.length_map, List.length_replicate, List.length_drop, List.length_take]; omega)) ); (try simp only [List.set_cons_succ, List.set_cons_zero, ints_set0, bools_set0, pair_set0, pair_set1] at H); exact H)) : SetsG w b o vs K := k _ h
theorem slotNew (a : LA) (s : LS) (hs : s.ok a) (hb : s.n ≤ 100000) (p : Option Addr) (xs : List Int) (c : Nat) (m start : Int) (hl : xs.length ≤ 1000000) :
    SpR Tryz.prog 154 #[ptr a.p, .slice p xs.length c, i64 m, u32 start] (fun w S => ROi w S p xs) (planL a s) (fun r A =>
      (¬ slotOk xs m ∧ ∃ e : Int, e ≠ 0 ∧ (¬ newOk xs → e = 1) ∧ (newOk xs → e = 7) ∧ r = .tuple #[.pointer none, i64 e] ∧ ∃ X, A = X ++ planL a s) ∨
      (slotOk xs m ∧ ∃ (l rb : Nat) (sa : SA) (a' : LA) (s' : LS), r = .tuple #[ptr l, i64 0] ∧ Grew a s a' s' (xs.getD 0 0 :: slotH xs m.toNat) (start :: slotW start m m.toNat) ∧
        A = slotN l rb sa xs.length s.n m ++ planL a' s')) := by
  intro w0 S w B hr H
  refine callsSlotsNew _ _ _ _ _ _ _ _ ?_
  unfold preSlotsNew
  refine (seatNew xs.length false false).go H [] (planL a s ++ B) rfl (fun r A w hq H => ?_)
  rcases hq with ⟨hno, rfl, rfl⟩ | ⟨h64, sa, rfl, rfl⟩
  · have hno' : ¬ newOk xs := fun h => hno ⟨by have := h.1.1; omega, by have := h.1.2; omega⟩
    exact ⟨_, _, rfl, Br_ne (by decide) ⟨_, planL a s, rfl, Or.inl ⟨fun h => hno' h.1, 1, by decide, fun _ => rfl, fun h => absurd h hno', rfl, [], rfl⟩, H⟩⟩
  refine ⟨_, _, rfl, Br_nne rfl ?_⟩
  simp only [List.nil_append] at H
  refine (containsFunc p xs c _ _ slotTells hl).go H [] _ rfl (hr.sub H (by simp)) (fun r A w hq H => ?_)
  obtain ⟨rfl, rfl⟩ := hq
  refine ⟨_, rfl, ?_⟩
  simp only [List.nil_append] at H
  by_cases hbad : xs.any badHome = true
  · rw [hbad]
    have hno' : ¬ newOk xs := fun h => absurd (hbad.symm.trans h.2) (by decide)
    exact ⟨_, _, rfl, Or.inl ⟨fun h => hno' h.1, 1, by decide, fun _ => rfl, fun h => absurd h hno', rfl, seatL sa ⟨List.replicate (((xs.length : Nat) : Int)).toNat (0, -1), false, false⟩, rfl⟩, H.to (by simp [seatL])⟩
  rw [Bool.not_eq_true] at hbad
  rw [hbad]
  simp only [Br_false]
  have hgood : newOk xs := ⟨⟨by omega, by omega⟩, hbad⟩
  have hpos : 0 < xs.length := by omega
  simp only [Int.toNat_natCast] at H
  by_cases c2 : m < xs.length
  · exact Br_t c2 ⟨_, _, rfl, Or.inl ⟨fun h => by have := h.2.1; omega, 7, by decide, fun h => absurd hgood h, fun _ => rfl, rfl, seatL sa ⟨List.replicate xs.length (0, -1), false, false⟩, rfl⟩, H.to (by simp [seatL])⟩
  refine Br_f c2 ?_
  refine packSizes.go H [] _ rfl (fun r A w hq H => ?_)
  obtain ⟨bs, all, rfl, ht, hle, rfl⟩ := hq
  refine ⟨_, _, _, rfl, ?_⟩
  simp only [List.cons_append, List.nil_append] at H
  refine (containsInt (some ⟨bs, 0, none⟩) (pows 7) all.length m (by decide)).go H [] _ rfl (RO.own H 0 rfl (by simp) (fun j v hv => ?_)) (fun r A w hq H => ?_)
  · rw [rows_iRow, Nat.zero_add, ← ht] at *
    rw [List.map_take, List.getElem?_take] at hv
    split at hv
    · simpa [ints] using hv
    · cases hv
  obtain ⟨rfl, rfl⟩ := hq
  refine ⟨_, rfl, ?_⟩
  simp only [List.nil_append] at H
  have H := H.tail
  cases hin : (pows 7).any fun x => m == x
  · simp only [Bool.not_false, Br_true]
    exact ⟨_, _, rfl, Or.inl ⟨fun h => by have := h.2.2; rw [hin] at this; exact absurd this (by decide), 7, by decide, fun h => absurd hgood h, fun _ => rfl, rfl, seatL sa ⟨List.replicate xs.length (0, -1), false, false⟩, rfl⟩, H.to (by simp [seatL])⟩
  simp only [Bool.not_true, Br_false]
  have hm : m ≤ 64 := by
    simp [pows, List.range_succ] at hin; omega
  refine ⟨⟨by omega, by omega, by omega, by omega⟩, H.allocK (fun w1 H => H.allocK (fun w2 H => ⟨⟨by omega, by omega⟩, ?_⟩))⟩
  rw [made_slRow] at H
  obtain ⟨b, o, e, hc⟩ := hr.read H hpos
  subst e
  simp only [Int.toNat_natCast] at H
  refine PtrSome_at (exInt hc ?_)
  refine (planWordG a s hs (xs.getD 0 0) start (by omega)).go H (_ :: _ :: seatL sa ⟨List.replicate xs.length (0, -1), false, false⟩) B rfl (fun r A w5 hq H => ?_)
  obtain ⟨rfl, a1, s1, rfl, g1⟩ := hq
  refine ⟨_, rfl, ?_⟩
  simp only [List.cons_append, List.nil_append, List.append_assoc] at H
  generalize hlb : w1.heap.size = lb at H ⊢
  generalize hrb : w.heap.size = rb at H ⊢
  (first | refine PtrSome_at ?_ | refine andOne ?_ | ((first | apply exSlice | apply exInt | apply exBool | apply exPtr | apply exVal | apply andCell | apply andBd | apply andCan | apply andThere); · exact tC_Fg) | (refine toSet ?_; refine tS_Fg H (fun w H => ?_)) | (refine toSets ?_; refine tG_Fg H (fun w H => ?_)) | refine H.drewK (fun w H => ?_) | refine H.allocK (fun w H => ?_))
  (first | refine PtrSome_at ?_ | refine andOne ?_ | ((first | apply exSlice | apply exInt | apply exBool | apply exPtr | apply exVal | apply andCell | apply andBd | apply andCan | apply andThere); · exact tC_Fg) | (refine toSet ?_; refine tS_Fg H (fun w H => ?_)) | (refine toSets ?_; refine tG_Fg H (fun w H => ?_)) | refine H.drewK (fun w H => ?_) | refine H.allocK (fun w H => ?_))
  refine ⟨fun i w' => (0 ≤ i ∧ i ≤ m) ∧ ∃ a' s', Grew a s a' s' (xs.getD 0 0 :: slotH xs i.toNat) (start :: slotW start m i.toNat) ∧ St w0 S w' (slotN lb rb sa xs.length s.n m ++ (planL a' s' ++ B)),
    fun i _ => (m - i).toNat, ⟨⟨by omega, by omega⟩, a1, s1, by simpa [slotH, slotW] using g1, H.to (by simp [slotN])⟩, ?_⟩
  rintro _g w i ⟨⟨h0, h1⟩, a', s', g, H⟩
  by_cases c1 : i < m
  · refine Br_t c1 ?_
    refine (packSlotC start m []).go H [] _ rfl (fun w H => ⟨_, rfl, ?_⟩)
    simp only [List.nil_append] at H
    have gn := g.n
    simp only [List.length_cons, slotH, List.length_map, List.length_range] at gn
    have hmod : (Int.tmod i xs.length).toNat = i.toNat % xs.length := by
      obtain ⟨k, rfl⟩ := Int.eq_ofNat_of_zero_le h0
      rfl
    have hm0 : 0 ≤ Int.tmod i xs.length := Int.tmod_nonneg _ h0
    have hmlt : i.toNat % xs.length < xs.length := Nat.mod_lt _ hpos
    obtain ⟨b, o, e, hc⟩ := hr.read H (j := i.toNat % xs.length) hmlt
    cases e
    rw [hmod]
    have fin : ∀ (v : Int), v = (if i = packSlot start m then 1 else 0) → ∀ (a3 : LA) (s3 : LS), Grew a' s' a3 s3 [xs.getD (i.toNat % xs.length) 0] [v] →
        Grew a s a3 s3 (xs.getD 0 0 :: slotH xs (i + 1).toNat) (start :: slotW start m (i + 1).toNat) := by
      intro v hv a3 s3 g3
      have g4 := g.trans g3
      rw [show (i + 1).toNat = i.toNat + 1 by omega, slotH_succ, slotW_succ, Int.toNat_of_nonneg h0, ← hv]
      simpa using g4
    refine Br_split (fun h => ?_) (fun h => ?_)
    · have h' : i = packSlot start m := by simpa using h
      refine ⟨by omega, ⟨hm0, by omega⟩, PtrSome_at (exInt hc ?_)⟩
      rw [← g.p]
      refine (planWordG a' s' g.ok (xs.getD (i.toNat % xs.length) 0) 1 (by omega)).go H (slotN lb rb sa xs.length s.n m) B rfl (fun r A w7 hq H => ?_)
      obtain ⟨rfl, a3, s3, rfl, g3⟩ := hq
      refine ⟨_, rfl, ?_⟩
      rw [wrap_succ h0 (by omega)]
      exact ⟨⟨⟨by omega, by omega⟩, a3, s3, fin 1 (by rw [if_pos h']) a3 s3 g3, H⟩, show (m - (i + 1)).toNat < (m - i).toNat by omega⟩
    · have h' : ¬ i = packSlot start m := by simpa using h
      refine ⟨by omega, ⟨hm0, by omega⟩, PtrSome_at (exInt hc ?_)⟩
      rw [← g.p]
      refine (planWordG a' s' g.ok (xs.getD (i.toNat % xs.length) 0) 0 (by omega)).go H (slotN lb rb sa xs.length s.n m) B rfl (fun r A w7 hq H => ?_)
      obtain ⟨rfl, a3, s3, rfl, g3⟩ := hq
      refine ⟨_, rfl, ?_⟩
      rw [wrap_succ h0 (by omega)]
      exact ⟨⟨⟨by omega, by omega⟩, a3, s3, fin 0 (by rw [if_neg h']) a3 s3 g3, H⟩, show (m - (i + 1)).toNat < (m - i).toNat by omega⟩
  · have e : i = m := by omega
    subst e
    exact Br_f c1 ⟨_, _, rfl, Or.inr ⟨⟨hgood, by omega, hin⟩, lb, rb, sa, a', s', rfl, g, rfl⟩, H.to (by simp)⟩
end Go.Proofs.YtollfjfcdofbaaaGreat
