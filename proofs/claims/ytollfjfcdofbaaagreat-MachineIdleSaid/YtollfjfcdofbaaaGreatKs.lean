/- Contracts: the seats of a lock. -/
import Derived.Test.YtollfjfcdofbaaaGreatKq
namespace Go.Proofs.YtollfjfcdofbaaaGreat
open Go Go.Proofs
set_option linter.unusedSimpArgs false
set_option linter.unusedVariables false
set_option maxRecDepth 100000
set_option maxHeartbeats 4000000
-- NB 3
-- NORM seatL

structure SA where
  s : Nat
  r : Nat
structure SS where
  l : List (Int × Int)
  timed : Bool
  probed : Bool
def seatL (a : SA) (s : SS) : Blocks := [(a.s, [slv a.r s.l.length, .bool s.timed, .bool s.probed]), (a.r, rows accRow s.l)]
namespace SS
def there (s : SS) (t : Int) : Bool := decide (0 ≤ t ∧ t < s.l.length)
def at_ (s : SS) (t : Int) : Int × Int := s.l.getD t.toNat default
def state (s : SS) (t : Int) : Int := if s.there t = true then (s.at_ t).1 else 0
def deadline (s : SS) (t : Int) : Int := if s.there t = true then (s.at_ t).2 else -1
def put (s : SS) (t : Int) (x : Int × Int) : SS := { s with l := s.l.set t.toNat x }
def lockE (s : SS) (t d : Int) : Int :=
  if s.there t = true then (if d < -1 then 1 else if 0 ≤ d ∧ s.timed = false then 1 else if (s.at_ t).1 = 0 then 0 else 2) else 1
def lock (s : SS) (t d : Int) : SS := if s.lockE t d = 0 then s.put t (1, d) else s
def holds (s : SS) (t : Int) : Int := if s.there t = true then (if (s.at_ t).1 = 0 then 3 else if (s.at_ t).1 = 2 then 0 else 2) else 1
def unlock (s : SS) (t : Int) : SS := if s.holds t = 0 then s.put t (3, (s.at_ t).2) else s
def probeE (s : SS) (t : Int) : Int := if s.probed = true then s.holds t else 1
def probe (s : SS) (t : Int) : SS := if s.probeE t = 0 then s.put t (4, (s.at_ t).2) else s
def next (st ev : Int) : Int :=
  if st = 1 ∧ ev = 1 then 2 else if st = 1 ∧ (ev = 2 ∨ ev = 6) then 0 else if st = 3 ∧ ev = 3 then 0 else if st = 4 ∧ (ev = 4 ∨ ev = 5) then 2 else -1
def endB (s : SS) (t ev : Int) : Bool := decide (0 ≤ next (s.state t) ev)
def end_ (s : SS) (t ev : Int) : SS := if s.endB t ev = true then s.put t (next (s.state t) ev, -1) else s
end SS
@[simp] theorem end_len (s : SS) (t ev : Int) : (s.end_ t ev).l.length = s.l.length := by unfold SS.end_; split <;> simp [SS.put]
@[simp] theorem lock_len (s : SS) (t d : Int) : (s.lock t d).l.length = s.l.length := by unfold SS.lock; split <;> simp [SS.put]
@[simp] theorem unlock_len (s : SS) (t : Int) : (s.unlock t).l.length = s.l.length := by unfold SS.unlock; split <;> simp [SS.put]
@[simp] theorem probe_len (s : SS) (t : Int) : (s.probe t).l.length = s.l.length := by unfold SS.probe; split <;> simp [SS.put]
theorem seat_there {s : SS} {t : Int} (h : s.there t = true) : 0 ≤ t ∧ t < s.l.length := by simpa [SS.there] using h
theorem tC_Ks {P : Prop} (h : P := by (first | ((first | refine bkCell (H.bkAt 0 rfl) ?_ | refine bkCell (H.bkAt 1 rfl) ?_ | refine bkCell (H.bkAt 2 rfl) ?_); (first | rfl | ((first | refine ints_at0 ?_ | refine bools_at0 ?_ | refine rows_at1 (f := accRow) (s := 2) (fun _ => rfl) (by decide) ?_ rfl | refine rows_at0 (f := accRow) (s := 2) (fun _ => rfl) (by decide) ?_ rfl); first | omega | assumption | (simp only [List.length_set, List.length_append, List.length_cons, List.length_nil, List.length_map, List.length_replicate, List.length_drop, List.length_take]; omega)))) | ((first | refine bkCan (H.bkAt 0 rfl) ?_ | refine bkCan (H.bkAt 1 rfl) ?_ | refine bkCan (H.bkAt 2 rfl) ?_); (first | decide | ((first | refine ints_lt ?_ | refine bools_lt ?_ | refine rows_lt1 (f := accRow) (s := 2) (fun _ => rfl) (by decide) ?_ | refine rows_lt0 (f := accRow) (s := 2) (fun _ => rfl) (by decide) ?_); first | omega | assumption | (simp only [List.length_set, List.length_append, List.length_cons, List.length_nil, List.length_map, List.length_replicate, List.length_drop, List.length_take]; omega)) | (simp only [List.length_cons, List.length_nil]; omega))) | ((first | refine bkThere (H.bkAt 0 rfl) ?_ | refine bkThere (H.bkAt 1 rfl) ?_ | refine bkThere (H.bkAt 2 rfl) ?_); (first | decide | (simp only [List.length_cons, List.length_nil]; omega) | (refine rows_le (f := accRow) (s := 2) (fun _ => rfl) ?_; first | omega | assumption | (simp only [List.length_set, List.length_append, List.length_cons, List.length_nil, List.length_map, List.length_replicate, List.length_drop, List.length_take]; omega)))) | exact ⟨by omega, by omega⟩)) : P := h
theorem tS_Ks {w0 w : World} {S : List Nat} {L L' : Blocks} {b o : Nat} {v : Value} {K : World → Prop} (H : St w0 S w L) (k : ∀ w', St w0 S w' L' → K w') (h : SetG w b o v (fun w' => St w0 S w' L') := by ((first | refine bkSet H 0 rfl (fun w H => ?_) | refine bkSet H 1 rfl (fun w H => ?_) | refine bkSet H 2 rfl (fun w H => ?_)); (try simp only [List.set_cons_succ, List.set_cons_zero, ints_set0, bools_set0, pair_set0, pair_set1] at H); exact H)) : SetG w b o v K := k _ h
theorem tG_Ks {w0 w : World} {S : List Nat} {L L' : Blocks} {b o : Nat} {vs : List Value} {K : World → Prop} (H : St w0 S w L) (k : ∀ w', St w0 S w' L' → K w') (h : SetsG w b o vs (fun w' => St w0 S w' L') := by ((first | refine bkSetsF H 0 rfl rfl (fun w H => ?_) | refine bkSetsF H 1 rfl rfl (fun w H => ?_) | refine bkSetsF H 2 rfl rfl (fun w H => ?_) | (refine bkSetsP H 0 rfl ?_ (fun w H => ?_); · first | omega | assumption | (simp only [List.length_set, List.length_append, List.length_cons, List.length_nil, List.length_map, List.length_replicate, List.length_drop, List.length_take]; omega)) | (refine bkSetsP H 1 rfl ?_ (fun w H => ?_); · first | omega | assumption | (simp only [List.length_set, List.length_append, List.length_cons, List.length_nil, List.length_map, List.length_replicate, List.length_drop, List.length_take]; omega)) | (refine bkSetsP H 2 rfl ?_ (fun w H => ?_); · first | omega | assumption | (simp only [List.length_set, List.length_append, List.length_cons, List.length_nil, List.length_map, List.length_replicate, List.length_drop, List.length_take]; omega)) ); (try simp only [List.set_cons_succ, List.set_cons_zero, ints_set0, bools_set0, pair_set0, pair_set1] at H); exact H)) : SetsG w b o vs K := k _ h
theorem seatThere (a : SA) (s : SS) (t : Int) : Sp Tryz.prog 137 #[ptr a.s, i64 t] (seatL a s) (.bool (s.there t)) (seatL a s) := by
  intro w0 S w B H
  (try simp only [List.cons_append, List.nil_append, List.append_assoc, seatL] at H ⊢)
  refine callsSeatSeats_there _ _ _ _ ?_
  unfold preSeatSeats_there
  (repeat' (first | (first | refine PtrSome_at ?_ | refine andOne ?_ | ((first | apply exSlice | apply exInt | apply exBool | apply exPtr | apply exVal | apply andCell | apply andBd | apply andCan | apply andThere); · exact tC_Ks) | (refine toSet ?_; refine tS_Ks H (fun w H => ?_)) | (refine toSets ?_; refine tG_Ks H (fun w H => ?_)) | refine H.drewK (fun w H => ?_) | refine H.allocK (fun w H => ?_)) | (refine Br_split (fun h => ?_) (fun h => ?_) <;> (try simp only [decide_eq_true_eq, decide_eq_false_iff_not, Bool.not_eq_true', Bool.not_eq_false', bne_iff_ne, beq_iff_eq, bne_eq_false_iff_eq, beq_eq_false_iff_ne, Bool.not_eq_true, Bool.not_eq_false] at h))))
  all_goals refine ⟨?_, H⟩
  all_goals simp [SS.there, *]
theorem seatLen (a : SA) (s : SS) : Sp Tryz.prog 30 #[ptr a.s] (seatL a s) (i64 s.l.length) (seatL a s) := by
  intro w0 S w B H
  (try simp only [List.cons_append, List.nil_append, List.append_assoc, seatL] at H ⊢)
  refine callsSeatSeatsLen _ _ _ ?_
  unfold preSeatSeatsLen
  (repeat' (first | (first | refine PtrSome_at ?_ | refine andOne ?_ | ((first | apply exSlice | apply exInt | apply exBool | apply exPtr | apply exVal | apply andCell | apply andBd | apply andCan | apply andThere); · exact tC_Ks) | (refine toSet ?_; refine tS_Ks H (fun w H => ?_)) | (refine toSets ?_; refine tG_Ks H (fun w H => ?_)) | refine H.drewK (fun w H => ?_) | refine H.allocK (fun w H => ?_)) | (refine Br_split (fun h => ?_) (fun h => ?_) <;> (try simp only [decide_eq_true_eq, decide_eq_false_iff_not, Bool.not_eq_true', Bool.not_eq_false', bne_iff_ne, beq_iff_eq, bne_eq_false_iff_eq, beq_eq_false_iff_ne, Bool.not_eq_true, Bool.not_eq_false] at h))))
  exact ⟨rfl, H⟩
theorem seatState (a : SA) (s : SS) (t : Int) : Sp Tryz.prog 138 #[ptr a.s, i64 t] (seatL a s) (i64 (s.state t)) (seatL a s) := by
  intro w0 S w B H
  refine callsSeatSeatsState _ _ _ _ ((seatThere a s t).go H [] B rfl (fun w H => ⟨_, rfl, ?_⟩))
  (try simp only [List.cons_append, List.nil_append, List.append_assoc, seatL] at H ⊢)
  unfold SS.state
  cases h : s.there t
  · exact ⟨rfl, H⟩
  · obtain ⟨h1, h2⟩ := seat_there h
    simp only [Bool.not_true, Br_false, if_true]
    (repeat' (first | (first | refine PtrSome_at ?_ | refine andOne ?_ | ((first | apply exSlice | apply exInt | apply exBool | apply exPtr | apply exVal | apply andCell | apply andBd | apply andCan | apply andThere); · exact tC_Ks) | (refine toSet ?_; refine tS_Ks H (fun w H => ?_)) | (refine toSets ?_; refine tG_Ks H (fun w H => ?_)) | refine H.drewK (fun w H => ?_) | refine H.allocK (fun w H => ?_)) | (refine Br_split (fun h => ?_) (fun h => ?_) <;> (try simp only [decide_eq_true_eq, decide_eq_false_iff_not, Bool.not_eq_true', Bool.not_eq_false', bne_iff_ne, beq_iff_eq, bne_eq_false_iff_eq, beq_eq_false_iff_ne, Bool.not_eq_true, Bool.not_eq_false] at h))))
    exact ⟨rfl, H⟩
theorem seatDeadline (a : SA) (s : SS) (t : Int) : Sp Tryz.prog 318 #[ptr a.s, i64 t] (seatL a s) (i64 (s.deadline t)) (seatL a s) := by
  intro w0 S w B H
  refine callsSeatSeatsDeadline _ _ _ _ ((seatThere a s t).go H [] B rfl (fun w H => ⟨_, rfl, ?_⟩))
  (try simp only [List.cons_append, List.nil_append, List.append_assoc, seatL] at H ⊢)
  unfold SS.deadline
  cases h : s.there t
  · exact ⟨rfl, H⟩
  · obtain ⟨h1, h2⟩ := seat_there h
    simp only [Bool.not_true, Br_false, if_true]
    (repeat' (first | (first | refine PtrSome_at ?_ | refine andOne ?_ | ((first | apply exSlice | apply exInt | apply exBool | apply exPtr | apply exVal | apply andCell | apply andBd | apply andCan | apply andThere); · exact tC_Ks) | (refine toSet ?_; refine tS_Ks H (fun w H => ?_)) | (refine toSets ?_; refine tG_Ks H (fun w H => ?_)) | refine H.drewK (fun w H => ?_) | refine H.allocK (fun w H => ?_)) | (refine Br_split (fun h => ?_) (fun h => ?_) <;> (try simp only [decide_eq_true_eq, decide_eq_false_iff_not, Bool.not_eq_true', Bool.not_eq_false', bne_iff_ne, beq_iff_eq, bne_eq_false_iff_eq, beq_eq_false_iff_ne, Bool.not_eq_true, Bool.not_eq_false] at h))))
    exact ⟨rfl, H⟩
theorem seatLock (a : SA) (s : SS) (t d : Int) : Sp Tryz.prog 84 #[ptr a.s, i64 t, i64 d] (seatL a s) (i64 (s.lockE t d)) (seatL a (s.lock t d)) := by
  intro w0 S w B H
  refine callsSeatSeatsLock _ _ _ _ _ ((seatThere a s t).go H [] B rfl (fun w H => ⟨_, rfl, ?_⟩))
  (try simp only [List.cons_append, List.nil_append, List.append_assoc, seatL] at H ⊢)
  unfold SS.lock SS.lockE
  cases h : s.there t
  · simp only [Bool.not_false, Br_true, Bool.false_eq_true, if_false]
    exact ⟨by trivial, H⟩
  · obtain ⟨h1, h2⟩ := seat_there h
    simp only [Bool.not_true, Br_false, if_true]
    have e0 : (s.l.getD t.toNat default) = s.at_ t := rfl
    by_cases c1 : d < -1
    · simp only [c1, if_true]
      (repeat' (first | (first | refine PtrSome_at ?_ | refine andOne ?_ | ((first | apply exSlice | apply exInt | apply exBool | apply exPtr | apply exVal | apply andCell | apply andBd | apply andCan | apply andThere); · exact tC_Ks) | (refine toSet ?_; refine tS_Ks H (fun w H => ?_)) | (refine toSets ?_; refine tG_Ks H (fun w H => ?_)) | refine H.drewK (fun w H => ?_) | refine H.allocK (fun w H => ?_)) | (refine Br_split (fun h => ?_) (fun h => ?_) <;> (try simp only [decide_eq_true_eq, decide_eq_false_iff_not, Bool.not_eq_true', Bool.not_eq_false', bne_iff_ne, beq_iff_eq, bne_eq_false_iff_eq, beq_eq_false_iff_ne, Bool.not_eq_true, Bool.not_eq_false] at h))))
      all_goals first | exact ⟨by trivial, H⟩ | (exfalso; omega) | (exfalso; simp_all; done)
    · by_cases c2 : 0 ≤ d ∧ s.timed = false
      · simp only [c1, c2, if_true, if_false]
        (repeat' (first | (first | refine PtrSome_at ?_ | refine andOne ?_ | ((first | apply exSlice | apply exInt | apply exBool | apply exPtr | apply exVal | apply andCell | apply andBd | apply andCan | apply andThere); · exact tC_Ks) | (refine toSet ?_; refine tS_Ks H (fun w H => ?_)) | (refine toSets ?_; refine tG_Ks H (fun w H => ?_)) | refine H.drewK (fun w H => ?_) | refine H.allocK (fun w H => ?_)) | (refine Br_split (fun h => ?_) (fun h => ?_) <;> (try simp only [decide_eq_true_eq, decide_eq_false_iff_not, Bool.not_eq_true', Bool.not_eq_false', bne_iff_ne, beq_iff_eq, bne_eq_false_iff_eq, beq_eq_false_iff_ne, Bool.not_eq_true, Bool.not_eq_false] at h))))
        all_goals first | exact ⟨by trivial, H⟩ | (exfalso; omega) | (exfalso; simp_all; done)
      · by_cases c3 : (s.at_ t).1 = 0
        · simp only [c1, c2, c3, if_true, if_false]
          (repeat' (first | (first | refine PtrSome_at ?_ | refine andOne ?_ | ((first | apply exSlice | apply exInt | apply exBool | apply exPtr | apply exVal | apply andCell | apply andBd | apply andCan | apply andThere); · exact tC_Ks) | (refine toSet ?_; refine tS_Ks H (fun w H => ?_)) | (refine toSets ?_; refine tG_Ks H (fun w H => ?_)) | refine H.drewK (fun w H => ?_) | refine H.allocK (fun w H => ?_)) | (refine Br_split (fun h => ?_) (fun h => ?_) <;> (try simp only [decide_eq_true_eq, decide_eq_false_iff_not, Bool.not_eq_true', Bool.not_eq_false', bne_iff_ne, beq_iff_eq, bne_eq_false_iff_eq, beq_eq_false_iff_ne, Bool.not_eq_true, Bool.not_eq_false] at h))))
          all_goals first | (exfalso; omega) | (exfalso; simp_all; done) | exact ⟨by trivial, H.to (by simp [seatL, SS.put])⟩
        · simp only [c1, c2, c3, if_true, if_false]
          (repeat' (first | (first | refine PtrSome_at ?_ | refine andOne ?_ | ((first | apply exSlice | apply exInt | apply exBool | apply exPtr | apply exVal | apply andCell | apply andBd | apply andCan | apply andThere); · exact tC_Ks) | (refine toSet ?_; refine tS_Ks H (fun w H => ?_)) | (refine toSets ?_; refine tG_Ks H (fun w H => ?_)) | refine H.drewK (fun w H => ?_) | refine H.allocK (fun w H => ?_)) | (refine Br_split (fun h => ?_) (fun h => ?_) <;> (try simp only [decide_eq_true_eq, decide_eq_false_iff_not, Bool.not_eq_true', Bool.not_eq_false', bne_iff_ne, beq_iff_eq, bne_eq_false_iff_eq, beq_eq_false_iff_ne, Bool.not_eq_true, Bool.not_eq_false] at h))))
          all_goals first | exact ⟨by trivial, H⟩ | (exfalso; omega) | (exfalso; simp_all; done)
theorem seatHolds (a : SA) (s : SS) (t : Int) : Sp Tryz.prog 277 #[ptr a.s, i64 t] (seatL a s) (i64 (s.holds t)) (seatL a s) := by
  intro w0 S w B H
  refine callsSeatSeats_holds _ _ _ _ ((seatThere a s t).go H [] B rfl (fun w H => ⟨_, rfl, ?_⟩))
  (try simp only [List.cons_append, List.nil_append, List.append_assoc, seatL] at H ⊢)
  unfold SS.holds
  cases h : s.there t
  · exact ⟨rfl, H⟩
  · obtain ⟨h1, h2⟩ := seat_there h
    simp only [Bool.not_true, Br_false, if_true]
    (repeat' (first | (first | refine PtrSome_at ?_ | refine andOne ?_ | ((first | apply exSlice | apply exInt | apply exBool | apply exPtr | apply exVal | apply andCell | apply andBd | apply andCan | apply andThere); · exact tC_Ks) | (refine toSet ?_; refine tS_Ks H (fun w H => ?_)) | (refine toSets ?_; refine tG_Ks H (fun w H => ?_)) | refine H.drewK (fun w H => ?_) | refine H.allocK (fun w H => ?_)) | (refine Br_split (fun h => ?_) (fun h => ?_) <;> (try simp only [decide_eq_true_eq, decide_eq_false_iff_not, Bool.not_eq_true', Bool.not_eq_false', bne_iff_ne, beq_iff_eq, bne_eq_false_iff_eq, beq_eq_false_iff_ne, Bool.not_eq_true, Bool.not_eq_false] at h))))
    all_goals refine ⟨?_, H⟩
    all_goals simp_all [SS.at_]
theorem seatUnlock (a : SA) (s : SS) (t : Int) : Sp Tryz.prog 276 #[ptr a.s, i64 t] (seatL a s) (i64 (s.holds t)) (seatL a (s.unlock t)) := by
  intro w0 S w B H
  refine callsSeatSeatsUnlock _ _ _ _ ((seatHolds a s t).go H [] B rfl (fun w H => ⟨_, rfl, ?_⟩))
  (try simp only [List.cons_append, List.nil_append, List.append_assoc, seatL] at H ⊢)
  unfold SS.unlock
  refine Br_split (fun h => ?_) (fun h => ⟨by trivial, ?_⟩)
  · have h0 : s.holds t = 0 := by simpa using h
    have ht : s.there t = true := by
      unfold SS.holds at h0; split at h0
      · assumption
      · simp at h0
    obtain ⟨h1, h2⟩ := seat_there ht
    (repeat' (first | (first | refine PtrSome_at ?_ | refine andOne ?_ | ((first | apply exSlice | apply exInt | apply exBool | apply exPtr | apply exVal | apply andCell | apply andBd | apply andCan | apply andThere); · exact tC_Ks) | (refine toSet ?_; refine tS_Ks H (fun w H => ?_)) | (refine toSets ?_; refine tG_Ks H (fun w H => ?_)) | refine H.drewK (fun w H => ?_) | refine H.allocK (fun w H => ?_)) | (refine Br_split (fun h => ?_) (fun h => ?_) <;> (try simp only [decide_eq_true_eq, decide_eq_false_iff_not, Bool.not_eq_true', Bool.not_eq_false', bne_iff_ne, beq_iff_eq, bne_eq_false_iff_eq, beq_eq_false_iff_ne, Bool.not_eq_true, Bool.not_eq_false] at h))))
    refine ⟨by trivial, H.to ?_⟩
    simp [SS.put, h0, SS.at_]
  · have h0 : ¬ s.holds t = 0 := by simpa using h
    rw [if_neg h0]; exact H
theorem seatProbe (a : SA) (s : SS) (t : Int) : Sp Tryz.prog 275 #[ptr a.s, i64 t] (seatL a s) (i64 (s.probeE t)) (seatL a (s.probe t)) := by
  intro w0 S w B H
  (try simp only [List.cons_append, List.nil_append, List.append_assoc, seatL] at H ⊢)
  refine callsSeatSeatsProbe _ _ _ _ ?_
  unfold preSeatSeatsProbe
  (first | refine PtrSome_at ?_ | refine andOne ?_ | ((first | apply exSlice | apply exInt | apply exBool | apply exPtr | apply exVal | apply andCell | apply andBd | apply andCan | apply andThere); · exact tC_Ks) | (refine toSet ?_; refine tS_Ks H (fun w H => ?_)) | (refine toSets ?_; refine tG_Ks H (fun w H => ?_)) | refine H.drewK (fun w H => ?_) | refine H.allocK (fun w H => ?_))
  unfold SS.probe SS.probeE
  cases hp : s.probed
  · exact ⟨by trivial, H.to (by simp [hp])⟩
  · simp only [Bool.not_true, Br_false, if_true]
    refine (seatHolds a s t).go (H.to (by simp [seatL, hp])) [] B rfl (fun w H => ⟨_, rfl, ?_⟩)
    (try simp only [List.cons_append, List.nil_append, List.append_assoc, seatL] at H ⊢)
    refine Br_split (fun h => ?_) (fun h => ⟨by trivial, ?_⟩)
    · have h0 : s.holds t = 0 := by simpa using h
      have ht : s.there t = true := by
        unfold SS.holds at h0; split at h0
        · assumption
        · simp at h0
      obtain ⟨h1, h2⟩ := seat_there ht
      (repeat' (first | (first | refine PtrSome_at ?_ | refine andOne ?_ | ((first | apply exSlice | apply exInt | apply exBool | apply exPtr | apply exVal | apply andCell | apply andBd | apply andCan | apply andThere); · exact tC_Ks) | (refine toSet ?_; refine tS_Ks H (fun w H => ?_)) | (refine toSets ?_; refine tG_Ks H (fun w H => ?_)) | refine H.drewK (fun w H => ?_) | refine H.allocK (fun w H => ?_)) | (refine Br_split (fun h => ?_) (fun h => ?_) <;> (try simp only [decide_eq_true_eq, decide_eq_false_iff_not, Bool.not_eq_true', Bool.not_eq_false', bne_iff_ne, beq_iff_eq, bne_eq_false_iff_eq, beq_eq_false_iff_ne, Bool.not_eq_true, Bool.not_eq_false] at h))))
      refine ⟨by trivial, H.to ?_⟩
      simp [SS.put, h0, SS.at_, hp]
    · have h0 : ¬ s.holds t = 0 := by simpa using h
      rw [if_neg h0]; exact H.to (by simp [hp])
theorem seatNext (st ev : Int) (A : Blocks) : Sp Tryz.prog 179 #[i64 st, i64 ev] A (i64 (SS.next st ev)) A := by
  intro w0 S w B H
  refine callsSeatNext _ _ _ _ ?_
  unfold preSeatNext
  unfold SS.next
  (repeat' (first | (first | refine PtrSome_at ?_ | refine andOne ?_ | ((first | apply exSlice | apply exInt | apply exBool | apply exPtr | apply exVal | apply andCell | apply andBd | apply andCan | apply andThere); · exact tC_Ks) | (refine toSet ?_; refine tS_Ks H (fun w H => ?_)) | (refine toSets ?_; refine tG_Ks H (fun w H => ?_)) | refine H.drewK (fun w H => ?_) | refine H.allocK (fun w H => ?_)) | (refine Br_split (fun h => ?_) (fun h => ?_) <;> (try simp only [decide_eq_true_eq, decide_eq_false_iff_not, Bool.not_eq_true', Bool.not_eq_false', bne_iff_ne, beq_iff_eq, bne_eq_false_iff_eq, beq_eq_false_iff_ne, Bool.not_eq_true, Bool.not_eq_false] at h))))
  all_goals refine ⟨?_, H⟩
  all_goals simp_all
theorem seatEnd (a : SA) (s : SS) (t ev : Int) : Sp Tryz.prog 140 #[ptr a.s, i64 t, i64 ev] (seatL a s) (.bool (s.endB t ev)) (seatL a (s.end_ t ev)) := by
  intro w0 S w B H
  refine callsSeatSeatsEnd _ _ _ _ _ ((seatState a s t).go H [] B rfl (fun w H => ⟨_, rfl, ?_⟩))
  refine (seatNext (s.state t) ev []).go H [] _ rfl (fun w H => ⟨_, rfl, ?_⟩)
  (try simp only [List.cons_append, List.nil_append, List.append_assoc, seatL] at H ⊢)
  unfold SS.end_ SS.endB
  refine Br_split (fun h => ⟨?_, H.to ?_⟩) (fun h => ?_)
  · have h0 : ¬ 0 ≤ SS.next (s.state t) ev := by simp at h; omega
    simp [h0]
  · have h0 : ¬ 0 ≤ SS.next (s.state t) ev := by simp at h; omega
    simp [h0]
  · have h0 : 0 ≤ SS.next (s.state t) ev := by simp at h; omega
    have ht : s.there t = true := by
      cases h3 : s.there t
      · simp [SS.state, h3, SS.next] at h0
      · rfl
    obtain ⟨h1, h2⟩ := seat_there ht
    (repeat' (first | (first | refine PtrSome_at ?_ | refine andOne ?_ | ((first | apply exSlice | apply exInt | apply exBool | apply exPtr | apply exVal | apply andCell | apply andBd | apply andCan | apply andThere); · exact tC_Ks) | (refine toSet ?_; refine tS_Ks H (fun w H => ?_)) | (refine toSets ?_; refine tG_Ks H (fun w H => ?_)) | refine H.drewK (fun w H => ?_) | refine H.allocK (fun w H => ?_)) | (refine Br_split (fun h => ?_) (fun h => ?_) <;> (try simp only [decide_eq_true_eq, decide_eq_false_iff_not, Bool.not_eq_true', Bool.not_eq_false', bne_iff_ne, beq_iff_eq, bne_eq_false_iff_eq, beq_eq_false_iff_ne, Bool.not_eq_true, Bool.not_eq_false] at h))))
    refine ⟨?_, H.to ?_⟩
    · simp [h0]
    · simp [h0, SS.put]
end Go.Proofs.YtollfjfcdofbaaaGreat
