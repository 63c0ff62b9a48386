/- Contracts: the ticket lock. -/
import Derived.Test.YtollfjfcdofbaaaGreatKs
import Derived.Test.YtollfjfcdofbaaaGreatSymB
namespace Go.Proofs.YtollfjfcdofbaaaGreat
open Go Go.Proofs
set_option linter.unusedSimpArgs false
set_option linter.unusedVariables false
set_option maxRecDepth 100000
set_option maxHeartbeats 4000000
-- NB 5
-- NORM flatL
-- XS seatL _ _; portL _ _

structure FA where
  l : Nat
  nb : Nat
  db : Nat
  sa : SA
  pa : PA
structure FS where
  ss : SS
  next : Int
  owner : Int
  numbers : List Int
  drew : List Bool
def flatL (a : FA) (s : FS) : Blocks := (a.l, [ptr a.sa.s, ptr a.pa.p, i64 s.next, i64 s.owner, slv a.nb s.ss.l.length, slv a.db s.ss.l.length]) :: (a.nb, ints .u32 s.numbers) :: (a.db, bools s.drew) :: seatL a.sa s.ss
structure FS.wf (s : FS) : Prop where
  numbers : s.numbers.length = s.ss.l.length
  drew : s.drew.length = s.ss.l.length
namespace FS
def num (s : FS) (t : Int) : Int := s.numbers.getD t.toNat 0
def lockD (s : FS) (p : PS) (t u : Int) : Dd := if s.drew.getD t.toNat false = false then { ev := 0, enq := true } else if p.loadV u s.owner = s.num t then { ev := 1 } else { ev := 0 }
def lockS (s : FS) (p : PS) (t u : Int) : FS := if s.drew.getD t.toNat false = false then { s with numbers := s.numbers.set t.toNat (p.addV u s.next 1), drew := s.drew.set t.toNat true } else s
def lockP (s : FS) (p : PS) (t u : Int) : PS := if s.drew.getD t.toNat false = false then p.add u s.next 1 else p.load u s.owner
def stepE (s : FS) (p : PS) (t u : Int) : Dd :=
  if s.ss.state t = 1 then s.lockD p t u
  else if s.ss.state t = 3 then { ev := 3 }
  else if s.ss.state t = 4 then (if p.loadV u s.next = IntKind.u32.wrap (s.num t + 1) then { ev := 4 } else { ev := 5 })
  else { ev := 0 }
def stepI (s : FS) (p : PS) (t u : Int) : FS :=
  if s.ss.state t = 1 then s.lockS p t u
  else if s.ss.state t = 3 then { s with drew := s.drew.set t.toNat false }
  else s
def stepS (s : FS) (p : PS) (t u : Int) : FS := { s.stepI p t u with ss := (s.stepI p t u).ss.end_ t (s.stepE p t u).ev }
def stepP (s : FS) (p : PS) (t u : Int) : PS :=
  if s.ss.state t = 1 then s.lockP p t u
  else if s.ss.state t = 3 then p.store u s.owner (IntKind.u32.wrap (s.num t + 1))
  else if s.ss.state t = 4 then p.load u s.next
  else p
end FS
theorem state_there {s : SS} {t n : Int} (h : s.state t = n) (hn : n ≠ 0) : s.there t = true := by
  unfold SS.state at h
  split at h
  · assumption
  · exact absurd h.symm hn
theorem tC_Kf {P : Prop} (h : P := by (first | ((first | refine bkCell (H.bkAt 0 rfl) ?_ | refine bkCell (H.bkAt 1 rfl) ?_ | refine bkCell (H.bkAt 2 rfl) ?_ | refine bkCell (H.bkAt 3 rfl) ?_ | refine bkCell (H.bkAt 4 rfl) ?_); (first | rfl | ((first | refine ints_at0 ?_ | refine bools_at0 ?_ | refine rows_at1 (f := accRow) (s := 2) (fun _ => rfl) (by decide) ?_ rfl | refine rows_at0 (f := accRow) (s := 2) (fun _ => rfl) (by decide) ?_ rfl); first | omega | assumption | (simp only [List.length_set, List.length_append, List.length_cons, List.length_nil, List.length_map, List.length_replicate, List.length_drop, List.length_take]; omega)))) | ((first | refine bkCan (H.bkAt 0 rfl) ?_ | refine bkCan (H.bkAt 1 rfl) ?_ | refine bkCan (H.bkAt 2 rfl) ?_ | refine bkCan (H.bkAt 3 rfl) ?_ | refine bkCan (H.bkAt 4 rfl) ?_); (first | decide | ((first | refine ints_lt ?_ | refine bools_lt ?_ | refine rows_lt1 (f := accRow) (s := 2) (fun _ => rfl) (by decide) ?_ | refine rows_lt0 (f := accRow) (s := 2) (fun _ => rfl) (by decide) ?_); first | omega | assumption | (simp only [List.length_set, List.length_append, List.length_cons, List.length_nil, List.length_map, List.length_replicate, List.length_drop, List.length_take]; omega)) | (simp only [List.length_cons, List.length_nil]; omega))) | ((first | refine bkThere (H.bkAt 0 rfl) ?_ | refine bkThere (H.bkAt 1 rfl) ?_ | refine bkThere (H.bkAt 2 rfl) ?_ | refine bkThere (H.bkAt 3 rfl) ?_ | refine bkThere (H.bkAt 4 rfl) ?_); (first | decide | (simp only [List.length_cons, List.length_nil]; omega) | (refine rows_le (f := accRow) (s := 2) (fun _ => rfl) ?_; first | omega | assumption | (simp only [List.length_set, List.length_append, List.length_cons, List.length_nil, List.length_map, List.length_replicate, List.length_drop, List.length_take]; omega)))) | exact ⟨by omega, by omega⟩)) : P := h
theorem tS_Kf {w0 w : World} {S : List Nat} {L L' : Blocks} {b o : Nat} {v : Value} {K : World → Prop} (H : St w0 S w L) (k : ∀ w', St w0 S w' L' → K w') (h : SetG w b o v (fun w' => St w0 S w' L') := by ((first | refine bkSet H 0 rfl (fun w H => ?_) | refine bkSet H 1 rfl (fun w H => ?_) | refine bkSet H 2 rfl (fun w H => ?_) | refine bkSet H 3 rfl (fun w H => ?_) | refine bkSet H 4 rfl (fun w H => ?_)); (try simp only [List.set_cons_succ, List.set_cons_zero, ints_set0, bools_set0, pair_set0, pair_set1] at H); exact H)) : SetG w b o v K := k _ h
theorem tG_Kf {w0 w : World} {S : List Nat} {L L' : Blocks} {b o : Nat} {vs : List Value} {K : World → Prop} (H : St w0 S w L) (k : ∀ w', St w0 S w' L' → K w') (h : SetsG w b o vs (fun w' => St w0 S w' L') := by ((first | refine bkSetsF H 0 rfl rfl (fun w H => ?_) | refine bkSetsF H 1 rfl rfl (fun w H => ?_) | refine bkSetsF H 2 rfl rfl (fun w H => ?_) | refine bkSetsF H 3 rfl rfl (fun w H => ?_) | refine bkSetsF H 4 rfl rfl (fun w H => ?_) | (refine bkSetsP H 0 rfl ?_ (fun w H => ?_); · first | omega | assumption | (simp only [List.length_set, List.length_append, List.length_cons, List.length_nil, List.length_map, List.length_replicate, List.length_drop, List.length_take]; omega)) | (refine bkSetsP H 1 rfl ?_ (fun w H => ?_); · first | omega | assumption | (simp only [List.length_set, List.length_append, List.length_cons, List.length_nil, List.length_map, List.length_replicate, List.length_drop, List.length_take]; omega)) | (refine bkSetsP H 2 rfl ?_ (fun w H => ?_); · first | omega | assumption | (simp only [List.length_set, List.length_append, List.length_cons, List.length_nil, List.length_map, List.length_replicate, List.length_drop, List.length_take]; omega)) | (refine bkSetsP H 3 rfl ?_ (fun w H => ?_); · first | omega | assumption | (simp only [List.length_set, List.length_append, List.length_cons, List.length_nil, List.length_map, List.length_replicate, List.length_drop, List.length_take]; omega)) | (refine bkSetsP H 4 rfl ?_ (fun w H => ?_); · first | omega | assumption | (simp only [List.length_set, List.length_append, List.length_cons, List.length_nil, List.length_map, List.length_replicate, List.length_drop, List.length_take]; omega)) ); (try simp only [List.set_cons_succ, List.set_cons_zero, ints_set0, bools_set0, pair_set0, pair_set1] at H); exact H)) : SetsG w b o vs K := k _ h
theorem flatLock (a : FA) (s : FS) (p : PS) (hs : s.wf) (hp : p.wf) (t u : Int) (ht : s.ss.there t = true) :
    Sp Tryz.prog 290 #[ptr a.l, i64 t, i64 u] (flatL a s ++ portL a.pa p) (didV (s.lockD p t u)) (flatL a (s.lockS p t u) ++ portL a.pa (s.lockP p t u)) := by
  intro w0 S w B H
  obtain ⟨h1, h2⟩ := seat_there ht
  have e1 := hs.numbers; have e2 := hs.drew
  simp only [flatL, List.cons_append, List.nil_append, List.append_assoc] at H
  refine callsFlatLock_lock _ _ _ _ _ ?_
  unfold preFlatLock_lock FS.lockD FS.lockS FS.lockP
  cases hd : s.drew.getD t.toNat false
  · (repeat (first | refine PtrSome_at ?_ | refine andOne ?_ | ((first | apply exSlice | apply exInt | apply exBool | apply exPtr | apply exVal | apply andCell | apply andBd | apply andCan | apply andThere); · exact tC_Kf) | (refine toSet ?_; refine tS_Kf H (fun w H => ?_)) | (refine toSets ?_; refine tG_Kf H (fun w H => ?_)) | refine H.drewK (fun w H => ?_) | refine H.allocK (fun w H => ?_)))
    rw [hd]
    simp only [Bool.not_false, Br_true]
    (repeat (first | refine PtrSome_at ?_ | refine andOne ?_ | ((first | apply exSlice | apply exInt | apply exBool | apply exPtr | apply exVal | apply andCell | apply andBd | apply andCan | apply andThere); · exact tC_Kf) | (refine toSet ?_; refine tS_Kf H (fun w H => ?_)) | (refine toSets ?_; refine tG_Kf H (fun w H => ?_)) | refine H.drewK (fun w H => ?_) | refine H.allocK (fun w H => ?_)))
    (refine (portAdd a.pa p hp u s.next 1).go H (_ :: _ :: _ :: _ :: seatL _ _) _ rfl (fun w H => ?_); (try simp only [List.cons_append, List.nil_append, List.append_assoc] at H); (first | refine ⟨_, rfl, ?_⟩ | refine ⟨rfl, ?_⟩ | refine ⟨_, _, _, _, rfl, ?_⟩ | refine ⟨_, _, rfl, ?_⟩))
    (repeat' (first | (first | refine PtrSome_at ?_ | refine andOne ?_ | ((first | apply exSlice | apply exInt | apply exBool | apply exPtr | apply exVal | apply andCell | apply andBd | apply andCan | apply andThere); · exact tC_Kf) | (refine toSet ?_; refine tS_Kf H (fun w H => ?_)) | (refine toSets ?_; refine tG_Kf H (fun w H => ?_)) | refine H.drewK (fun w H => ?_) | refine H.allocK (fun w H => ?_)) | (refine Br_split (fun h => ?_) (fun h => ?_) <;> (try simp only [decide_eq_true_eq, decide_eq_false_iff_not, Bool.not_eq_true', Bool.not_eq_false', bne_iff_ne, beq_iff_eq, bne_eq_false_iff_eq, beq_eq_false_iff_ne, Bool.not_eq_true, Bool.not_eq_false] at h))))
    refine ⟨rfl, H.tail.to ?_⟩
    simp [flatL, seatL]
  · (repeat (first | refine PtrSome_at ?_ | refine andOne ?_ | ((first | apply exSlice | apply exInt | apply exBool | apply exPtr | apply exVal | apply andCell | apply andBd | apply andCan | apply andThere); · exact tC_Kf) | (refine toSet ?_; refine tS_Kf H (fun w H => ?_)) | (refine toSets ?_; refine tG_Kf H (fun w H => ?_)) | refine H.drewK (fun w H => ?_) | refine H.allocK (fun w H => ?_)))
    rw [hd]
    simp only [Bool.not_true, Br_false]
    (repeat (first | refine PtrSome_at ?_ | refine andOne ?_ | ((first | apply exSlice | apply exInt | apply exBool | apply exPtr | apply exVal | apply andCell | apply andBd | apply andCan | apply andThere); · exact tC_Kf) | (refine toSet ?_; refine tS_Kf H (fun w H => ?_)) | (refine toSets ?_; refine tG_Kf H (fun w H => ?_)) | refine H.drewK (fun w H => ?_) | refine H.allocK (fun w H => ?_)))
    (refine (portLoad a.pa p hp u s.owner).go H (_ :: _ :: _ :: _ :: seatL _ _) _ rfl (fun w H => ?_); (try simp only [List.cons_append, List.nil_append, List.append_assoc] at H); (first | refine ⟨_, rfl, ?_⟩ | refine ⟨rfl, ?_⟩ | refine ⟨_, _, _, _, rfl, ?_⟩ | refine ⟨_, _, rfl, ?_⟩))
    (repeat' (first | (first | refine PtrSome_at ?_ | refine andOne ?_ | ((first | apply exSlice | apply exInt | apply exBool | apply exPtr | apply exVal | apply andCell | apply andBd | apply andCan | apply andThere); · exact tC_Kf) | (refine toSet ?_; refine tS_Kf H (fun w H => ?_)) | (refine toSets ?_; refine tG_Kf H (fun w H => ?_)) | refine H.drewK (fun w H => ?_) | refine H.allocK (fun w H => ?_)) | (refine Br_split (fun h => ?_) (fun h => ?_) <;> (try simp only [decide_eq_true_eq, decide_eq_false_iff_not, Bool.not_eq_true', Bool.not_eq_false', bne_iff_ne, beq_iff_eq, bne_eq_false_iff_eq, beq_eq_false_iff_ne, Bool.not_eq_true, Bool.not_eq_false] at h))))
    all_goals refine ⟨?_, H.tail.to ?_⟩
    all_goals simp_all [flatL, seatL, FS.num]
theorem flatUse (a : FA) (s : FS) (q : Nat) (C : Value) (B0 : Blocks) : Sp Tryz.prog 289 #[ptr a.l, ptr a.pa.p]
    ((a.l, [ptr a.sa.s, C, i64 s.next, i64 s.owner, slv a.nb s.ss.l.length, slv a.db s.ss.l.length]) :: (a.nb, ints .u32 s.numbers) :: (a.db, bools s.drew) :: seatL a.sa s.ss) (.tuple #[]) (flatL a s) := by
  intro w0 S w B H
  simp only [List.cons_append, List.nil_append, List.append_assoc] at H
  refine callsFlatLockUse _ _ _ _ ?_
  unfold preFlatLockUse
  (repeat' (first | (first | refine PtrSome_at ?_ | refine andOne ?_ | ((first | apply exSlice | apply exInt | apply exBool | apply exPtr | apply exVal | apply andCell | apply andBd | apply andCan | apply andThere); · exact tC_Kf) | (refine toSet ?_; refine tS_Kf H (fun w H => ?_)) | (refine toSets ?_; refine tG_Kf H (fun w H => ?_)) | refine H.drewK (fun w H => ?_) | refine H.allocK (fun w H => ?_)) | (refine Br_split (fun h => ?_) (fun h => ?_) <;> (try simp only [decide_eq_true_eq, decide_eq_false_iff_not, Bool.not_eq_true', Bool.not_eq_false', bne_iff_ne, beq_iff_eq, bne_eq_false_iff_eq, beq_eq_false_iff_ne, Bool.not_eq_true, Bool.not_eq_false] at h))))
  exact ⟨rfl, H⟩
theorem lockS_ss (s : FS) (p : PS) (t u : Int) : (s.lockS p t u).ss = s.ss := by unfold FS.lockS; split <;> rfl
theorem stepI_ss (s : FS) (p : PS) (t u : Int) : (s.stepI p t u).ss = s.ss := by
  unfold FS.stepI
  split
  · exact lockS_ss _ _ _ _
  · split <;> rfl
theorem flatStep (a : FA) (s : FS) (p : PS) (hs : s.wf) (hp : p.wf) (t u now : Int) :
    Sp Tryz.prog 288 #[ptr a.l, i64 t, i64 u, i64 now] (flatL a s ++ portL a.pa p) (didV (s.stepE p t u)) (flatL a (s.stepS p t u) ++ portL a.pa (s.stepP p t u)) := by
  intro w0 S w B H
  have e1 := hs.numbers; have e2 := hs.drew
  simp only [flatL, List.cons_append, List.nil_append, List.append_assoc] at H
  refine callsFlatLockStep _ _ _ _ _ _ ?_
  unfold preFlatLockStep
  (repeat (first | refine PtrSome_at ?_ | refine andOne ?_ | ((first | apply exSlice | apply exInt | apply exBool | apply exPtr | apply exVal | apply andCell | apply andBd | apply andCan | apply andThere); · exact tC_Kf) | (refine toSet ?_; refine tS_Kf H (fun w H => ?_)) | (refine toSets ?_; refine tG_Kf H (fun w H => ?_)) | refine H.drewK (fun w H => ?_) | refine H.allocK (fun w H => ?_)))
  (refine (seatState a.sa s.ss t).go H [_, _, _, _, _] _ rfl (fun w H => ?_); (try simp only [List.cons_append, List.nil_append, List.append_assoc] at H); (first | refine ⟨_, rfl, ?_⟩ | refine ⟨rfl, ?_⟩ | refine ⟨_, _, _, _, rfl, ?_⟩ | refine ⟨_, _, rfl, ?_⟩))
  by_cases c1 : s.ss.state t = 1
  · have ht := state_there c1 (by decide)
    refine Br_eq c1 ?_
    (refine (flatLock a s p hs hp t u ht).go H [_, _] _ rfl (fun w H => ?_); (try simp only [List.cons_append, List.nil_append, List.append_assoc] at H); (first | refine ⟨_, rfl, ?_⟩ | refine ⟨rfl, ?_⟩ | refine ⟨_, _, _, _, rfl, ?_⟩ | refine ⟨_, _, rfl, ?_⟩))
    (try simp only [List.cons_append, List.nil_append, List.append_assoc, flatL] at H ⊢)
    (repeat (first | refine PtrSome_at ?_ | refine andOne ?_ | ((first | apply exSlice | apply exInt | apply exBool | apply exPtr | apply exVal | apply andCell | apply andBd | apply andCan | apply andThere); · exact tC_Kf) | (refine toSet ?_; refine tS_Kf H (fun w H => ?_)) | (refine toSets ?_; refine tG_Kf H (fun w H => ?_)) | refine H.drewK (fun w H => ?_) | refine H.allocK (fun w H => ?_)))
    (refine (seatEnd a.sa (s.lockS p t u).ss t (s.lockD p t u).ev).go H [_, _, _, _, _] _ rfl (fun w H => ?_); (try simp only [List.cons_append, List.nil_append, List.append_assoc] at H); (first | refine ⟨_, rfl, ?_⟩ | refine ⟨rfl, ?_⟩ | refine ⟨_, _, _, _, rfl, ?_⟩ | refine ⟨_, _, rfl, ?_⟩))
    (try simp only [List.cons_append, List.nil_append, List.append_assoc, flatL] at H ⊢)
    (repeat (first | refine PtrSome_at ?_ | refine andOne ?_ | ((first | apply exSlice | apply exInt | apply exBool | apply exPtr | apply exVal | apply andCell | apply andBd | apply andCan | apply andThere); · exact tC_Kf) | (refine toSet ?_; refine tS_Kf H (fun w H => ?_)) | (refine toSets ?_; refine tG_Kf H (fun w H => ?_)) | refine H.drewK (fun w H => ?_) | refine H.allocK (fun w H => ?_)))
    refine ⟨?_, H.tail.tail.to ?_⟩
    · simp [FS.stepE, c1]
    · simp [FS.stepS, FS.stepI, FS.stepE, FS.stepP, c1, flatL]
  · refine Br_neq c1 ?_
    by_cases c2 : s.ss.state t = 3
    · have ht := state_there c2 (by decide)
      obtain ⟨h1, h2⟩ := seat_there ht
      refine Br_eq c2 ?_
      (repeat (first | refine PtrSome_at ?_ | refine andOne ?_ | ((first | apply exSlice | apply exInt | apply exBool | apply exPtr | apply exVal | apply andCell | apply andBd | apply andCan | apply andThere); · exact tC_Kf) | (refine toSet ?_; refine tS_Kf H (fun w H => ?_)) | (refine toSets ?_; refine tG_Kf H (fun w H => ?_)) | refine H.drewK (fun w H => ?_) | refine H.allocK (fun w H => ?_)))
      (refine (portStore a.pa p hp u s.owner (IntKind.u32.wrap (s.num t + 1))).go H (_ :: _ :: _ :: _ :: _ :: seatL _ _) _ rfl (fun w H => ?_); (try simp only [List.cons_append, List.nil_append, List.append_assoc] at H); (first | refine ⟨_, rfl, ?_⟩ | refine ⟨rfl, ?_⟩ | refine ⟨_, _, _, _, rfl, ?_⟩ | refine ⟨_, _, rfl, ?_⟩))
      (repeat (first | refine PtrSome_at ?_ | refine andOne ?_ | ((first | apply exSlice | apply exInt | apply exBool | apply exPtr | apply exVal | apply andCell | apply andBd | apply andCan | apply andThere); · exact tC_Kf) | (refine toSet ?_; refine tS_Kf H (fun w H => ?_)) | (refine toSets ?_; refine tG_Kf H (fun w H => ?_)) | refine H.drewK (fun w H => ?_) | refine H.allocK (fun w H => ?_)))
      (refine (seatEnd a.sa s.ss t 3).go H [_, _, _, _, _] _ rfl (fun w H => ?_); (try simp only [List.cons_append, List.nil_append, List.append_assoc] at H); (first | refine ⟨_, rfl, ?_⟩ | refine ⟨rfl, ?_⟩ | refine ⟨_, _, _, _, rfl, ?_⟩ | refine ⟨_, _, rfl, ?_⟩))
      (try simp only [List.cons_append, List.nil_append, List.append_assoc, flatL] at H ⊢)
      (repeat (first | refine PtrSome_at ?_ | refine andOne ?_ | ((first | apply exSlice | apply exInt | apply exBool | apply exPtr | apply exVal | apply andCell | apply andBd | apply andCan | apply andThere); · exact tC_Kf) | (refine toSet ?_; refine tS_Kf H (fun w H => ?_)) | (refine toSets ?_; refine tG_Kf H (fun w H => ?_)) | refine H.drewK (fun w H => ?_) | refine H.allocK (fun w H => ?_)))
      refine ⟨?_, H.tail.tail.to ?_⟩
      · simp [FS.stepE, c2]
      · simp [FS.stepS, FS.stepI, FS.stepE, FS.stepP, c2, flatL]
    · refine Br_neq c2 ?_
      by_cases c3 : s.ss.state t = 4
      · have ht := state_there c3 (by decide)
        obtain ⟨h1, h2⟩ := seat_there ht
        refine Br_eq c3 ?_
        (repeat (first | refine PtrSome_at ?_ | refine andOne ?_ | ((first | apply exSlice | apply exInt | apply exBool | apply exPtr | apply exVal | apply andCell | apply andBd | apply andCan | apply andThere); · exact tC_Kf) | (refine toSet ?_; refine tS_Kf H (fun w H => ?_)) | (refine toSets ?_; refine tG_Kf H (fun w H => ?_)) | refine H.drewK (fun w H => ?_) | refine H.allocK (fun w H => ?_)))
        (refine (portLoad a.pa p hp u s.next).go H (_ :: _ :: _ :: _ :: _ :: seatL _ _) _ rfl (fun w H => ?_); (try simp only [List.cons_append, List.nil_append, List.append_assoc] at H); (first | refine ⟨_, rfl, ?_⟩ | refine ⟨rfl, ?_⟩ | refine ⟨_, _, _, _, rfl, ?_⟩ | refine ⟨_, _, rfl, ?_⟩))
        (repeat (first | refine PtrSome_at ?_ | refine andOne ?_ | ((first | apply exSlice | apply exInt | apply exBool | apply exPtr | apply exVal | apply andCell | apply andBd | apply andCan | apply andThere); · exact tC_Kf) | (refine toSet ?_; refine tS_Kf H (fun w H => ?_)) | (refine toSets ?_; refine tG_Kf H (fun w H => ?_)) | refine H.drewK (fun w H => ?_) | refine H.allocK (fun w H => ?_)))
        by_cases c4 : p.loadV u s.next = IntKind.u32.wrap (s.num t + 1)
        · refine Br_eq c4 ?_
          (repeat (first | refine PtrSome_at ?_ | refine andOne ?_ | ((first | apply exSlice | apply exInt | apply exBool | apply exPtr | apply exVal | apply andCell | apply andBd | apply andCan | apply andThere); · exact tC_Kf) | (refine toSet ?_; refine tS_Kf H (fun w H => ?_)) | (refine toSets ?_; refine tG_Kf H (fun w H => ?_)) | refine H.drewK (fun w H => ?_) | refine H.allocK (fun w H => ?_)))
          (refine (seatEnd a.sa s.ss t 4).go H [_, _, _, _, _] _ rfl (fun w H => ?_); (try simp only [List.cons_append, List.nil_append, List.append_assoc] at H); (first | refine ⟨_, rfl, ?_⟩ | refine ⟨rfl, ?_⟩ | refine ⟨_, _, _, _, rfl, ?_⟩ | refine ⟨_, _, rfl, ?_⟩))
          (try simp only [List.cons_append, List.nil_append, List.append_assoc, flatL] at H ⊢)
          (repeat (first | refine PtrSome_at ?_ | refine andOne ?_ | ((first | apply exSlice | apply exInt | apply exBool | apply exPtr | apply exVal | apply andCell | apply andBd | apply andCan | apply andThere); · exact tC_Kf) | (refine toSet ?_; refine tS_Kf H (fun w H => ?_)) | (refine toSets ?_; refine tG_Kf H (fun w H => ?_)) | refine H.drewK (fun w H => ?_) | refine H.allocK (fun w H => ?_)))
          refine ⟨?_, H.tail.tail.to ?_⟩
          · simp [FS.stepE, c3, c4]
          · simp [FS.stepS, FS.stepI, FS.stepE, FS.stepP, c3, c4, flatL]
        · refine Br_neq c4 ?_
          (repeat (first | refine PtrSome_at ?_ | refine andOne ?_ | ((first | apply exSlice | apply exInt | apply exBool | apply exPtr | apply exVal | apply andCell | apply andBd | apply andCan | apply andThere); · exact tC_Kf) | (refine toSet ?_; refine tS_Kf H (fun w H => ?_)) | (refine toSets ?_; refine tG_Kf H (fun w H => ?_)) | refine H.drewK (fun w H => ?_) | refine H.allocK (fun w H => ?_)))
          (refine (seatEnd a.sa s.ss t 5).go H [_, _, _, _, _] _ rfl (fun w H => ?_); (try simp only [List.cons_append, List.nil_append, List.append_assoc] at H); (first | refine ⟨_, rfl, ?_⟩ | refine ⟨rfl, ?_⟩ | refine ⟨_, _, _, _, rfl, ?_⟩ | refine ⟨_, _, rfl, ?_⟩))
          (try simp only [List.cons_append, List.nil_append, List.append_assoc, flatL] at H ⊢)
          (repeat (first | refine PtrSome_at ?_ | refine andOne ?_ | ((first | apply exSlice | apply exInt | apply exBool | apply exPtr | apply exVal | apply andCell | apply andBd | apply andCan | apply andThere); · exact tC_Kf) | (refine toSet ?_; refine tS_Kf H (fun w H => ?_)) | (refine toSets ?_; refine tG_Kf H (fun w H => ?_)) | refine H.drewK (fun w H => ?_) | refine H.allocK (fun w H => ?_)))
          refine ⟨?_, H.tail.tail.to ?_⟩
          · simp [FS.stepE, c3, c4]
          · simp [FS.stepS, FS.stepI, FS.stepE, FS.stepP, c3, c4, flatL]
      · refine Br_neq c3 ?_
        (repeat (first | refine PtrSome_at ?_ | refine andOne ?_ | ((first | apply exSlice | apply exInt | apply exBool | apply exPtr | apply exVal | apply andCell | apply andBd | apply andCan | apply andThere); · exact tC_Kf) | (refine toSet ?_; refine tS_Kf H (fun w H => ?_)) | (refine toSets ?_; refine tG_Kf H (fun w H => ?_)) | refine H.drewK (fun w H => ?_) | refine H.allocK (fun w H => ?_)))
        (refine (seatEnd a.sa s.ss t 0).go H [_, _, _, _, _] _ rfl (fun w H => ?_); (try simp only [List.cons_append, List.nil_append, List.append_assoc] at H); (first | refine ⟨_, rfl, ?_⟩ | refine ⟨rfl, ?_⟩ | refine ⟨_, _, _, _, rfl, ?_⟩ | refine ⟨_, _, rfl, ?_⟩))
        (try simp only [List.cons_append, List.nil_append, List.append_assoc, flatL] at H ⊢)
        (repeat (first | refine PtrSome_at ?_ | refine andOne ?_ | ((first | apply exSlice | apply exInt | apply exBool | apply exPtr | apply exVal | apply andCell | apply andBd | apply andCan | apply andThere); · exact tC_Kf) | (refine toSet ?_; refine tS_Kf H (fun w H => ?_)) | (refine toSets ?_; refine tG_Kf H (fun w H => ?_)) | refine H.drewK (fun w H => ?_) | refine H.allocK (fun w H => ?_)))
        refine ⟨?_, H.tail.tail.to ?_⟩
        · simp [FS.stepE, c1, c2, c3]
        · simp [FS.stepS, FS.stepI, FS.stepE, FS.stepP, c1, c2, c3, flatL]
end Go.Proofs.YtollfjfcdofbaaaGreat
