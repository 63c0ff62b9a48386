/- Contracts: Anderson's lock. -/
import Derived.Test.YtollfjfcdofbaaaGreatKf
namespace Go.Proofs.YtollfjfcdofbaaaGreat
open Go Go.Proofs
set_option linter.unusedSimpArgs false
set_option linter.unusedVariables false
set_option maxRecDepth 100000
set_option maxHeartbeats 4000000
-- NB 5
-- NORM slotL
-- ROW slRow 2

abbrev slRow (x : Int × Int) : List Value := [(.int .u32 x.1), (.int .i64 x.2)]
theorem slRow_set0 (xs : List (Int × Int)) (i : Nat) (v : Int) : (rows slRow xs).set (0 + i * 2) (.int .u32 v) = rows slRow (xs.set i (v, (xs.getD i default).2)) := rows_set0 (f := slRow) (s := 2) (fun _ => rfl) (by decide) xs i (v, (xs.getD i default).2) rfl
theorem slRow_set1 (xs : List (Int × Int)) (i : Nat) (v : Int) : (rows slRow xs).set (0 + i * 2 + 1) (.int .i64 v) = rows slRow (xs.set i ((xs.getD i default).1, v)) := rows_set1 (f := slRow) (s := 2) (fun _ => rfl) (by decide) xs i ((xs.getD i default).1, v) rfl
theorem bkSets_slRow {w0 w : World} {S : List Nat} {L : Blocks} {b : Nat} {K : World → Prop} {xs : List (Int × Int)} {j : Nat} {v0 : Int} {v1 : Int} (H : St w0 S w L) (i : Nat) (h : L[i]? = some (b, rows slRow xs)) (hj : j < xs.length) (k : ∀ w', St w0 S w' (L.set i (b, rows slRow (xs.set j (v0, v1)))) → K w') : SetsG w b (0 + j * 2) [(.int .u32 v0), (.int .i64 v1)] K := St.setsR (f := slRow) (s := 2) (fun _ => rfl) H i h (v0, v1) hj rfl (K := fun w' => K w') k _ rfl
def packSlot (x n : Int) : Int :=
  if n < 1 then 0 else if 64 < n then 0 else if IntKind.i64.wrap (BitVec.ofInt IntKind.i64.bits n &&& BitVec.ofInt IntKind.i64.bits (IntKind.i64.wrap (n - 1))).toNat ≠ 0 then 0
  else IntKind.i64.wrap (IntKind.u32.wrap (BitVec.ofInt IntKind.u32.bits x &&& BitVec.ofInt IntKind.u32.bits (IntKind.u32.wrap (IntKind.i64.wrap (n - 1)))).toNat)
theorem packSlotC (x n : Int) (A : Blocks) : Sp Tryz.prog 188 #[u32 x, i64 n] A (i64 (packSlot x n)) A := by
  intro w0 S w B H
  refine callsPackSlot _ _ _ _ ?_
  unfold prePackSlot packSlot
  by_cases c1 : n < 1
  · rw [if_pos c1]; exact Br_t c1 ⟨rfl, H⟩
  · rw [if_neg c1]; refine Br_f c1 ?_
    by_cases c2 : 64 < n
    · rw [if_pos c2]; exact Br_t c2 ⟨rfl, H⟩
    · rw [if_neg c2]; refine Br_f c2 ?_
      by_cases c3 : IntKind.i64.wrap (BitVec.ofInt IntKind.i64.bits n &&& BitVec.ofInt IntKind.i64.bits (IntKind.i64.wrap (n - 1))).toNat ≠ 0
      · rw [if_pos c3]; exact Br_ne c3 ⟨rfl, H⟩
      · rw [if_neg c3]; exact Br_nne (by simpa using c3) ⟨rfl, H⟩

structure GA where
  l : Nat
  rb : Nat
  sa : SA
  pa : PA
structure GS where
  ss : SS
  tail : Int
  n : Int
  places : List (Int × Int)
def slotL (a : GA) (s : GS) : Blocks := (a.l, [ptr a.sa.s, ptr a.pa.p, i64 s.tail, i64 s.n, slv a.rb s.ss.l.length]) :: (a.rb, rows slRow s.places) :: seatL a.sa s.ss
def GS.wf (s : GS) : Prop := s.places.length = s.ss.l.length
namespace GS
def slotA (s : GS) (x : Int) : Int := IntKind.i64.wrap (IntKind.i64.wrap (s.tail + 1) + packSlot x s.n)
def pl (s : GS) (t : Int) : Int × Int := s.places.getD t.toNat default
def lockD (s : GS) (p : PS) (t u : Int) : Dd := if (s.pl t).2 = 0 then { ev := 0, enq := true } else if (s.pl t).2 = 1 then { ev := 0 } else { ev := 1 }
def lockS (s : GS) (p : PS) (t u : Int) : GS :=
  if (s.pl t).2 = 0 then { s with places := s.places.set t.toNat (p.addV u s.tail 1, 1) }
  else if (s.pl t).2 = 1 then (if p.loadV u (s.slotA (s.pl t).1) = 0 then s else { s with places := s.places.set t.toNat ((s.pl t).1, 2) })
  else s
def lockP (s : GS) (p : PS) (t u : Int) : PS :=
  if (s.pl t).2 = 0 then p.add u s.tail 1 else if (s.pl t).2 = 1 then p.load u (s.slotA (s.pl t).1) else p.store u (s.slotA (s.pl t).1) 0
def stepE (s : GS) (p : PS) (t u : Int) : Dd := if s.ss.state t = 1 then s.lockD p t u else if s.ss.state t = 3 then { ev := 3 } else { ev := 0 }
def stepI (s : GS) (p : PS) (t u : Int) : GS := if s.ss.state t = 1 then s.lockS p t u else if s.ss.state t = 3 then { s with places := s.places.set t.toNat (0, 0) } else s
def stepS (s : GS) (p : PS) (t u : Int) : GS := { s.stepI p t u with ss := (s.stepI p t u).ss.end_ t (s.stepE p t u).ev }
def stepP (s : GS) (p : PS) (t u : Int) : PS :=
  if s.ss.state t = 1 then s.lockP p t u else if s.ss.state t = 3 then p.store u (s.slotA (IntKind.u32.wrap ((s.pl t).1 + 1))) 1 else p
end GS
theorem tC_Kg {P : Prop} (h : P := by (first | ((first | refine bkCell (H.bkAt 0 rfl) ?_ | refine bkCell (H.bkAt 1 rfl) ?_ | refine bkCell (H.bkAt 2 rfl) ?_ | refine bkCell (H.bkAt 3 rfl) ?_ | refine bkCell (H.bkAt 4 rfl) ?_); (first | rfl | ((first | refine ints_at0 ?_ | refine bools_at0 ?_ | refine rows_at1 (f := accRow) (s := 2) (fun _ => rfl) (by decide) ?_ rfl | refine rows_at0 (f := accRow) (s := 2) (fun _ => rfl) (by decide) ?_ rfl | refine rows_at1 (f := slRow) (s := 2) (fun _ => rfl) (by decide) ?_ rfl | refine rows_at0 (f := slRow) (s := 2) (fun _ => rfl) (by decide) ?_ rfl); first | omega | assumption | (simp only [List.length_set, List.length_append, List.length_cons, List.length_nil, List.length_map, List.length_replicate, List.length_drop, List.length_take]; omega)))) | ((first | refine bkCan (H.bkAt 0 rfl) ?_ | refine bkCan (H.bkAt 1 rfl) ?_ | refine bkCan (H.bkAt 2 rfl) ?_ | refine bkCan (H.bkAt 3 rfl) ?_ | refine bkCan (H.bkAt 4 rfl) ?_); (first | decide | ((first | refine ints_lt ?_ | refine bools_lt ?_ | refine rows_lt1 (f := accRow) (s := 2) (fun _ => rfl) (by decide) ?_ | refine rows_lt0 (f := accRow) (s := 2) (fun _ => rfl) (by decide) ?_ | refine rows_lt1 (f := slRow) (s := 2) (fun _ => rfl) (by decide) ?_ | refine rows_lt0 (f := slRow) (s := 2) (fun _ => rfl) (by decide) ?_); first | omega | assumption | (simp only [List.length_set, List.length_append, List.length_cons, List.length_nil, List.length_map, List.length_replicate, List.length_drop, List.length_take]; omega)) | (simp only [List.length_cons, List.length_nil]; omega))) | ((first | refine bkThere (H.bkAt 0 rfl) ?_ | refine bkThere (H.bkAt 1 rfl) ?_ | refine bkThere (H.bkAt 2 rfl) ?_ | refine bkThere (H.bkAt 3 rfl) ?_ | refine bkThere (H.bkAt 4 rfl) ?_); (first | decide | (simp only [List.length_cons, List.length_nil]; omega) | (refine rows_le (f := accRow) (s := 2) (fun _ => rfl) ?_; first | omega | assumption | (simp only [List.length_set, List.length_append, List.length_cons, List.length_nil, List.length_map, List.length_replicate, List.length_drop, List.length_take]; omega)) | (refine rows_le (f := slRow) (s := 2) (fun _ => rfl) ?_; first | omega | assumption | (simp only [List.length_set, List.length_append, List.length_cons, List.length_nil, List.length_map, List.length_replicate, List.length_drop, List.length_take]; omega)))) | exact ⟨by omega, by omega⟩)) : P := h
theorem tS_Kg {w0 w : World} {S : List Nat} {L L' : Blocks} {b o : Nat} {v : Value} {K : World → Prop} (H : St w0 S w L) (k : ∀ w', St w0 S w' L' → K w') (h : SetG w b o v (fun w' => St w0 S w' L') := by ((first | refine bkSet H 0 rfl (fun w H => ?_) | refine bkSet H 1 rfl (fun w H => ?_) | refine bkSet H 2 rfl (fun w H => ?_) | refine bkSet H 3 rfl (fun w H => ?_) | refine bkSet H 4 rfl (fun w H => ?_)); (try simp only [List.set_cons_succ, List.set_cons_zero, ints_set0, bools_set0, pair_set0, pair_set1, slRow_set0, slRow_set1] at H); exact H)) : SetG w b o v K := k _ h
theorem tG_Kg {w0 w : World} {S : List Nat} {L L' : Blocks} {b o : Nat} {vs : List Value} {K : World → Prop} (H : St w0 S w L) (k : ∀ w', St w0 S w' L' → K w') (h : SetsG w b o vs (fun w' => St w0 S w' L') := by ((first | refine bkSetsF H 0 rfl rfl (fun w H => ?_) | refine bkSetsF H 1 rfl rfl (fun w H => ?_) | refine bkSetsF H 2 rfl rfl (fun w H => ?_) | refine bkSetsF H 3 rfl rfl (fun w H => ?_) | refine bkSetsF H 4 rfl rfl (fun w H => ?_) | (refine bkSetsP H 0 rfl ?_ (fun w H => ?_); · first | omega | assumption | (simp only [List.length_set, List.length_append, List.length_cons, List.length_nil, List.length_map, List.length_replicate, List.length_drop, List.length_take]; omega)) | (refine bkSetsP H 1 rfl ?_ (fun w H => ?_); · first | omega | assumption | (simp only [List.length_set, List.length_append, List.length_cons, List.length_nil, List.length_map, List.length_replicate, List.length_drop, List.length_take]; omega)) | (refine bkSetsP H 2 rfl ?_ (fun w H => ?_); · first | omega | assumption | (simp only [List.length_set, List.length_append, List.length_cons, List.length_nil, List.length_map, List.length_replicate, List.length_drop, List.length_take]; omega)) | (refine bkSetsP H 3 rfl ?_ (fun w H => ?_); · first | omega | assumption | (simp only [List.length_set, List.length_append, List.length_cons, List.length_nil, List.length_map, List.length_replicate, List.length_drop, List.length_take]; omega)) | (refine bkSetsP H 4 rfl ?_ (fun w H => ?_); · first | omega | assumption | (simp only [List.length_set, List.length_append, List.length_cons, List.length_nil, List.length_map, List.length_replicate, List.length_drop, List.length_take]; omega)) | (refine bkSets_slRow H 0 rfl ?_ (fun w H => ?_); · first | omega | assumption | (simp only [List.length_set, List.length_append, List.length_cons, List.length_nil, List.length_map, List.length_replicate, List.length_drop, List.length_take]; omega)) | (refine bkSets_slRow H 1 rfl ?_ (fun w H => ?_); · first | omega | assumption | (simp only [List.length_set, List.length_append, List.length_cons, List.length_nil, List.length_map, List.length_replicate, List.length_drop, List.length_take]; omega)) | (refine bkSets_slRow H 2 rfl ?_ (fun w H => ?_); · first | omega | assumption | (simp only [List.length_set, List.length_append, List.length_cons, List.length_nil, List.length_map, List.length_replicate, List.length_drop, List.length_take]; omega)) | (refine bkSets_slRow H 3 rfl ?_ (fun w H => ?_); · first | omega | assumption | (simp only [List.length_set, List.length_append, List.length_cons, List.length_nil, List.length_map, List.length_replicate, List.length_drop, List.length_take]; omega)) | (refine bkSets_slRow H 4 rfl ?_ (fun w H => ?_); · first | omega | assumption | (simp only [List.length_set, List.length_append, List.length_cons, List.length_nil, List.length_map, List.length_replicate, List.length_drop, List.length_take]; omega))); (try simp only [List.set_cons_succ, List.set_cons_zero, ints_set0, bools_set0, pair_set0, pair_set1, slRow_set0, slRow_set1] at H); exact H)) : SetsG w b o vs K := k _ h
theorem slotSlot (a : GA) (s : GS) (x : Int) : Sp Tryz.prog 315 #[ptr a.l, u32 x] (slotL a s) (i64 (s.slotA x)) (slotL a s) := by
  intro w0 S w B H
  refine callsSlotsLock_slot _ _ _ _ ?_
  unfold preSlotsLock_slot
  (try simp only [List.cons_append, List.nil_append, List.append_assoc, slotL] at H ⊢)
  (repeat (first | refine PtrSome_at ?_ | refine andOne ?_ | ((first | apply exSlice | apply exInt | apply exBool | apply exPtr | apply exVal | apply andCell | apply andBd | apply andCan | apply andThere); · exact tC_Kg) | (refine toSet ?_; refine tS_Kg H (fun w H => ?_)) | (refine toSets ?_; refine tG_Kg H (fun w H => ?_)) | refine H.drewK (fun w H => ?_) | refine H.allocK (fun w H => ?_)))
  (refine (packSlotC x s.n []).go H [] _ rfl (fun w H => ?_); (try simp only [List.cons_append, List.nil_append, List.append_assoc] at H); (first | refine ⟨_, rfl, ?_⟩ | refine ⟨rfl, ?_⟩ | refine ⟨_, _, _, _, rfl, ?_⟩ | refine ⟨_, _, rfl, ?_⟩))
  (repeat (first | refine PtrSome_at ?_ | refine andOne ?_ | ((first | apply exSlice | apply exInt | apply exBool | apply exPtr | apply exVal | apply andCell | apply andBd | apply andCan | apply andThere); · exact tC_Kg) | (refine toSet ?_; refine tS_Kg H (fun w H => ?_)) | (refine toSets ?_; refine tG_Kg H (fun w H => ?_)) | refine H.drewK (fun w H => ?_) | refine H.allocK (fun w H => ?_)))
  exact ⟨rfl, H⟩
theorem slotLock (a : GA) (s : GS) (p : PS) (hs : s.wf) (hp : p.wf) (t u : Int) (ht : s.ss.there t = true) :
    Sp Tryz.prog 314 #[ptr a.l, .pointer (some ⟨a.rb, 0 + t.toNat * 2, none⟩), i64 u] (slotL a s ++ portL a.pa p) (didV (s.lockD p t u)) (slotL a (s.lockS p t u) ++ portL a.pa (s.lockP p t u)) := by
  intro w0 S w B H
  obtain ⟨h1, h2⟩ := seat_there ht
  have e1 : s.places.length = s.ss.l.length := hs
  have e2 : t.toNat < s.places.length := by omega
  (try simp only [List.cons_append, List.nil_append, List.append_assoc, slotL] at H ⊢)
  refine callsSlotsLock_lock _ _ _ _ _ _ ?_
  unfold preSlotsLock_lock GS.lockD GS.lockS GS.lockP
  (repeat (first | refine PtrSome_at ?_ | refine andOne ?_ | ((first | apply exSlice | apply exInt | apply exBool | apply exPtr | apply exVal | apply andCell | apply andBd | apply andCan | apply andThere); · exact tC_Kg) | (refine toSet ?_; refine tS_Kg H (fun w H => ?_)) | (refine toSets ?_; refine tG_Kg H (fun w H => ?_)) | refine H.drewK (fun w H => ?_) | refine H.allocK (fun w H => ?_)))
  by_cases c1 : (s.pl t).2 = 0
  · refine Br_eq c1 ?_
    (repeat (first | refine PtrSome_at ?_ | refine andOne ?_ | ((first | apply exSlice | apply exInt | apply exBool | apply exPtr | apply exVal | apply andCell | apply andBd | apply andCan | apply andThere); · exact tC_Kg) | (refine toSet ?_; refine tS_Kg H (fun w H => ?_)) | (refine toSets ?_; refine tG_Kg H (fun w H => ?_)) | refine H.drewK (fun w H => ?_) | refine H.allocK (fun w H => ?_)))
    (refine (portAdd a.pa p hp u s.tail 1).go H (_ :: _ :: _ :: seatL _ _) _ rfl (fun w H => ?_); (try simp only [List.cons_append, List.nil_append, List.append_assoc] at H); (first | refine ⟨_, rfl, ?_⟩ | refine ⟨rfl, ?_⟩ | refine ⟨_, _, _, _, rfl, ?_⟩ | refine ⟨_, _, rfl, ?_⟩))
    (repeat (first | refine PtrSome_at ?_ | refine andOne ?_ | ((first | apply exSlice | apply exInt | apply exBool | apply exPtr | apply exVal | apply andCell | apply andBd | apply andCan | apply andThere); · exact tC_Kg) | (refine toSet ?_; refine tS_Kg H (fun w H => ?_)) | (refine toSets ?_; refine tG_Kg H (fun w H => ?_)) | refine H.drewK (fun w H => ?_) | refine H.allocK (fun w H => ?_)))
    refine ⟨?_, H.tail.to ?_⟩
    · simp [c1]
    · simp [slotL, c1, e2]
  · refine Br_neq c1 ?_
    by_cases c2 : (s.pl t).2 = 1
    · refine Br_eq c2 ?_
      (repeat (first | refine PtrSome_at ?_ | refine andOne ?_ | ((first | apply exSlice | apply exInt | apply exBool | apply exPtr | apply exVal | apply andCell | apply andBd | apply andCan | apply andThere); · exact tC_Kg) | (refine toSet ?_; refine tS_Kg H (fun w H => ?_)) | (refine toSets ?_; refine tG_Kg H (fun w H => ?_)) | refine H.drewK (fun w H => ?_) | refine H.allocK (fun w H => ?_)))
      (refine (slotSlot a s (s.pl t).1).go H [_] _ rfl (fun w H => ?_); (try simp only [List.cons_append, List.nil_append, List.append_assoc] at H); (first | refine ⟨_, rfl, ?_⟩ | refine ⟨rfl, ?_⟩ | refine ⟨_, _, _, _, rfl, ?_⟩ | refine ⟨_, _, rfl, ?_⟩))
      (try simp only [List.cons_append, List.nil_append, List.append_assoc, slotL] at H ⊢)
      (repeat (first | refine PtrSome_at ?_ | refine andOne ?_ | ((first | apply exSlice | apply exInt | apply exBool | apply exPtr | apply exVal | apply andCell | apply andBd | apply andCan | apply andThere); · exact tC_Kg) | (refine toSet ?_; refine tS_Kg H (fun w H => ?_)) | (refine toSets ?_; refine tG_Kg H (fun w H => ?_)) | refine H.drewK (fun w H => ?_) | refine H.allocK (fun w H => ?_)))
      (refine (portLoad a.pa p hp u (s.slotA (s.pl t).1)).go H (_ :: _ :: _ :: seatL _ _) _ rfl (fun w H => ?_); (try simp only [List.cons_append, List.nil_append, List.append_assoc] at H); (first | refine ⟨_, rfl, ?_⟩ | refine ⟨rfl, ?_⟩ | refine ⟨_, _, _, _, rfl, ?_⟩ | refine ⟨_, _, rfl, ?_⟩))
      by_cases c3 : p.loadV u (s.slotA (s.pl t).1) = 0
      · refine Br_nne c3 ?_
        (repeat (first | refine PtrSome_at ?_ | refine andOne ?_ | ((first | apply exSlice | apply exInt | apply exBool | apply exPtr | apply exVal | apply andCell | apply andBd | apply andCan | apply andThere); · exact tC_Kg) | (refine toSet ?_; refine tS_Kg H (fun w H => ?_)) | (refine toSets ?_; refine tG_Kg H (fun w H => ?_)) | refine H.drewK (fun w H => ?_) | refine H.allocK (fun w H => ?_)))
        refine ⟨?_, H.tail.to ?_⟩
        · simp [c2]
        · simp [slotL, c2, c3]
      · refine Br_ne c3 ?_
        (repeat (first | refine PtrSome_at ?_ | refine andOne ?_ | ((first | apply exSlice | apply exInt | apply exBool | apply exPtr | apply exVal | apply andCell | apply andBd | apply andCan | apply andThere); · exact tC_Kg) | (refine toSet ?_; refine tS_Kg H (fun w H => ?_)) | (refine toSets ?_; refine tG_Kg H (fun w H => ?_)) | refine H.drewK (fun w H => ?_) | refine H.allocK (fun w H => ?_)))
        refine ⟨?_, H.tail.to ?_⟩
        · simp [c2]
        · simp only [if_neg c1, if_pos c2, if_neg c3]
          simp [slotL, GS.pl]
    · refine Br_neq c2 ?_
      (repeat (first | refine PtrSome_at ?_ | refine andOne ?_ | ((first | apply exSlice | apply exInt | apply exBool | apply exPtr | apply exVal | apply andCell | apply andBd | apply andCan | apply andThere); · exact tC_Kg) | (refine toSet ?_; refine tS_Kg H (fun w H => ?_)) | (refine toSets ?_; refine tG_Kg H (fun w H => ?_)) | refine H.drewK (fun w H => ?_) | refine H.allocK (fun w H => ?_)))
      (refine (slotSlot a s (s.pl t).1).go H [_] _ rfl (fun w H => ?_); (try simp only [List.cons_append, List.nil_append, List.append_assoc] at H); (first | refine ⟨_, rfl, ?_⟩ | refine ⟨rfl, ?_⟩ | refine ⟨_, _, _, _, rfl, ?_⟩ | refine ⟨_, _, rfl, ?_⟩))
      (try simp only [List.cons_append, List.nil_append, List.append_assoc, slotL] at H ⊢)
      (repeat (first | refine PtrSome_at ?_ | refine andOne ?_ | ((first | apply exSlice | apply exInt | apply exBool | apply exPtr | apply exVal | apply andCell | apply andBd | apply andCan | apply andThere); · exact tC_Kg) | (refine toSet ?_; refine tS_Kg H (fun w H => ?_)) | (refine toSets ?_; refine tG_Kg H (fun w H => ?_)) | refine H.drewK (fun w H => ?_) | refine H.allocK (fun w H => ?_)))
      (refine (portStore a.pa p hp u (s.slotA (s.pl t).1) 0).go H (_ :: _ :: _ :: seatL _ _) _ rfl (fun w H => ?_); (try simp only [List.cons_append, List.nil_append, List.append_assoc] at H); (first | refine ⟨_, rfl, ?_⟩ | refine ⟨rfl, ?_⟩ | refine ⟨_, _, _, _, rfl, ?_⟩ | refine ⟨_, _, rfl, ?_⟩))
      (repeat (first | refine PtrSome_at ?_ | refine andOne ?_ | ((first | apply exSlice | apply exInt | apply exBool | apply exPtr | apply exVal | apply andCell | apply andBd | apply andCan | apply andThere); · exact tC_Kg) | (refine toSet ?_; refine tS_Kg H (fun w H => ?_)) | (refine toSets ?_; refine tG_Kg H (fun w H => ?_)) | refine H.drewK (fun w H => ?_) | refine H.allocK (fun w H => ?_)))
      refine ⟨?_, H.tail.to ?_⟩
      · simp [c1, c2]
      · simp [slotL, c1, c2]
theorem slotUse (a : GA) (s : GS) (C : Value) : Sp Tryz.prog 313 #[ptr a.l, ptr a.pa.p]
    ((a.l, [ptr a.sa.s, C, i64 s.tail, i64 s.n, slv a.rb s.ss.l.length]) :: (a.rb, rows slRow s.places) :: seatL a.sa s.ss) (.tuple #[]) (slotL a s) := by
  intro w0 S w B H
  simp only [List.cons_append, List.nil_append, List.append_assoc] at H
  refine callsSlotsLockUse _ _ _ _ ?_
  unfold preSlotsLockUse
  (repeat' (first | (first | refine PtrSome_at ?_ | refine andOne ?_ | ((first | apply exSlice | apply exInt | apply exBool | apply exPtr | apply exVal | apply andCell | apply andBd | apply andCan | apply andThere); · exact tC_Kg) | (refine toSet ?_; refine tS_Kg H (fun w H => ?_)) | (refine toSets ?_; refine tG_Kg H (fun w H => ?_)) | refine H.drewK (fun w H => ?_) | refine H.allocK (fun w H => ?_)) | (refine Br_split (fun h => ?_) (fun h => ?_) <;> (try simp only [decide_eq_true_eq, decide_eq_false_iff_not, Bool.not_eq_true', Bool.not_eq_false', bne_iff_ne, beq_iff_eq, bne_eq_false_iff_eq, beq_eq_false_iff_ne, Bool.not_eq_true, Bool.not_eq_false] at h))))
  exact ⟨rfl, H⟩
theorem slotStep (a : GA) (s : GS) (p : PS) (hs : s.wf) (hp : p.wf) (t u now : Int) :
    Sp Tryz.prog 312 #[ptr a.l, i64 t, i64 u, i64 now] (slotL a s ++ portL a.pa p) (didV (s.stepE p t u)) (slotL a (s.stepS p t u) ++ portL a.pa (s.stepP p t u)) := by
  intro w0 S w B H
  have e1 : s.places.length = s.ss.l.length := hs
  (try simp only [List.cons_append, List.nil_append, List.append_assoc, slotL] at H ⊢)
  refine callsSlotsLockStep _ _ _ _ _ _ ?_
  unfold preSlotsLockStep
  (repeat (first | refine PtrSome_at ?_ | refine andOne ?_ | ((first | apply exSlice | apply exInt | apply exBool | apply exPtr | apply exVal | apply andCell | apply andBd | apply andCan | apply andThere); · exact tC_Kg) | (refine toSet ?_; refine tS_Kg H (fun w H => ?_)) | (refine toSets ?_; refine tG_Kg H (fun w H => ?_)) | refine H.drewK (fun w H => ?_) | refine H.allocK (fun w H => ?_)))
  (refine (seatState a.sa s.ss t).go H [_, _, _, _] _ rfl (fun w H => ?_); (try simp only [List.cons_append, List.nil_append, List.append_assoc] at H); (first | refine ⟨_, rfl, ?_⟩ | refine ⟨rfl, ?_⟩ | refine ⟨_, _, _, _, rfl, ?_⟩ | refine ⟨_, _, rfl, ?_⟩))
  by_cases c1 : s.ss.state t = 1
  · have ht := state_there c1 (by decide)
    obtain ⟨h1, h2⟩ := seat_there ht
    refine Br_eq c1 ?_
    (repeat (first | refine PtrSome_at ?_ | refine andOne ?_ | ((first | apply exSlice | apply exInt | apply exBool | apply exPtr | apply exVal | apply andCell | apply andBd | apply andCan | apply andThere); · exact tC_Kg) | (refine toSet ?_; refine tS_Kg H (fun w H => ?_)) | (refine toSets ?_; refine tG_Kg H (fun w H => ?_)) | refine H.drewK (fun w H => ?_) | refine H.allocK (fun w H => ?_)))
    (refine (slotLock a s p hs hp t u ht).go H [_, _] _ rfl (fun w H => ?_); (try simp only [List.cons_append, List.nil_append, List.append_assoc] at H); (first | refine ⟨_, rfl, ?_⟩ | refine ⟨rfl, ?_⟩ | refine ⟨_, _, _, _, rfl, ?_⟩ | refine ⟨_, _, rfl, ?_⟩))
    (try simp only [List.cons_append, List.nil_append, List.append_assoc, slotL] at H ⊢)
    (repeat (first | refine PtrSome_at ?_ | refine andOne ?_ | ((first | apply exSlice | apply exInt | apply exBool | apply exPtr | apply exVal | apply andCell | apply andBd | apply andCan | apply andThere); · exact tC_Kg) | (refine toSet ?_; refine tS_Kg H (fun w H => ?_)) | (refine toSets ?_; refine tG_Kg H (fun w H => ?_)) | refine H.drewK (fun w H => ?_) | refine H.allocK (fun w H => ?_)))
    (refine (seatEnd a.sa (s.lockS p t u).ss t (s.lockD p t u).ev).go H [_, _, _, _] _ rfl (fun w H => ?_); (try simp only [List.cons_append, List.nil_append, List.append_assoc] at H); (first | refine ⟨_, rfl, ?_⟩ | refine ⟨rfl, ?_⟩ | refine ⟨_, _, _, _, rfl, ?_⟩ | refine ⟨_, _, rfl, ?_⟩))
    (try simp only [List.cons_append, List.nil_append, List.append_assoc, slotL] at H ⊢)
    (repeat (first | refine PtrSome_at ?_ | refine andOne ?_ | ((first | apply exSlice | apply exInt | apply exBool | apply exPtr | apply exVal | apply andCell | apply andBd | apply andCan | apply andThere); · exact tC_Kg) | (refine toSet ?_; refine tS_Kg H (fun w H => ?_)) | (refine toSets ?_; refine tG_Kg H (fun w H => ?_)) | refine H.drewK (fun w H => ?_) | refine H.allocK (fun w H => ?_)))
    refine ⟨?_, H.tail.tail.to ?_⟩
    · simp [GS.stepE, c1]
    · simp [GS.stepS, GS.stepI, GS.stepE, GS.stepP, c1, slotL]
  · refine Br_neq c1 ?_
    by_cases c2 : s.ss.state t = 3
    · have ht := state_there c2 (by decide)
      obtain ⟨h1, h2⟩ := seat_there ht
      refine Br_eq c2 ?_
      (repeat (first | refine PtrSome_at ?_ | refine andOne ?_ | ((first | apply exSlice | apply exInt | apply exBool | apply exPtr | apply exVal | apply andCell | apply andBd | apply andCan | apply andThere); · exact tC_Kg) | (refine toSet ?_; refine tS_Kg H (fun w H => ?_)) | (refine toSets ?_; refine tG_Kg H (fun w H => ?_)) | refine H.drewK (fun w H => ?_) | refine H.allocK (fun w H => ?_)))
      (refine (slotSlot a s (IntKind.u32.wrap ((s.pl t).1 + 1))).go H [_, _] _ rfl (fun w H => ?_); (try simp only [List.cons_append, List.nil_append, List.append_assoc] at H); (first | refine ⟨_, rfl, ?_⟩ | refine ⟨rfl, ?_⟩ | refine ⟨_, _, _, _, rfl, ?_⟩ | refine ⟨_, _, rfl, ?_⟩))
      (try simp only [List.cons_append, List.nil_append, List.append_assoc, slotL] at H ⊢)
      (repeat (first | refine PtrSome_at ?_ | refine andOne ?_ | ((first | apply exSlice | apply exInt | apply exBool | apply exPtr | apply exVal | apply andCell | apply andBd | apply andCan | apply andThere); · exact tC_Kg) | (refine toSet ?_; refine tS_Kg H (fun w H => ?_)) | (refine toSets ?_; refine tG_Kg H (fun w H => ?_)) | refine H.drewK (fun w H => ?_) | refine H.allocK (fun w H => ?_)))
      (refine (portStore a.pa p hp u (s.slotA (IntKind.u32.wrap ((s.pl t).1 + 1))) 1).go H (_ :: _ :: _ :: _ :: seatL _ _) _ rfl (fun w H => ?_); (try simp only [List.cons_append, List.nil_append, List.append_assoc] at H); (first | refine ⟨_, rfl, ?_⟩ | refine ⟨rfl, ?_⟩ | refine ⟨_, _, _, _, rfl, ?_⟩ | refine ⟨_, _, rfl, ?_⟩))
      (repeat (first | refine PtrSome_at ?_ | refine andOne ?_ | ((first | apply exSlice | apply exInt | apply exBool | apply exPtr | apply exVal | apply andCell | apply andBd | apply andCan | apply andThere); · exact tC_Kg) | (refine toSet ?_; refine tS_Kg H (fun w H => ?_)) | (refine toSets ?_; refine tG_Kg H (fun w H => ?_)) | refine H.drewK (fun w H => ?_) | refine H.allocK (fun w H => ?_)))
      (refine (seatEnd a.sa s.ss t 3).go H [_, _, _, _] _ rfl (fun w H => ?_); (try simp only [List.cons_append, List.nil_append, List.append_assoc] at H); (first | refine ⟨_, rfl, ?_⟩ | refine ⟨rfl, ?_⟩ | refine ⟨_, _, _, _, rfl, ?_⟩ | refine ⟨_, _, rfl, ?_⟩))
      (try simp only [List.cons_append, List.nil_append, List.append_assoc, slotL] at H ⊢)
      (repeat (first | refine PtrSome_at ?_ | refine andOne ?_ | ((first | apply exSlice | apply exInt | apply exBool | apply exPtr | apply exVal | apply andCell | apply andBd | apply andCan | apply andThere); · exact tC_Kg) | (refine toSet ?_; refine tS_Kg H (fun w H => ?_)) | (refine toSets ?_; refine tG_Kg H (fun w H => ?_)) | refine H.drewK (fun w H => ?_) | refine H.allocK (fun w H => ?_)))
      refine ⟨?_, H.tail.tail.to ?_⟩
      · simp [GS.stepE, c2]
      · simp [GS.stepS, GS.stepI, GS.stepE, GS.stepP, c2, slotL]
    · refine Br_neq c2 ?_
      (repeat (first | refine PtrSome_at ?_ | refine andOne ?_ | ((first | apply exSlice | apply exInt | apply exBool | apply exPtr | apply exVal | apply andCell | apply andBd | apply andCan | apply andThere); · exact tC_Kg) | (refine toSet ?_; refine tS_Kg H (fun w H => ?_)) | (refine toSets ?_; refine tG_Kg H (fun w H => ?_)) | refine H.drewK (fun w H => ?_) | refine H.allocK (fun w H => ?_)))
      (refine (seatEnd a.sa s.ss t 0).go H [_, _, _, _] _ rfl (fun w H => ?_); (try simp only [List.cons_append, List.nil_append, List.append_assoc] at H); (first | refine ⟨_, rfl, ?_⟩ | refine ⟨rfl, ?_⟩ | refine ⟨_, _, _, _, rfl, ?_⟩ | refine ⟨_, _, rfl, ?_⟩))
      (try simp only [List.cons_append, List.nil_append, List.append_assoc, slotL] at H ⊢)
      (repeat (first | refine PtrSome_at ?_ | refine andOne ?_ | ((first | apply exSlice | apply exInt | apply exBool | apply exPtr | apply exVal | apply andCell | apply andBd | apply andCan | apply andThere); · exact tC_Kg) | (refine toSet ?_; refine tS_Kg H (fun w H => ?_)) | (refine toSets ?_; refine tG_Kg H (fun w H => ?_)) | refine H.drewK (fun w H => ?_) | refine H.allocK (fun w H => ?_)))
      refine ⟨?_, H.tail.tail.to ?_⟩
      · simp [GS.stepE, c1, c2]
      · simp [GS.stepS, GS.stepI, GS.stepE, GS.stepP, c1, c2, slotL]
end Go.Proofs.YtollfjfcdofbaaaGreat
