/- Contracts: the lock of Craig, Landin and Hagersten. -/
import Derived.Test.YtollfjfcdofbaaaGreatKg
namespace Go.Proofs.YtollfjfcdofbaaaGreat
open Go Go.Proofs
set_option linter.unusedSimpArgs false
set_option linter.unusedVariables false
set_option maxRecDepth 100000
set_option maxHeartbeats 4000000
-- NB 5
-- NORM clhL
-- ROW clRow 3

abbrev clRow (x : Int × Int × Int) : List Value := [(.int .i64 x.1), (.int .i64 x.2.1), (.int .i64 x.2.2)]
theorem clRow_set0 (xs : List (Int × Int × Int)) (i : Nat) (v : Int) : (rows clRow xs).set (0 + i * 3) (.int .i64 v) = rows clRow (xs.set i (v, (xs.getD i default).2.1, (xs.getD i default).2.2)) := rows_set0 (f := clRow) (s := 3) (fun _ => rfl) (by decide) xs i (v, (xs.getD i default).2.1, (xs.getD i default).2.2) rfl
theorem clRow_set1 (xs : List (Int × Int × Int)) (i : Nat) (v : Int) : (rows clRow xs).set (0 + i * 3 + 1) (.int .i64 v) = rows clRow (xs.set i ((xs.getD i default).1, v, (xs.getD i default).2.2)) := rows_set1 (f := clRow) (s := 3) (fun _ => rfl) (by decide) xs i ((xs.getD i default).1, v, (xs.getD i default).2.2) rfl
theorem clRow_set2 (xs : List (Int × Int × Int)) (i : Nat) (v : Int) : (rows clRow xs).set (0 + i * 3 + 2) (.int .i64 v) = rows clRow (xs.set i ((xs.getD i default).1, (xs.getD i default).2.1, v)) := rows_set1 (f := clRow) (s := 3) (fun _ => rfl) (by decide) xs i ((xs.getD i default).1, (xs.getD i default).2.1, v) rfl
theorem bkSets_clRow {w0 w : World} {S : List Nat} {L : Blocks} {b : Nat} {K : World → Prop} {xs : List (Int × Int × Int)} {j : Nat} {v0 : Int} {v1 : Int} {v2 : Int} (H : St w0 S w L) (i : Nat) (h : L[i]? = some (b, rows clRow xs)) (hj : j < xs.length) (k : ∀ w', St w0 S w' (L.set i (b, rows clRow (xs.set j (v0, v1, v2)))) → K w') : SetsG w b (0 + j * 3) [(.int .i64 v0), (.int .i64 v1), (.int .i64 v2)] K := St.setsR (f := clRow) (s := 3) (fun _ => rfl) H i h (v0, v1, v2) hj rfl (K := fun w' => K w') k _ rfl
structure HA where
  l : Nat
  rb : Nat
  rc : Nat
  sa : SA
  pa : PA
structure HS where
  ss : SS
  tail : Int
  places : List (Int × Int × Int)
  more : List Value
def clhL (a : HA) (s : HS) : Blocks := (a.l, [ptr a.sa.s, ptr a.pa.p, i64 s.tail, .slice (some ⟨a.rb, 0, none⟩) s.ss.l.length a.rc]) :: (a.rb, rows clRow s.places) :: seatL a.sa s.ss
def HS.wf (s : HS) : Prop := s.ss.l.length ≤ s.places.length
namespace HS
def flag (s : HS) (x : Int) : Int := IntKind.i64.wrap (IntKind.i64.wrap (s.tail + 1) + x)
def pl (s : HS) (t : Int) : Int × Int × Int := s.places.getD t.toNat default
def put (s : HS) (t : Int) (x : Int × Int × Int) : HS := { s with places := s.places.set t.toNat x }
def lockD (s : HS) (p : PS) (t u : Int) : Dd :=
  if (s.pl t).2.2 = 0 then { ev := 0 } else if (s.pl t).2.2 = 1 then { ev := 0, enq := true }
  else if (s.pl t).2.2 = 2 then (if p.loadV u (s.flag (s.pl t).2.1) = 0 then { ev := 1 } else { ev := 0 }) else { ev := 0 }
def lockS (s : HS) (p : PS) (t u : Int) : HS :=
  if (s.pl t).2.2 = 0 then s.put t ((s.pl t).1, (s.pl t).2.1, 1)
  else if (s.pl t).2.2 = 1 then s.put t ((s.pl t).1, IntKind.i64.wrap (p.loadV u s.tail), 2)
  else s
def lockP (s : HS) (p : PS) (t u : Int) : PS :=
  if (s.pl t).2.2 = 0 then p.store u (s.flag (s.pl t).1) 1 else if (s.pl t).2.2 = 1 then p.store u s.tail (IntKind.u32.wrap (s.pl t).1)
  else if (s.pl t).2.2 = 2 then p.load u (s.flag (s.pl t).2.1) else p
def stepE (s : HS) (p : PS) (t u : Int) : Dd :=
  if s.ss.state t = 1 then s.lockD p t u else if s.ss.state t = 3 then { ev := 3 }
  else if s.ss.state t = 4 then (if p.loadV u s.tail = IntKind.u32.wrap (s.pl t).1 then { ev := 4 } else { ev := 5 }) else { ev := 0 }
def stepI (s : HS) (p : PS) (t u : Int) : HS := if s.ss.state t = 1 then s.lockS p t u else if s.ss.state t = 3 then s.put t ((s.pl t).2.1, 0, 0) else s
def stepS (s : HS) (p : PS) (t u : Int) : HS := { s.stepI p t u with ss := (s.stepI p t u).ss.end_ t (s.stepE p t u).ev }
def stepP (s : HS) (p : PS) (t u : Int) : PS :=
  if s.ss.state t = 1 then s.lockP p t u else if s.ss.state t = 3 then p.store u (s.flag (s.pl t).1) 0
  else if s.ss.state t = 4 then p.load u s.tail else p
end HS
theorem tC_Kh {P : Prop} (h : P := by (first | ((first | refine bkCell (H.bkAt 0 rfl) ?_ | refine bkCell (H.bkAt 1 rfl) ?_ | refine bkCell (H.bkAt 2 rfl) ?_ | refine bkCell (H.bkAt 3 rfl) ?_ | refine bkCell (H.bkAt 4 rfl) ?_); (first | rfl | ((first | refine ints_at0 ?_ | refine bools_at0 ?_ | refine rows_at1 (f := accRow) (s := 2) (fun _ => rfl) (by decide) ?_ rfl | refine rows_at0 (f := accRow) (s := 2) (fun _ => rfl) (by decide) ?_ rfl | refine rows_at1 (f := clRow) (s := 3) (fun _ => rfl) (by decide) ?_ rfl | refine rows_at0 (f := clRow) (s := 3) (fun _ => rfl) (by decide) ?_ rfl); first | omega | assumption | (simp only [List.length_set, List.length_append, List.length_cons, List.length_nil, List.length_map, List.length_replicate, List.length_drop, List.length_take]; omega)))) | ((first | refine bkCan (H.bkAt 0 rfl) ?_ | refine bkCan (H.bkAt 1 rfl) ?_ | refine bkCan (H.bkAt 2 rfl) ?_ | refine bkCan (H.bkAt 3 rfl) ?_ | refine bkCan (H.bkAt 4 rfl) ?_); (first | decide | ((first | refine ints_lt ?_ | refine bools_lt ?_ | refine rows_lt1 (f := accRow) (s := 2) (fun _ => rfl) (by decide) ?_ | refine rows_lt0 (f := accRow) (s := 2) (fun _ => rfl) (by decide) ?_ | refine rows_lt1 (f := clRow) (s := 3) (fun _ => rfl) (by decide) ?_ | refine rows_lt0 (f := clRow) (s := 3) (fun _ => rfl) (by decide) ?_); first | omega | assumption | (simp only [List.length_set, List.length_append, List.length_cons, List.length_nil, List.length_map, List.length_replicate, List.length_drop, List.length_take]; omega)) | (simp only [List.length_cons, List.length_nil]; omega))) | ((first | refine bkThere (H.bkAt 0 rfl) ?_ | refine bkThere (H.bkAt 1 rfl) ?_ | refine bkThere (H.bkAt 2 rfl) ?_ | refine bkThere (H.bkAt 3 rfl) ?_ | refine bkThere (H.bkAt 4 rfl) ?_); (first | decide | (simp only [List.length_cons, List.length_nil]; omega) | (refine rows_le (f := accRow) (s := 2) (fun _ => rfl) ?_; first | omega | assumption | (simp only [List.length_set, List.length_append, List.length_cons, List.length_nil, List.length_map, List.length_replicate, List.length_drop, List.length_take]; omega)) | (refine rows_le (f := clRow) (s := 3) (fun _ => rfl) ?_; first | omega | assumption | (simp only [List.length_set, List.length_append, List.length_cons, List.length_nil, List.length_map, List.length_replicate, List.length_drop, List.length_take]; omega)))) | exact ⟨by omega, by omega⟩)) : P := h
theorem tS_Kh {w0 w : World} {S : List Nat} {L L' : Blocks} {b o : Nat} {v : Value} {K : World → Prop} (H : St w0 S w L) (k : ∀ w', St w0 S w' L' → K w') (h : SetG w b o v (fun w' => St w0 S w' L') := by ((first | refine bkSet H 0 rfl (fun w H => ?_) | refine bkSet H 1 rfl (fun w H => ?_) | refine bkSet H 2 rfl (fun w H => ?_) | refine bkSet H 3 rfl (fun w H => ?_) | refine bkSet H 4 rfl (fun w H => ?_)); (try simp only [List.set_cons_succ, List.set_cons_zero, ints_set0, bools_set0, pair_set0, pair_set1, clRow_set0, clRow_set1, clRow_set2] at H); exact H)) : SetG w b o v K := k _ h
theorem tG_Kh {w0 w : World} {S : List Nat} {L L' : Blocks} {b o : Nat} {vs : List Value} {K : World → Prop} (H : St w0 S w L) (k : ∀ w', St w0 S w' L' → K w') (h : SetsG w b o vs (fun w' => St w0 S w' L') := by ((first | refine bkSetsF H 0 rfl rfl (fun w H => ?_) | refine bkSetsF H 1 rfl rfl (fun w H => ?_) | refine bkSetsF H 2 rfl rfl (fun w H => ?_) | refine bkSetsF H 3 rfl rfl (fun w H => ?_) | refine bkSetsF H 4 rfl rfl (fun w H => ?_) | (refine bkSetsP H 0 rfl ?_ (fun w H => ?_); · first | omega | assumption | (simp only [List.length_set, List.length_append, List.length_cons, List.length_nil, List.length_map, List.length_replicate, List.length_drop, List.length_take]; omega)) | (refine bkSetsP H 1 rfl ?_ (fun w H => ?_); · first | omega | assumption | (simp only [List.length_set, List.length_append, List.length_cons, List.length_nil, List.length_map, List.length_replicate, List.length_drop, List.length_take]; omega)) | (refine bkSetsP H 2 rfl ?_ (fun w H => ?_); · first | omega | assumption | (simp only [List.length_set, List.length_append, List.length_cons, List.length_nil, List.length_map, List.length_replicate, List.length_drop, List.length_take]; omega)) | (refine bkSetsP H 3 rfl ?_ (fun w H => ?_); · first | omega | assumption | (simp only [List.length_set, List.length_append, List.length_cons, List.length_nil, List.length_map, List.length_replicate, List.length_drop, List.length_take]; omega)) | (refine bkSetsP H 4 rfl ?_ (fun w H => ?_); · first | omega | assumption | (simp only [List.length_set, List.length_append, List.length_cons, List.length_nil, List.length_map, List.length_replicate, List.length_drop, List.length_take]; omega)) | (refine bkSets_clRow H 0 rfl ?_ (fun w H => ?_); · first | omega | assumption | (simp only [List.length_set, List.length_append, List.length_cons, List.length_nil, List.length_map, List.length_replicate, List.length_drop, List.length_take]; omega)) | (refine bkSets_clRow H 1 rfl ?_ (fun w H => ?_); · first | omega | assumption | (simp only [List.length_set, List.length_append, List.length_cons, List.length_nil, List.length_map, List.length_replicate, List.length_drop, List.length_take]; omega)) | (refine bkSets_clRow H 2 rfl ?_ (fun w H => ?_); · first | omega | assumption | (simp only [List.length_set, List.length_append, List.length_cons, List.length_nil, List.length_map, List.length_replicate, List.length_drop, List.length_take]; omega)) | (refine bkSets_clRow H 3 rfl ?_ (fun w H => ?_); · first | omega | assumption | (simp only [List.length_set, List.length_append, List.length_cons, List.length_nil, List.length_map, List.length_replicate, List.length_drop, List.length_take]; omega)) | (refine bkSets_clRow H 4 rfl ?_ (fun w H => ?_); · first | omega | assumption | (simp only [List.length_set, List.length_append, List.length_cons, List.length_nil, List.length_map, List.length_replicate, List.length_drop, List.length_take]; omega))); (try simp only [List.set_cons_succ, List.set_cons_zero, ints_set0, bools_set0, pair_set0, pair_set1, clRow_set0, clRow_set1, clRow_set2] at H); exact H)) : SetsG w b o vs K := k _ h
theorem clhFlag (a : HA) (s : HS) (x : Int) : Sp Tryz.prog 298 #[ptr a.l, i64 x] (clhL a s) (i64 (s.flag x)) (clhL a s) := by
  intro w0 S w B H
  refine callsClhLock_flag _ _ _ _ ?_
  unfold preClhLock_flag
  (try simp only [List.cons_append, List.nil_append, List.append_assoc, clhL] at H ⊢)
  (repeat (first | refine PtrSome_at ?_ | refine andOne ?_ | ((first | apply exSlice | apply exInt | apply exBool | apply exPtr | apply exVal | apply andCell | apply andBd | apply andCan | apply andThere); · exact tC_Kh) | (refine toSet ?_; refine tS_Kh H (fun w H => ?_)) | (refine toSets ?_; refine tG_Kh H (fun w H => ?_)) | refine H.drewK (fun w H => ?_) | refine H.allocK (fun w H => ?_)))
  exact ⟨rfl, H⟩
theorem clhLock (a : HA) (s : HS) (p : PS) (hs : s.wf) (hp : p.wf) (t u : Int) (ht : s.ss.there t = true) :
    Sp Tryz.prog 297 #[ptr a.l, .pointer (some ⟨a.rb, 0 + t.toNat * 3, none⟩), i64 u] (clhL a s ++ portL a.pa p) (didV (s.lockD p t u)) (clhL a (s.lockS p t u) ++ portL a.pa (s.lockP p t u)) := by
  intro w0 S w B H
  obtain ⟨h1, h2⟩ := seat_there ht
  have e1 : s.ss.l.length ≤ s.places.length := hs
  have e2 : t.toNat < s.places.length := by omega
  (try simp only [List.cons_append, List.nil_append, List.append_assoc, clhL] at H ⊢)
  refine callsClhLock_lock _ _ _ _ _ _ ?_
  unfold preClhLock_lock HS.lockD HS.lockS HS.lockP
  (repeat (first | refine PtrSome_at ?_ | refine andOne ?_ | ((first | apply exSlice | apply exInt | apply exBool | apply exPtr | apply exVal | apply andCell | apply andBd | apply andCan | apply andThere); · exact tC_Kh) | (refine toSet ?_; refine tS_Kh H (fun w H => ?_)) | (refine toSets ?_; refine tG_Kh H (fun w H => ?_)) | refine H.drewK (fun w H => ?_) | refine H.allocK (fun w H => ?_)))
  by_cases c1 : (s.pl t).2.2 = 0
  · refine Br_eq c1 ?_
    (repeat (first | refine PtrSome_at ?_ | refine andOne ?_ | ((first | apply exSlice | apply exInt | apply exBool | apply exPtr | apply exVal | apply andCell | apply andBd | apply andCan | apply andThere); · exact tC_Kh) | (refine toSet ?_; refine tS_Kh H (fun w H => ?_)) | (refine toSets ?_; refine tG_Kh H (fun w H => ?_)) | refine H.drewK (fun w H => ?_) | refine H.allocK (fun w H => ?_)))
    (refine (clhFlag a s (s.pl t).1).go H [_] _ rfl (fun w H => ?_); (try simp only [List.cons_append, List.nil_append, List.append_assoc] at H); (first | refine ⟨_, rfl, ?_⟩ | refine ⟨rfl, ?_⟩ | refine ⟨_, _, _, _, rfl, ?_⟩ | refine ⟨_, _, rfl, ?_⟩))
    (try simp only [List.cons_append, List.nil_append, List.append_assoc, clhL] at H ⊢)
    (repeat (first | refine PtrSome_at ?_ | refine andOne ?_ | ((first | apply exSlice | apply exInt | apply exBool | apply exPtr | apply exVal | apply andCell | apply andBd | apply andCan | apply andThere); · exact tC_Kh) | (refine toSet ?_; refine tS_Kh H (fun w H => ?_)) | (refine toSets ?_; refine tG_Kh H (fun w H => ?_)) | refine H.drewK (fun w H => ?_) | refine H.allocK (fun w H => ?_)))
    (refine (portStore a.pa p hp u (s.flag (s.pl t).1) 1).go H (_ :: _ :: _ :: seatL _ _) _ rfl (fun w H => ?_); (try simp only [List.cons_append, List.nil_append, List.append_assoc] at H); (first | refine ⟨_, rfl, ?_⟩ | refine ⟨rfl, ?_⟩ | refine ⟨_, _, _, _, rfl, ?_⟩ | refine ⟨_, _, rfl, ?_⟩))
    (repeat (first | refine PtrSome_at ?_ | refine andOne ?_ | ((first | apply exSlice | apply exInt | apply exBool | apply exPtr | apply exVal | apply andCell | apply andBd | apply andCan | apply andThere); · exact tC_Kh) | (refine toSet ?_; refine tS_Kh H (fun w H => ?_)) | (refine toSets ?_; refine tG_Kh H (fun w H => ?_)) | refine H.drewK (fun w H => ?_) | refine H.allocK (fun w H => ?_)))
    refine ⟨?_, H.tail.to ?_⟩
    · simp only [if_pos c1]
    · simp only [if_pos c1]
      simp [clhL, HS.put, HS.pl]
  · refine Br_neq c1 ?_
    by_cases c2 : (s.pl t).2.2 = 1
    · refine Br_eq c2 ?_
      (repeat (first | refine PtrSome_at ?_ | refine andOne ?_ | ((first | apply exSlice | apply exInt | apply exBool | apply exPtr | apply exVal | apply andCell | apply andBd | apply andCan | apply andThere); · exact tC_Kh) | (refine toSet ?_; refine tS_Kh H (fun w H => ?_)) | (refine toSets ?_; refine tG_Kh H (fun w H => ?_)) | refine H.drewK (fun w H => ?_) | refine H.allocK (fun w H => ?_)))
      (refine (portSwap a.pa p hp u s.tail (IntKind.u32.wrap (s.pl t).1)).go H (_ :: _ :: _ :: seatL _ _) _ rfl (fun w H => ?_); (try simp only [List.cons_append, List.nil_append, List.append_assoc] at H); (first | refine ⟨_, rfl, ?_⟩ | refine ⟨rfl, ?_⟩ | refine ⟨_, _, _, _, rfl, ?_⟩ | refine ⟨_, _, rfl, ?_⟩))
      (repeat (first | refine PtrSome_at ?_ | refine andOne ?_ | ((first | apply exSlice | apply exInt | apply exBool | apply exPtr | apply exVal | apply andCell | apply andBd | apply andCan | apply andThere); · exact tC_Kh) | (refine toSet ?_; refine tS_Kh H (fun w H => ?_)) | (refine toSets ?_; refine tG_Kh H (fun w H => ?_)) | refine H.drewK (fun w H => ?_) | refine H.allocK (fun w H => ?_)))
      refine ⟨?_, H.tail.to ?_⟩
      · simp only [if_neg c1, if_pos c2]
      · simp only [if_neg c1, if_pos c2]
        simp [clhL, HS.put, HS.pl, e2]
    · refine Br_neq c2 ?_
      by_cases c3 : (s.pl t).2.2 = 2
      · refine Br_eq c3 ?_
        (repeat (first | refine PtrSome_at ?_ | refine andOne ?_ | ((first | apply exSlice | apply exInt | apply exBool | apply exPtr | apply exVal | apply andCell | apply andBd | apply andCan | apply andThere); · exact tC_Kh) | (refine toSet ?_; refine tS_Kh H (fun w H => ?_)) | (refine toSets ?_; refine tG_Kh H (fun w H => ?_)) | refine H.drewK (fun w H => ?_) | refine H.allocK (fun w H => ?_)))
        (refine (clhFlag a s (s.pl t).2.1).go H [_] _ rfl (fun w H => ?_); (try simp only [List.cons_append, List.nil_append, List.append_assoc] at H); (first | refine ⟨_, rfl, ?_⟩ | refine ⟨rfl, ?_⟩ | refine ⟨_, _, _, _, rfl, ?_⟩ | refine ⟨_, _, rfl, ?_⟩))
        (try simp only [List.cons_append, List.nil_append, List.append_assoc, clhL] at H ⊢)
        (repeat (first | refine PtrSome_at ?_ | refine andOne ?_ | ((first | apply exSlice | apply exInt | apply exBool | apply exPtr | apply exVal | apply andCell | apply andBd | apply andCan | apply andThere); · exact tC_Kh) | (refine toSet ?_; refine tS_Kh H (fun w H => ?_)) | (refine toSets ?_; refine tG_Kh H (fun w H => ?_)) | refine H.drewK (fun w H => ?_) | refine H.allocK (fun w H => ?_)))
        (refine (portLoad a.pa p hp u (s.flag (s.pl t).2.1)).go H (_ :: _ :: _ :: seatL _ _) _ rfl (fun w H => ?_); (try simp only [List.cons_append, List.nil_append, List.append_assoc] at H); (first | refine ⟨_, rfl, ?_⟩ | refine ⟨rfl, ?_⟩ | refine ⟨_, _, _, _, rfl, ?_⟩ | refine ⟨_, _, rfl, ?_⟩))
        by_cases c4 : p.loadV u (s.flag (s.pl t).2.1) = 0
        · refine Br_eq c4 ?_
          (repeat (first | refine PtrSome_at ?_ | refine andOne ?_ | ((first | apply exSlice | apply exInt | apply exBool | apply exPtr | apply exVal | apply andCell | apply andBd | apply andCan | apply andThere); · exact tC_Kh) | (refine toSet ?_; refine tS_Kh H (fun w H => ?_)) | (refine toSets ?_; refine tG_Kh H (fun w H => ?_)) | refine H.drewK (fun w H => ?_) | refine H.allocK (fun w H => ?_)))
          refine ⟨?_, H.tail.to ?_⟩
          · simp only [if_neg c1, if_neg c2, if_pos c3, if_pos c4]
          · simp only [if_neg c1, if_neg c2, if_pos c3]
            all_goals simp [clhL]
        · refine Br_neq c4 ?_
          (repeat (first | refine PtrSome_at ?_ | refine andOne ?_ | ((first | apply exSlice | apply exInt | apply exBool | apply exPtr | apply exVal | apply andCell | apply andBd | apply andCan | apply andThere); · exact tC_Kh) | (refine toSet ?_; refine tS_Kh H (fun w H => ?_)) | (refine toSets ?_; refine tG_Kh H (fun w H => ?_)) | refine H.drewK (fun w H => ?_) | refine H.allocK (fun w H => ?_)))
          refine ⟨?_, H.tail.to ?_⟩
          · simp only [if_neg c1, if_neg c2, if_pos c3, if_neg c4]
          · simp only [if_neg c1, if_neg c2, if_pos c3]
            all_goals simp [clhL]
      · refine Br_neq c3 ?_
        (repeat (first | refine PtrSome_at ?_ | refine andOne ?_ | ((first | apply exSlice | apply exInt | apply exBool | apply exPtr | apply exVal | apply andCell | apply andBd | apply andCan | apply andThere); · exact tC_Kh) | (refine toSet ?_; refine tS_Kh H (fun w H => ?_)) | (refine toSets ?_; refine tG_Kh H (fun w H => ?_)) | refine H.drewK (fun w H => ?_) | refine H.allocK (fun w H => ?_)))
        refine ⟨?_, H.tail.to ?_⟩
        · simp only [if_neg c1, if_neg c2, if_neg c3]
        · simp only [if_neg c1, if_neg c2, if_neg c3]
          all_goals simp [clhL]
theorem clhUse (a : HA) (s : HS) (C : Value) : Sp Tryz.prog 296 #[ptr a.l, ptr a.pa.p]
    ((a.l, [ptr a.sa.s, C, i64 s.tail, .slice (some ⟨a.rb, 0, none⟩) s.ss.l.length a.rc]) :: (a.rb, rows clRow s.places) :: seatL a.sa s.ss) (.tuple #[]) (clhL a s) := by
  intro w0 S w B H
  simp only [List.cons_append, List.nil_append, List.append_assoc] at H
  refine callsClhLockUse _ _ _ _ ?_
  unfold preClhLockUse
  (repeat' (first | (first | refine PtrSome_at ?_ | refine andOne ?_ | ((first | apply exSlice | apply exInt | apply exBool | apply exPtr | apply exVal | apply andCell | apply andBd | apply andCan | apply andThere); · exact tC_Kh) | (refine toSet ?_; refine tS_Kh H (fun w H => ?_)) | (refine toSets ?_; refine tG_Kh H (fun w H => ?_)) | refine H.drewK (fun w H => ?_) | refine H.allocK (fun w H => ?_)) | (refine Br_split (fun h => ?_) (fun h => ?_) <;> (try simp only [decide_eq_true_eq, decide_eq_false_iff_not, Bool.not_eq_true', Bool.not_eq_false', bne_iff_ne, beq_iff_eq, bne_eq_false_iff_eq, beq_eq_false_iff_ne, Bool.not_eq_true, Bool.not_eq_false] at h))))
  exact ⟨rfl, H⟩
theorem clhStep (a : HA) (s : HS) (p : PS) (hs : s.wf) (hp : p.wf) (t u now : Int) :
    Sp Tryz.prog 295 #[ptr a.l, i64 t, i64 u, i64 now] (clhL a s ++ portL a.pa p) (didV (s.stepE p t u)) (clhL a (s.stepS p t u) ++ portL a.pa (s.stepP p t u)) := by
  intro w0 S w B H
  have e1 : s.ss.l.length ≤ s.places.length := hs
  (try simp only [List.cons_append, List.nil_append, List.append_assoc, clhL] at H ⊢)
  refine callsClhLockStep _ _ _ _ _ _ ?_
  unfold preClhLockStep
  (repeat (first | refine PtrSome_at ?_ | refine andOne ?_ | ((first | apply exSlice | apply exInt | apply exBool | apply exPtr | apply exVal | apply andCell | apply andBd | apply andCan | apply andThere); · exact tC_Kh) | (refine toSet ?_; refine tS_Kh H (fun w H => ?_)) | (refine toSets ?_; refine tG_Kh H (fun w H => ?_)) | refine H.drewK (fun w H => ?_) | refine H.allocK (fun w H => ?_)))
  (refine (seatState a.sa s.ss t).go H [_, _, _, _] _ rfl (fun w H => ?_); (try simp only [List.cons_append, List.nil_append, List.append_assoc] at H); (first | refine ⟨_, rfl, ?_⟩ | refine ⟨rfl, ?_⟩ | refine ⟨_, _, _, _, rfl, ?_⟩ | refine ⟨_, _, rfl, ?_⟩))
  by_cases c1 : s.ss.state t = 1
  · have ht := state_there c1 (by decide)
    obtain ⟨h1, h2⟩ := seat_there ht
    refine Br_eq c1 ?_
    (repeat (first | refine PtrSome_at ?_ | refine andOne ?_ | ((first | apply exSlice | apply exInt | apply exBool | apply exPtr | apply exVal | apply andCell | apply andBd | apply andCan | apply andThere); · exact tC_Kh) | (refine toSet ?_; refine tS_Kh H (fun w H => ?_)) | (refine toSets ?_; refine tG_Kh H (fun w H => ?_)) | refine H.drewK (fun w H => ?_) | refine H.allocK (fun w H => ?_)))
    (refine (clhLock a s p hs hp t u ht).go H [_, _] _ rfl (fun w H => ?_); (try simp only [List.cons_append, List.nil_append, List.append_assoc] at H); (first | refine ⟨_, rfl, ?_⟩ | refine ⟨rfl, ?_⟩ | refine ⟨_, _, _, _, rfl, ?_⟩ | refine ⟨_, _, rfl, ?_⟩))
    (try simp only [List.cons_append, List.nil_append, List.append_assoc, clhL] at H ⊢)
    (repeat (first | refine PtrSome_at ?_ | refine andOne ?_ | ((first | apply exSlice | apply exInt | apply exBool | apply exPtr | apply exVal | apply andCell | apply andBd | apply andCan | apply andThere); · exact tC_Kh) | (refine toSet ?_; refine tS_Kh H (fun w H => ?_)) | (refine toSets ?_; refine tG_Kh H (fun w H => ?_)) | refine H.drewK (fun w H => ?_) | refine H.allocK (fun w H => ?_)))
    (refine (seatEnd a.sa (s.lockS p t u).ss t (s.lockD p t u).ev).go H [_, _, _, _] _ rfl (fun w H => ?_); (try simp only [List.cons_append, List.nil_append, List.append_assoc] at H); (first | refine ⟨_, rfl, ?_⟩ | refine ⟨rfl, ?_⟩ | refine ⟨_, _, _, _, rfl, ?_⟩ | refine ⟨_, _, rfl, ?_⟩))
    (try simp only [List.cons_append, List.nil_append, List.append_assoc, clhL] at H ⊢)
    (repeat (first | refine PtrSome_at ?_ | refine andOne ?_ | ((first | apply exSlice | apply exInt | apply exBool | apply exPtr | apply exVal | apply andCell | apply andBd | apply andCan | apply andThere); · exact tC_Kh) | (refine toSet ?_; refine tS_Kh H (fun w H => ?_)) | (refine toSets ?_; refine tG_Kh H (fun w H => ?_)) | refine H.drewK (fun w H => ?_) | refine H.allocK (fun w H => ?_)))
    refine ⟨?_, H.tail.tail.to ?_⟩
    · simp [HS.stepE, c1]
    · simp [HS.stepS, HS.stepI, HS.stepE, HS.stepP, c1, clhL]
  · refine Br_neq c1 ?_
    by_cases c2 : s.ss.state t = 3
    · have ht := state_there c2 (by decide)
      obtain ⟨h1, h2⟩ := seat_there ht
      refine Br_eq c2 ?_
      (repeat (first | refine PtrSome_at ?_ | refine andOne ?_ | ((first | apply exSlice | apply exInt | apply exBool | apply exPtr | apply exVal | apply andCell | apply andBd | apply andCan | apply andThere); · exact tC_Kh) | (refine toSet ?_; refine tS_Kh H (fun w H => ?_)) | (refine toSets ?_; refine tG_Kh H (fun w H => ?_)) | refine H.drewK (fun w H => ?_) | refine H.allocK (fun w H => ?_)))
      (refine (clhFlag a s (s.pl t).1).go H [_, _, _] _ rfl (fun w H => ?_); (try simp only [List.cons_append, List.nil_append, List.append_assoc] at H); (first | refine ⟨_, rfl, ?_⟩ | refine ⟨rfl, ?_⟩ | refine ⟨_, _, _, _, rfl, ?_⟩ | refine ⟨_, _, rfl, ?_⟩))
      (try simp only [List.cons_append, List.nil_append, List.append_assoc, clhL] at H ⊢)
      (repeat (first | refine PtrSome_at ?_ | refine andOne ?_ | ((first | apply exSlice | apply exInt | apply exBool | apply exPtr | apply exVal | apply andCell | apply andBd | apply andCan | apply andThere); · exact tC_Kh) | (refine toSet ?_; refine tS_Kh H (fun w H => ?_)) | (refine toSets ?_; refine tG_Kh H (fun w H => ?_)) | refine H.drewK (fun w H => ?_) | refine H.allocK (fun w H => ?_)))
      (refine (portStore a.pa p hp u (s.flag (s.pl t).1) 0).go H (_ :: _ :: _ :: _ :: _ :: seatL _ _) _ rfl (fun w H => ?_); (try simp only [List.cons_append, List.nil_append, List.append_assoc] at H); (first | refine ⟨_, rfl, ?_⟩ | refine ⟨rfl, ?_⟩ | refine ⟨_, _, _, _, rfl, ?_⟩ | refine ⟨_, _, rfl, ?_⟩))
      (repeat (first | refine PtrSome_at ?_ | refine andOne ?_ | ((first | apply exSlice | apply exInt | apply exBool | apply exPtr | apply exVal | apply andCell | apply andBd | apply andCan | apply andThere); · exact tC_Kh) | (refine toSet ?_; refine tS_Kh H (fun w H => ?_)) | (refine toSets ?_; refine tG_Kh H (fun w H => ?_)) | refine H.drewK (fun w H => ?_) | refine H.allocK (fun w H => ?_)))
      (refine (seatEnd a.sa s.ss t 3).go H [_, _, _, _, _] _ rfl (fun w H => ?_); (try simp only [List.cons_append, List.nil_append, List.append_assoc] at H); (first | refine ⟨_, rfl, ?_⟩ | refine ⟨rfl, ?_⟩ | refine ⟨_, _, _, _, rfl, ?_⟩ | refine ⟨_, _, rfl, ?_⟩))
      (try simp only [List.cons_append, List.nil_append, List.append_assoc, clhL] at H ⊢)
      (repeat (first | refine PtrSome_at ?_ | refine andOne ?_ | ((first | apply exSlice | apply exInt | apply exBool | apply exPtr | apply exVal | apply andCell | apply andBd | apply andCan | apply andThere); · exact tC_Kh) | (refine toSet ?_; refine tS_Kh H (fun w H => ?_)) | (refine toSets ?_; refine tG_Kh H (fun w H => ?_)) | refine H.drewK (fun w H => ?_) | refine H.allocK (fun w H => ?_)))
      refine ⟨?_, H.tail.tail.tail.to ?_⟩
      · simp [HS.stepE, c2]
      · simp [HS.stepS, HS.stepI, HS.stepE, HS.stepP, c2, clhL, HS.put, HS.pl]
    · refine Br_neq c2 ?_
      by_cases c3 : s.ss.state t = 4
      · have ht := state_there c3 (by decide)
        obtain ⟨h1, h2⟩ := seat_there ht
        refine Br_eq c3 ?_
        (repeat (first | refine PtrSome_at ?_ | refine andOne ?_ | ((first | apply exSlice | apply exInt | apply exBool | apply exPtr | apply exVal | apply andCell | apply andBd | apply andCan | apply andThere); · exact tC_Kh) | (refine toSet ?_; refine tS_Kh H (fun w H => ?_)) | (refine toSets ?_; refine tG_Kh H (fun w H => ?_)) | refine H.drewK (fun w H => ?_) | refine H.allocK (fun w H => ?_)))
        (refine (portLoad a.pa p hp u s.tail).go H (_ :: _ :: _ :: _ :: seatL _ _) _ rfl (fun w H => ?_); (try simp only [List.cons_append, List.nil_append, List.append_assoc] at H); (first | refine ⟨_, rfl, ?_⟩ | refine ⟨rfl, ?_⟩ | refine ⟨_, _, _, _, rfl, ?_⟩ | refine ⟨_, _, rfl, ?_⟩))
        (repeat (first | refine PtrSome_at ?_ | refine andOne ?_ | ((first | apply exSlice | apply exInt | apply exBool | apply exPtr | apply exVal | apply andCell | apply andBd | apply andCan | apply andThere); · exact tC_Kh) | (refine toSet ?_; refine tS_Kh H (fun w H => ?_)) | (refine toSets ?_; refine tG_Kh H (fun w H => ?_)) | refine H.drewK (fun w H => ?_) | refine H.allocK (fun w H => ?_)))
        by_cases c4 : p.loadV u s.tail = IntKind.u32.wrap (s.pl t).1
        · refine Br_eq c4 ?_
          (repeat (first | refine PtrSome_at ?_ | refine andOne ?_ | ((first | apply exSlice | apply exInt | apply exBool | apply exPtr | apply exVal | apply andCell | apply andBd | apply andCan | apply andThere); · exact tC_Kh) | (refine toSet ?_; refine tS_Kh H (fun w H => ?_)) | (refine toSets ?_; refine tG_Kh H (fun w H => ?_)) | refine H.drewK (fun w H => ?_) | refine H.allocK (fun w H => ?_)))
          (refine (seatEnd a.sa s.ss t 4).go H [_, _, _, _] _ rfl (fun w H => ?_); (try simp only [List.cons_append, List.nil_append, List.append_assoc] at H); (first | refine ⟨_, rfl, ?_⟩ | refine ⟨rfl, ?_⟩ | refine ⟨_, _, _, _, rfl, ?_⟩ | refine ⟨_, _, rfl, ?_⟩))
          (try simp only [List.cons_append, List.nil_append, List.append_assoc, clhL] at H ⊢)
          (repeat (first | refine PtrSome_at ?_ | refine andOne ?_ | ((first | apply exSlice | apply exInt | apply exBool | apply exPtr | apply exVal | apply andCell | apply andBd | apply andCan | apply andThere); · exact tC_Kh) | (refine toSet ?_; refine tS_Kh H (fun w H => ?_)) | (refine toSets ?_; refine tG_Kh H (fun w H => ?_)) | refine H.drewK (fun w H => ?_) | refine H.allocK (fun w H => ?_)))
          refine ⟨?_, H.tail.tail.to ?_⟩
          · simp [HS.stepE, c3, c4]
          · simp [HS.stepS, HS.stepI, HS.stepE, HS.stepP, c3, c4, clhL]
        · refine Br_neq c4 ?_
          (repeat (first | refine PtrSome_at ?_ | refine andOne ?_ | ((first | apply exSlice | apply exInt | apply exBool | apply exPtr | apply exVal | apply andCell | apply andBd | apply andCan | apply andThere); · exact tC_Kh) | (refine toSet ?_; refine tS_Kh H (fun w H => ?_)) | (refine toSets ?_; refine tG_Kh H (fun w H => ?_)) | refine H.drewK (fun w H => ?_) | refine H.allocK (fun w H => ?_)))
          (refine (seatEnd a.sa s.ss t 5).go H [_, _, _, _] _ rfl (fun w H => ?_); (try simp only [List.cons_append, List.nil_append, List.append_assoc] at H); (first | refine ⟨_, rfl, ?_⟩ | refine ⟨rfl, ?_⟩ | refine ⟨_, _, _, _, rfl, ?_⟩ | refine ⟨_, _, rfl, ?_⟩))
          (try simp only [List.cons_append, List.nil_append, List.append_assoc, clhL] at H ⊢)
          (repeat (first | refine PtrSome_at ?_ | refine andOne ?_ | ((first | apply exSlice | apply exInt | apply exBool | apply exPtr | apply exVal | apply andCell | apply andBd | apply andCan | apply andThere); · exact tC_Kh) | (refine toSet ?_; refine tS_Kh H (fun w H => ?_)) | (refine toSets ?_; refine tG_Kh H (fun w H => ?_)) | refine H.drewK (fun w H => ?_) | refine H.allocK (fun w H => ?_)))
          refine ⟨?_, H.tail.tail.to ?_⟩
          · simp [HS.stepE, c3, c4]
          · simp [HS.stepS, HS.stepI, HS.stepE, HS.stepP, c3, c4, clhL]
      · refine Br_neq c3 ?_
        (repeat (first | refine PtrSome_at ?_ | refine andOne ?_ | ((first | apply exSlice | apply exInt | apply exBool | apply exPtr | apply exVal | apply andCell | apply andBd | apply andCan | apply andThere); · exact tC_Kh) | (refine toSet ?_; refine tS_Kh H (fun w H => ?_)) | (refine toSets ?_; refine tG_Kh H (fun w H => ?_)) | refine H.drewK (fun w H => ?_) | refine H.allocK (fun w H => ?_)))
        (refine (seatEnd a.sa s.ss t 0).go H [_, _, _, _] _ rfl (fun w H => ?_); (try simp only [List.cons_append, List.nil_append, List.append_assoc] at H); (first | refine ⟨_, rfl, ?_⟩ | refine ⟨rfl, ?_⟩ | refine ⟨_, _, _, _, rfl, ?_⟩ | refine ⟨_, _, rfl, ?_⟩))
        (try simp only [List.cons_append, List.nil_append, List.append_assoc, clhL] at H ⊢)
        (repeat (first | refine PtrSome_at ?_ | refine andOne ?_ | ((first | apply exSlice | apply exInt | apply exBool | apply exPtr | apply exVal | apply andCell | apply andBd | apply andCan | apply andThere); · exact tC_Kh) | (refine toSet ?_; refine tS_Kh H (fun w H => ?_)) | (refine toSets ?_; refine tG_Kh H (fun w H => ?_)) | refine H.drewK (fun w H => ?_) | refine H.allocK (fun w H => ?_)))
        refine ⟨?_, H.tail.tail.to ?_⟩
        · simp [HS.stepE, c1, c2, c3]
        · simp [HS.stepS, HS.stepI, HS.stepE, HS.stepP, c1, c2, c3, clhL]
end Go.Proofs.YtollfjfcdofbaaaGreat
