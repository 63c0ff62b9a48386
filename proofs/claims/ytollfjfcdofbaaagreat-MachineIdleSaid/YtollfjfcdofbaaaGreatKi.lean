/- Contracts: the lock of Mellor-Crummey and Scott. -/
import Derived.Test.YtollfjfcdofbaaaGreatKh
namespace Go.Proofs.YtollfjfcdofbaaaGreat
open Go Go.Proofs
set_option linter.unusedSimpArgs false
set_option linter.unusedVariables false
set_option maxRecDepth 100000
set_option maxHeartbeats 4000000
-- NB 5
-- NORM mcsL
-- ROW mcRow 2

abbrev mcRow (x : Int × Int) : List Value := [(.int .i64 x.1), (.int .u32 x.2)]
theorem mcRow_set0 (xs : List (Int × Int)) (i : Nat) (v : Int) : (rows mcRow xs).set (0 + i * 2) (.int .i64 v) = rows mcRow (xs.set i (v, (xs.getD i default).2)) := rows_set0 (f := mcRow) (s := 2) (fun _ => rfl) (by decide) xs i (v, (xs.getD i default).2) rfl
theorem mcRow_set1 (xs : List (Int × Int)) (i : Nat) (v : Int) : (rows mcRow xs).set (0 + i * 2 + 1) (.int .u32 v) = rows mcRow (xs.set i ((xs.getD i default).1, v)) := rows_set1 (f := mcRow) (s := 2) (fun _ => rfl) (by decide) xs i ((xs.getD i default).1, v) rfl
theorem bkSets_mcRow {w0 w : World} {S : List Nat} {L : Blocks} {b : Nat} {K : World → Prop} {xs : List (Int × Int)} {j : Nat} {v0 : Int} {v1 : Int} (H : St w0 S w L) (i : Nat) (h : L[i]? = some (b, rows mcRow xs)) (hj : j < xs.length) (k : ∀ w', St w0 S w' (L.set i (b, rows mcRow (xs.set j (v0, v1)))) → K w') : SetsG w b (0 + j * 2) [(.int .i64 v0), (.int .u32 v1)] K := St.setsR (f := mcRow) (s := 2) (fun _ => rfl) H i h (v0, v1) hj rfl (K := fun w' => K w') k _ rfl
structure IA where
  l : Nat
  rb : Nat
  sa : SA
  pa : PA
structure IS where
  ss : SS
  tail : Int
  places : List (Int × Int)
def mcsL (a : IA) (s : IS) : Blocks := (a.l, [ptr a.sa.s, ptr a.pa.p, i64 s.tail, slv a.rb s.ss.l.length]) :: (a.rb, rows mcRow s.places) :: seatL a.sa s.ss
def IS.wf (s : IS) : Prop := s.places.length = s.ss.l.length
namespace IS
def next (s : IS) (x : Int) : Int := IntKind.i64.wrap (IntKind.i64.wrap (s.tail + IntKind.i64.wrap (2 * IntKind.i64.wrap x)) - 1)
def pl (s : IS) (t : Int) : Int × Int := s.places.getD t.toNat default
def put (s : IS) (t : Int) (x : Int × Int) : IS := { s with places := s.places.set t.toNat x }
def up (s : IS) (t : Int) : Int := minI (IntKind.i64.wrap ((s.pl t).1 + 1)) 4
def number (t : Int) : Int := IntKind.u32.wrap (IntKind.i64.wrap (t + 1))
def lockD (s : IS) (p : PS) (t n u : Int) : Dd :=
  if (s.pl t).1 = 1 then (if p.loadV u s.tail = 0 then { ev := 1, enq := true } else { ev := 0, enq := true })
  else if (s.pl t).1 = 4 then (if p.loadV u (IntKind.i64.wrap (s.next n + 1)) = 0 then { ev := 1 } else { ev := 0 }) else { ev := 0 }
def lockS (s : IS) (p : PS) (t n u : Int) : IS := if (s.pl t).1 = 1 then s.put t (s.up t, p.loadV u s.tail) else s.put t (s.up t, (s.pl t).2)
def lockP (s : IS) (p : PS) (t n u : Int) : PS :=
  if (s.pl t).1 = 0 then p.store u (s.next n) 0
  else if (s.pl t).1 = 1 then p.store u s.tail n
  else if (s.pl t).1 = 2 then p.store u (IntKind.i64.wrap (s.next n + 1)) 1
  else if (s.pl t).1 = 3 then p.store u (s.next (s.pl t).2) n
  else if (s.pl t).1 = 4 then p.load u (IntKind.i64.wrap (s.next n + 1)) else p
def unE (s : IS) (p : PS) (t n u : Int) : Int :=
  if (s.pl t).1 = 0 ∨ (s.pl t).1 = 2 then 0 else if (s.pl t).1 = 1 then (if p.casV u s.tail n = true then 3 else 0) else 3
def unS (s : IS) (p : PS) (t n u : Int) : IS :=
  if (s.pl t).1 = 0 ∨ (s.pl t).1 = 2 then
    s.put t (if p.loadV u (s.next n) = 0 then (if (s.pl t).1 = 0 then 1 else 2) else 3, p.loadV u (s.next n))
  else if (s.pl t).1 = 1 then (if p.casV u s.tail n = true then s else s.put t (2, (s.pl t).2)) else s
def unP (s : IS) (p : PS) (t n u : Int) : PS :=
  if (s.pl t).1 = 0 ∨ (s.pl t).1 = 2 then p.load u (s.next n)
  else if (s.pl t).1 = 1 then p.cas u s.tail n 0 else p.store u (IntKind.i64.wrap (s.next (s.pl t).2 + 1)) 0
def stepE (s : IS) (p : PS) (t u : Int) : Dd :=
  if s.ss.state t = 1 then s.lockD p t (number t) u else if s.ss.state t = 3 then { ev := s.unE p t (number t) u }
  else if s.ss.state t = 4 then (if p.loadV u (s.next (number t)) = 0 then { ev := 4 } else { ev := 5 }) else { ev := 0 }
def stepI (s : IS) (p : PS) (t u : Int) : IS := if s.ss.state t = 1 then s.lockS p t (number t) u else if s.ss.state t = 3 then s.unS p t (number t) u else s
def stepS (s : IS) (p : PS) (t u : Int) : IS :=
  if s.ss.endB t (s.stepE p t u).ev = true then { (s.stepI p t u).put t (0, 0) with ss := s.ss.end_ t (s.stepE p t u).ev }
  else s.stepI p t u
def stepP (s : IS) (p : PS) (t u : Int) : PS :=
  if s.ss.state t = 1 then s.lockP p t (number t) u else if s.ss.state t = 3 then s.unP p t (number t) u
  else if s.ss.state t = 4 then p.load u (s.next (number t)) else p
end IS
theorem tC_Ki {P : Prop} (h : P := by (first | ((first | refine bkCell (H.bkAt 0 rfl) ?_ | refine bkCell (H.bkAt 1 rfl) ?_ | refine bkCell (H.bkAt 2 rfl) ?_ | refine bkCell (H.bkAt 3 rfl) ?_ | refine bkCell (H.bkAt 4 rfl) ?_); (first | rfl | ((first | refine ints_at0 ?_ | refine bools_at0 ?_ | refine rows_at1 (f := accRow) (s := 2) (fun _ => rfl) (by decide) ?_ rfl | refine rows_at0 (f := accRow) (s := 2) (fun _ => rfl) (by decide) ?_ rfl | refine rows_at1 (f := mcRow) (s := 2) (fun _ => rfl) (by decide) ?_ rfl | refine rows_at0 (f := mcRow) (s := 2) (fun _ => rfl) (by decide) ?_ rfl); first | omega | assumption | (simp only [List.length_set, List.length_append, List.length_cons, List.length_nil, List.length_map, List.length_replicate, List.length_drop, List.length_take]; omega)))) | ((first | refine bkCan (H.bkAt 0 rfl) ?_ | refine bkCan (H.bkAt 1 rfl) ?_ | refine bkCan (H.bkAt 2 rfl) ?_ | refine bkCan (H.bkAt 3 rfl) ?_ | refine bkCan (H.bkAt 4 rfl) ?_); (first | decide | ((first | refine ints_lt ?_ | refine bools_lt ?_ | refine rows_lt1 (f := accRow) (s := 2) (fun _ => rfl) (by decide) ?_ | refine rows_lt0 (f := accRow) (s := 2) (fun _ => rfl) (by decide) ?_ | refine rows_lt1 (f := mcRow) (s := 2) (fun _ => rfl) (by decide) ?_ | refine rows_lt0 (f := mcRow) (s := 2) (fun _ => rfl) (by decide) ?_); first | omega | assumption | (simp only [List.length_set, List.length_append, List.length_cons, List.length_nil, List.length_map, List.length_replicate, List.length_drop, List.length_take]; omega)) | (simp only [List.length_cons, List.length_nil]; omega))) | ((first | refine bkThere (H.bkAt 0 rfl) ?_ | refine bkThere (H.bkAt 1 rfl) ?_ | refine bkThere (H.bkAt 2 rfl) ?_ | refine bkThere (H.bkAt 3 rfl) ?_ | refine bkThere (H.bkAt 4 rfl) ?_); (first | decide | (simp only [List.length_cons, List.length_nil]; omega) | (refine rows_le (f := accRow) (s := 2) (fun _ => rfl) ?_; first | omega | assumption | (simp only [List.length_set, List.length_append, List.length_cons, List.length_nil, List.length_map, List.length_replicate, List.length_drop, List.length_take]; omega)) | (refine rows_le (f := mcRow) (s := 2) (fun _ => rfl) ?_; first | omega | assumption | (simp only [List.length_set, List.length_append, List.length_cons, List.length_nil, List.length_map, List.length_replicate, List.length_drop, List.length_take]; omega)))) | exact ⟨by omega, by omega⟩)) : P := h
theorem tS_Ki {w0 w : World} {S : List Nat} {L L' : Blocks} {b o : Nat} {v : Value} {K : World → Prop} (H : St w0 S w L) (k : ∀ w', St w0 S w' L' → K w') (h : SetG w b o v (fun w' => St w0 S w' L') := by ((first | refine bkSet H 0 rfl (fun w H => ?_) | refine bkSet H 1 rfl (fun w H => ?_) | refine bkSet H 2 rfl (fun w H => ?_) | refine bkSet H 3 rfl (fun w H => ?_) | refine bkSet H 4 rfl (fun w H => ?_)); (try simp only [List.set_cons_succ, List.set_cons_zero, ints_set0, bools_set0, pair_set0, pair_set1, mcRow_set0, mcRow_set1] at H); exact H)) : SetG w b o v K := k _ h
theorem tG_Ki {w0 w : World} {S : List Nat} {L L' : Blocks} {b o : Nat} {vs : List Value} {K : World → Prop} (H : St w0 S w L) (k : ∀ w', St w0 S w' L' → K w') (h : SetsG w b o vs (fun w' => St w0 S w' L') := by ((first | refine bkSetsF H 0 rfl rfl (fun w H => ?_) | refine bkSetsF H 1 rfl rfl (fun w H => ?_) | refine bkSetsF H 2 rfl rfl (fun w H => ?_) | refine bkSetsF H 3 rfl rfl (fun w H => ?_) | refine bkSetsF H 4 rfl rfl (fun w H => ?_) | (refine bkSetsP H 0 rfl ?_ (fun w H => ?_); · first | omega | assumption | (simp only [List.length_set, List.length_append, List.length_cons, List.length_nil, List.length_map, List.length_replicate, List.length_drop, List.length_take]; omega)) | (refine bkSetsP H 1 rfl ?_ (fun w H => ?_); · first | omega | assumption | (simp only [List.length_set, List.length_append, List.length_cons, List.length_nil, List.length_map, List.length_replicate, List.length_drop, List.length_take]; omega)) | (refine bkSetsP H 2 rfl ?_ (fun w H => ?_); · first | omega | assumption | (simp only [List.length_set, List.length_append, List.length_cons, List.length_nil, List.length_map, List.length_replicate, List.length_drop, List.length_take]; omega)) | (refine bkSetsP H 3 rfl ?_ (fun w H => ?_); · first | omega | assumption | (simp only [List.length_set, List.length_append, List.length_cons, List.length_nil, List.length_map, List.length_replicate, List.length_drop, List.length_take]; omega)) | (refine bkSetsP H 4 rfl ?_ (fun w H => ?_); · first | omega | assumption | (simp only [List.length_set, List.length_append, List.length_cons, List.length_nil, List.length_map, List.length_replicate, List.length_drop, List.length_take]; omega)) | (refine bkSets_mcRow H 0 rfl ?_ (fun w H => ?_); · first | omega | assumption | (simp only [List.length_set, List.length_append, List.length_cons, List.length_nil, List.length_map, List.length_replicate, List.length_drop, List.length_take]; omega)) | (refine bkSets_mcRow H 1 rfl ?_ (fun w H => ?_); · first | omega | assumption | (simp only [List.length_set, List.length_append, List.length_cons, List.length_nil, List.length_map, List.length_replicate, List.length_drop, List.length_take]; omega)) | (refine bkSets_mcRow H 2 rfl ?_ (fun w H => ?_); · first | omega | assumption | (simp only [List.length_set, List.length_append, List.length_cons, List.length_nil, List.length_map, List.length_replicate, List.length_drop, List.length_take]; omega)) | (refine bkSets_mcRow H 3 rfl ?_ (fun w H => ?_); · first | omega | assumption | (simp only [List.length_set, List.length_append, List.length_cons, List.length_nil, List.length_map, List.length_replicate, List.length_drop, List.length_take]; omega)) | (refine bkSets_mcRow H 4 rfl ?_ (fun w H => ?_); · first | omega | assumption | (simp only [List.length_set, List.length_append, List.length_cons, List.length_nil, List.length_map, List.length_replicate, List.length_drop, List.length_take]; omega))); (try simp only [List.set_cons_succ, List.set_cons_zero, ints_set0, bools_set0, pair_set0, pair_set1, mcRow_set0, mcRow_set1] at H); exact H)) : SetsG w b o vs K := k _ h
theorem mcsNext (a : IA) (s : IS) (x : Int) : Sp Tryz.prog 307 #[ptr a.l, u32 x] (mcsL a s) (i64 (s.next x)) (mcsL a s) := by
  intro w0 S w B H
  refine callsMcsLock_next _ _ _ _ ?_
  unfold preMcsLock_next
  (try simp only [List.cons_append, List.nil_append, List.append_assoc, mcsL] at H ⊢)
  (repeat (first | refine PtrSome_at ?_ | refine andOne ?_ | ((first | apply exSlice | apply exInt | apply exBool | apply exPtr | apply exVal | apply andCell | apply andBd | apply andCan | apply andThere); · exact tC_Ki) | (refine toSet ?_; refine tS_Ki H (fun w H => ?_)) | (refine toSets ?_; refine tG_Ki H (fun w H => ?_)) | refine H.drewK (fun w H => ?_) | refine H.allocK (fun w H => ?_)))
  exact ⟨rfl, H⟩
theorem mcsLock (a : IA) (s : IS) (p : PS) (hs : s.wf) (hp : p.wf) (t n u : Int) (ht : s.ss.there t = true) :
    Sp Tryz.prog 305 #[ptr a.l, .pointer (some ⟨a.rb, 0 + t.toNat * 2, none⟩), u32 n, i64 u] (mcsL a s ++ portL a.pa p) (didV (s.lockD p t n u)) (mcsL a (s.lockS p t n u) ++ portL a.pa (s.lockP p t n u)) := by
  intro w0 S w B H
  obtain ⟨h1, h2⟩ := seat_there ht
  have e1 : s.places.length = s.ss.l.length := hs
  have e2 : t.toNat < s.places.length := by omega
  (try simp only [List.cons_append, List.nil_append, List.append_assoc, mcsL] at H ⊢)
  refine callsMcsLock_lock _ _ _ _ _ _ _ ?_
  unfold preMcsLock_lock IS.lockD IS.lockS IS.lockP
  (repeat (first | refine PtrSome_at ?_ | refine andOne ?_ | ((first | apply exSlice | apply exInt | apply exBool | apply exPtr | apply exVal | apply andCell | apply andBd | apply andCan | apply andThere); · exact tC_Ki) | (refine toSet ?_; refine tS_Ki H (fun w H => ?_)) | (refine toSets ?_; refine tG_Ki H (fun w H => ?_)) | refine H.drewK (fun w H => ?_) | refine H.allocK (fun w H => ?_)))
  have e3 : (s.places.set t.toNat (s.up t, (s.pl t).2)).getD t.toNat default = (s.up t, (s.pl t).2) := by simp [e2]
  change St w0 S w ((_, _) :: mcsL a (s.put t (s.up t, (s.pl t).2)) ++ _) at H
  have e4 : t.toNat < (s.put t (s.up t, (s.pl t).2)).places.length := by simp [IS.put, e2]
  have e5 : (s.put t (s.up t, (s.pl t).2)).places.getD t.toNat default = (s.up t, (s.pl t).2) := e3
  by_cases c0 : (s.pl t).1 = 0
  · refine Br_eq c0 ?_
    (try simp only [List.cons_append, List.nil_append, List.append_assoc, mcsL] at H ⊢)
    (repeat (first | refine PtrSome_at ?_ | refine andOne ?_ | ((first | apply exSlice | apply exInt | apply exBool | apply exPtr | apply exVal | apply andCell | apply andBd | apply andCan | apply andThere); · exact tC_Ki) | (refine toSet ?_; refine tS_Ki H (fun w H => ?_)) | (refine toSets ?_; refine tG_Ki H (fun w H => ?_)) | refine H.drewK (fun w H => ?_) | refine H.allocK (fun w H => ?_)))
    (refine (mcsNext a (s.put t (s.up t, (s.pl t).2)) n).go H [_] _ rfl (fun w H => ?_); (try simp only [List.cons_append, List.nil_append, List.append_assoc] at H); (first | refine ⟨_, rfl, ?_⟩ | refine ⟨rfl, ?_⟩ | refine ⟨_, _, _, _, rfl, ?_⟩ | refine ⟨_, _, rfl, ?_⟩))
    (try simp only [List.cons_append, List.nil_append, List.append_assoc, mcsL] at H ⊢)
    (repeat (first | refine PtrSome_at ?_ | refine andOne ?_ | ((first | apply exSlice | apply exInt | apply exBool | apply exPtr | apply exVal | apply andCell | apply andBd | apply andCan | apply andThere); · exact tC_Ki) | (refine toSet ?_; refine tS_Ki H (fun w H => ?_)) | (refine toSets ?_; refine tG_Ki H (fun w H => ?_)) | refine H.drewK (fun w H => ?_) | refine H.allocK (fun w H => ?_)))
    (refine (portStore a.pa p hp u (s.next n) 0).go H (_ :: _ :: _ :: seatL _ _) _ rfl (fun w H => ?_); (try simp only [List.cons_append, List.nil_append, List.append_assoc] at H); (first | refine ⟨_, rfl, ?_⟩ | refine ⟨rfl, ?_⟩ | refine ⟨_, _, _, _, rfl, ?_⟩ | refine ⟨_, _, rfl, ?_⟩))
    (repeat (first | refine PtrSome_at ?_ | refine andOne ?_ | ((first | apply exSlice | apply exInt | apply exBool | apply exPtr | apply exVal | apply andCell | apply andBd | apply andCan | apply andThere); · exact tC_Ki) | (refine toSet ?_; refine tS_Ki H (fun w H => ?_)) | (refine toSets ?_; refine tG_Ki H (fun w H => ?_)) | refine H.drewK (fun w H => ?_) | refine H.allocK (fun w H => ?_)))
    refine ⟨?_, H.tail.to ?_⟩
    · simp [c0]
    · simp [mcsL, IS.put, c0]
  · refine Br_neq c0 ?_
    by_cases c1 : (s.pl t).1 = 1
    · refine Br_eq c1 ?_
      (try simp only [List.cons_append, List.nil_append, List.append_assoc, mcsL] at H ⊢)
      (repeat (first | refine PtrSome_at ?_ | refine andOne ?_ | ((first | apply exSlice | apply exInt | apply exBool | apply exPtr | apply exVal | apply andCell | apply andBd | apply andCan | apply andThere); · exact tC_Ki) | (refine toSet ?_; refine tS_Ki H (fun w H => ?_)) | (refine toSets ?_; refine tG_Ki H (fun w H => ?_)) | refine H.drewK (fun w H => ?_) | refine H.allocK (fun w H => ?_)))
      (refine (portSwap a.pa p hp u s.tail n).go H (_ :: _ :: _ :: seatL _ _) _ rfl (fun w H => ?_); (try simp only [List.cons_append, List.nil_append, List.append_assoc] at H); (first | refine ⟨_, rfl, ?_⟩ | refine ⟨rfl, ?_⟩ | refine ⟨_, _, _, _, rfl, ?_⟩ | refine ⟨_, _, rfl, ?_⟩))
      (repeat (first | refine PtrSome_at ?_ | refine andOne ?_ | ((first | apply exSlice | apply exInt | apply exBool | apply exPtr | apply exVal | apply andCell | apply andBd | apply andCan | apply andThere); · exact tC_Ki) | (refine toSet ?_; refine tS_Ki H (fun w H => ?_)) | (refine toSets ?_; refine tG_Ki H (fun w H => ?_)) | refine H.drewK (fun w H => ?_) | refine H.allocK (fun w H => ?_)))
      rw [e5]
      have e6 : ((s.put t (s.up t, (s.pl t).2)).places.set t.toNat (s.up t, p.loadV u s.tail)).getD t.toNat default = (s.up t, p.loadV u s.tail) := by simp [e4]
      rw [e6]
      by_cases c2 : p.loadV u s.tail = 0
      · refine Br_eq c2 ?_
        (repeat (first | refine PtrSome_at ?_ | refine andOne ?_ | ((first | apply exSlice | apply exInt | apply exBool | apply exPtr | apply exVal | apply andCell | apply andBd | apply andCan | apply andThere); · exact tC_Ki) | (refine toSet ?_; refine tS_Ki H (fun w H => ?_)) | (refine toSets ?_; refine tG_Ki H (fun w H => ?_)) | refine H.drewK (fun w H => ?_) | refine H.allocK (fun w H => ?_)))
        refine ⟨?_, H.tail.to ?_⟩
        · simp [c1, c2]
        · simp [mcsL, IS.put, c0, c1, e2]
      · refine Br_neq c2 ?_
        (repeat (first | refine PtrSome_at ?_ | refine andOne ?_ | ((first | apply exSlice | apply exInt | apply exBool | apply exPtr | apply exVal | apply andCell | apply andBd | apply andCan | apply andThere); · exact tC_Ki) | (refine toSet ?_; refine tS_Ki H (fun w H => ?_)) | (refine toSets ?_; refine tG_Ki H (fun w H => ?_)) | refine H.drewK (fun w H => ?_) | refine H.allocK (fun w H => ?_)))
        refine ⟨?_, H.tail.to ?_⟩
        · simp [c1, c2]
        · simp [mcsL, IS.put, c0, c1, e2]
    · refine Br_neq c1 ?_
      by_cases c2 : (s.pl t).1 = 2
      · refine Br_eq c2 ?_
        (try simp only [List.cons_append, List.nil_append, List.append_assoc, mcsL] at H ⊢)
        (repeat (first | refine PtrSome_at ?_ | refine andOne ?_ | ((first | apply exSlice | apply exInt | apply exBool | apply exPtr | apply exVal | apply andCell | apply andBd | apply andCan | apply andThere); · exact tC_Ki) | (refine toSet ?_; refine tS_Ki H (fun w H => ?_)) | (refine toSets ?_; refine tG_Ki H (fun w H => ?_)) | refine H.drewK (fun w H => ?_) | refine H.allocK (fun w H => ?_)))
        (refine (mcsNext a (s.put t (s.up t, (s.pl t).2)) n).go H [_] _ rfl (fun w H => ?_); (try simp only [List.cons_append, List.nil_append, List.append_assoc] at H); (first | refine ⟨_, rfl, ?_⟩ | refine ⟨rfl, ?_⟩ | refine ⟨_, _, _, _, rfl, ?_⟩ | refine ⟨_, _, rfl, ?_⟩))
        (try simp only [List.cons_append, List.nil_append, List.append_assoc, mcsL] at H ⊢)
        (repeat (first | refine PtrSome_at ?_ | refine andOne ?_ | ((first | apply exSlice | apply exInt | apply exBool | apply exPtr | apply exVal | apply andCell | apply andBd | apply andCan | apply andThere); · exact tC_Ki) | (refine toSet ?_; refine tS_Ki H (fun w H => ?_)) | (refine toSets ?_; refine tG_Ki H (fun w H => ?_)) | refine H.drewK (fun w H => ?_) | refine H.allocK (fun w H => ?_)))
        (refine (portStore a.pa p hp u (IntKind.i64.wrap (s.next n + 1)) 1).go H (_ :: _ :: _ :: seatL _ _) _ rfl (fun w H => ?_); (try simp only [List.cons_append, List.nil_append, List.append_assoc] at H); (first | refine ⟨_, rfl, ?_⟩ | refine ⟨rfl, ?_⟩ | refine ⟨_, _, _, _, rfl, ?_⟩ | refine ⟨_, _, rfl, ?_⟩))
        (repeat (first | refine PtrSome_at ?_ | refine andOne ?_ | ((first | apply exSlice | apply exInt | apply exBool | apply exPtr | apply exVal | apply andCell | apply andBd | apply andCan | apply andThere); · exact tC_Ki) | (refine toSet ?_; refine tS_Ki H (fun w H => ?_)) | (refine toSets ?_; refine tG_Ki H (fun w H => ?_)) | refine H.drewK (fun w H => ?_) | refine H.allocK (fun w H => ?_)))
        refine ⟨?_, H.tail.to ?_⟩
        · simp [c2]
        · simp [mcsL, IS.put, c2]
      · refine Br_neq c2 ?_
        by_cases c3 : (s.pl t).1 = 3
        · refine Br_eq c3 ?_
          (try simp only [List.cons_append, List.nil_append, List.append_assoc, mcsL] at H ⊢)
          (repeat (first | refine PtrSome_at ?_ | refine andOne ?_ | ((first | apply exSlice | apply exInt | apply exBool | apply exPtr | apply exVal | apply andCell | apply andBd | apply andCan | apply andThere); · exact tC_Ki) | (refine toSet ?_; refine tS_Ki H (fun w H => ?_)) | (refine toSets ?_; refine tG_Ki H (fun w H => ?_)) | refine H.drewK (fun w H => ?_) | refine H.allocK (fun w H => ?_)))
          rw [e5]
          (refine (mcsNext a (s.put t (s.up t, (s.pl t).2)) (s.pl t).2).go H [_] _ rfl (fun w H => ?_); (try simp only [List.cons_append, List.nil_append, List.append_assoc] at H); (first | refine ⟨_, rfl, ?_⟩ | refine ⟨rfl, ?_⟩ | refine ⟨_, _, _, _, rfl, ?_⟩ | refine ⟨_, _, rfl, ?_⟩))
          (try simp only [List.cons_append, List.nil_append, List.append_assoc, mcsL] at H ⊢)
          (repeat (first | refine PtrSome_at ?_ | refine andOne ?_ | ((first | apply exSlice | apply exInt | apply exBool | apply exPtr | apply exVal | apply andCell | apply andBd | apply andCan | apply andThere); · exact tC_Ki) | (refine toSet ?_; refine tS_Ki H (fun w H => ?_)) | (refine toSets ?_; refine tG_Ki H (fun w H => ?_)) | refine H.drewK (fun w H => ?_) | refine H.allocK (fun w H => ?_)))
          (refine (portStore a.pa p hp u (s.next (s.pl t).2) n).go H (_ :: _ :: _ :: seatL _ _) _ rfl (fun w H => ?_); (try simp only [List.cons_append, List.nil_append, List.append_assoc] at H); (first | refine ⟨_, rfl, ?_⟩ | refine ⟨rfl, ?_⟩ | refine ⟨_, _, _, _, rfl, ?_⟩ | refine ⟨_, _, rfl, ?_⟩))
          (repeat (first | refine PtrSome_at ?_ | refine andOne ?_ | ((first | apply exSlice | apply exInt | apply exBool | apply exPtr | apply exVal | apply andCell | apply andBd | apply andCan | apply andThere); · exact tC_Ki) | (refine toSet ?_; refine tS_Ki H (fun w H => ?_)) | (refine toSets ?_; refine tG_Ki H (fun w H => ?_)) | refine H.drewK (fun w H => ?_) | refine H.allocK (fun w H => ?_)))
          refine ⟨?_, H.tail.to ?_⟩
          · simp [c3]
          · simp [mcsL, IS.put, c3]
        · refine Br_neq c3 ?_
          by_cases c4 : (s.pl t).1 = 4
          · refine Br_eq c4 ?_
            (try simp only [List.cons_append, List.nil_append, List.append_assoc, mcsL] at H ⊢)
            (repeat (first | refine PtrSome_at ?_ | refine andOne ?_ | ((first | apply exSlice | apply exInt | apply exBool | apply exPtr | apply exVal | apply andCell | apply andBd | apply andCan | apply andThere); · exact tC_Ki) | (refine toSet ?_; refine tS_Ki H (fun w H => ?_)) | (refine toSets ?_; refine tG_Ki H (fun w H => ?_)) | refine H.drewK (fun w H => ?_) | refine H.allocK (fun w H => ?_)))
            (refine (mcsNext a (s.put t (s.up t, (s.pl t).2)) n).go H [_] _ rfl (fun w H => ?_); (try simp only [List.cons_append, List.nil_append, List.append_assoc] at H); (first | refine ⟨_, rfl, ?_⟩ | refine ⟨rfl, ?_⟩ | refine ⟨_, _, _, _, rfl, ?_⟩ | refine ⟨_, _, rfl, ?_⟩))
            (try simp only [List.cons_append, List.nil_append, List.append_assoc, mcsL] at H ⊢)
            (repeat (first | refine PtrSome_at ?_ | refine andOne ?_ | ((first | apply exSlice | apply exInt | apply exBool | apply exPtr | apply exVal | apply andCell | apply andBd | apply andCan | apply andThere); · exact tC_Ki) | (refine toSet ?_; refine tS_Ki H (fun w H => ?_)) | (refine toSets ?_; refine tG_Ki H (fun w H => ?_)) | refine H.drewK (fun w H => ?_) | refine H.allocK (fun w H => ?_)))
            (refine (portLoad a.pa p hp u (IntKind.i64.wrap (s.next n + 1))).go H (_ :: _ :: _ :: seatL _ _) _ rfl (fun w H => ?_); (try simp only [List.cons_append, List.nil_append, List.append_assoc] at H); (first | refine ⟨_, rfl, ?_⟩ | refine ⟨rfl, ?_⟩ | refine ⟨_, _, _, _, rfl, ?_⟩ | refine ⟨_, _, rfl, ?_⟩))
            by_cases c5 : p.loadV u (IntKind.i64.wrap (s.next n + 1)) = 0
            · refine Br_eq c5 ?_
              (repeat (first | refine PtrSome_at ?_ | refine andOne ?_ | ((first | apply exSlice | apply exInt | apply exBool | apply exPtr | apply exVal | apply andCell | apply andBd | apply andCan | apply andThere); · exact tC_Ki) | (refine toSet ?_; refine tS_Ki H (fun w H => ?_)) | (refine toSets ?_; refine tG_Ki H (fun w H => ?_)) | refine H.drewK (fun w H => ?_) | refine H.allocK (fun w H => ?_)))
              refine ⟨?_, H.tail.to ?_⟩
              · simp [c4, c5]
              · simp [mcsL, IS.put, c4]
            · refine Br_neq c5 ?_
              (repeat (first | refine PtrSome_at ?_ | refine andOne ?_ | ((first | apply exSlice | apply exInt | apply exBool | apply exPtr | apply exVal | apply andCell | apply andBd | apply andCan | apply andThere); · exact tC_Ki) | (refine toSet ?_; refine tS_Ki H (fun w H => ?_)) | (refine toSets ?_; refine tG_Ki H (fun w H => ?_)) | refine H.drewK (fun w H => ?_) | refine H.allocK (fun w H => ?_)))
              refine ⟨?_, H.tail.to ?_⟩
              · simp [c4, c5]
              · simp [mcsL, IS.put, c4]
          · refine Br_neq c4 ?_
            (try simp only [List.cons_append, List.nil_append, List.append_assoc, mcsL] at H ⊢)
            (repeat (first | refine PtrSome_at ?_ | refine andOne ?_ | ((first | apply exSlice | apply exInt | apply exBool | apply exPtr | apply exVal | apply andCell | apply andBd | apply andCan | apply andThere); · exact tC_Ki) | (refine toSet ?_; refine tS_Ki H (fun w H => ?_)) | (refine toSets ?_; refine tG_Ki H (fun w H => ?_)) | refine H.drewK (fun w H => ?_) | refine H.allocK (fun w H => ?_)))
            refine ⟨?_, H.tail.to ?_⟩
            · simp [c1, c4]
            · simp [mcsL, IS.put, c0, c1, c2, c3, c4]
theorem mcsUn (a : IA) (s : IS) (p : PS) (hs : s.wf) (hp : p.wf) (t n u : Int) (ht : s.ss.there t = true) :
    Sp Tryz.prog 306 #[ptr a.l, .pointer (some ⟨a.rb, 0 + t.toNat * 2, none⟩), u32 n, i64 u] (mcsL a s ++ portL a.pa p) (i64 (s.unE p t n u)) (mcsL a (s.unS p t n u) ++ portL a.pa (s.unP p t n u)) := by
  intro w0 S w B H
  obtain ⟨h1, h2⟩ := seat_there ht
  have e1 : s.places.length = s.ss.l.length := hs
  have e2 : t.toNat < s.places.length := by omega
  (try simp only [List.cons_append, List.nil_append, List.append_assoc, mcsL] at H ⊢)
  refine callsMcsLock_unlock _ _ _ _ _ _ _ ?_
  unfold preMcsLock_unlock IS.unE IS.unS IS.unP
  (repeat (first | refine PtrSome_at ?_ | refine andOne ?_ | ((first | apply exSlice | apply exInt | apply exBool | apply exPtr | apply exVal | apply andCell | apply andBd | apply andCan | apply andThere); · exact tC_Ki) | (refine toSet ?_; refine tS_Ki H (fun w H => ?_)) | (refine toSets ?_; refine tG_Ki H (fun w H => ?_)) | refine H.drewK (fun w H => ?_) | refine H.allocK (fun w H => ?_)))
  have e3 : (s.places.set t.toNat ((s.places.getD t.toNat default).1, p.loadV u (s.next n))).getD t.toNat default = ((s.pl t).1, p.loadV u (s.next n)) := by simp [e2, IS.pl]
  by_cases c0 : (s.pl t).1 = 0
  · refine Br_eq c0 (Br_eq c0 ?_)
    (repeat (first | refine PtrSome_at ?_ | refine andOne ?_ | ((first | apply exSlice | apply exInt | apply exBool | apply exPtr | apply exVal | apply andCell | apply andBd | apply andCan | apply andThere); · exact tC_Ki) | (refine toSet ?_; refine tS_Ki H (fun w H => ?_)) | (refine toSets ?_; refine tG_Ki H (fun w H => ?_)) | refine H.drewK (fun w H => ?_) | refine H.allocK (fun w H => ?_)))
    (refine (mcsNext a s n).go H [] _ rfl (fun w H => ?_); (try simp only [List.cons_append, List.nil_append, List.append_assoc] at H); (first | refine ⟨_, rfl, ?_⟩ | refine ⟨rfl, ?_⟩ | refine ⟨_, _, _, _, rfl, ?_⟩ | refine ⟨_, _, rfl, ?_⟩))
    (try simp only [List.cons_append, List.nil_append, List.append_assoc, mcsL] at H ⊢)
    (repeat (first | refine PtrSome_at ?_ | refine andOne ?_ | ((first | apply exSlice | apply exInt | apply exBool | apply exPtr | apply exVal | apply andCell | apply andBd | apply andCan | apply andThere); · exact tC_Ki) | (refine toSet ?_; refine tS_Ki H (fun w H => ?_)) | (refine toSets ?_; refine tG_Ki H (fun w H => ?_)) | refine H.drewK (fun w H => ?_) | refine H.allocK (fun w H => ?_)))
    (refine (portLoad a.pa p hp u (s.next n)).go H (_ :: _ :: seatL _ _) _ rfl (fun w H => ?_); (try simp only [List.cons_append, List.nil_append, List.append_assoc] at H); (first | refine ⟨_, rfl, ?_⟩ | refine ⟨rfl, ?_⟩ | refine ⟨_, _, _, _, rfl, ?_⟩ | refine ⟨_, _, rfl, ?_⟩))
    (repeat (first | refine PtrSome_at ?_ | refine andOne ?_ | ((first | apply exSlice | apply exInt | apply exBool | apply exPtr | apply exVal | apply andCell | apply andBd | apply andCan | apply andThere); · exact tC_Ki) | (refine toSet ?_; refine tS_Ki H (fun w H => ?_)) | (refine toSets ?_; refine tG_Ki H (fun w H => ?_)) | refine H.drewK (fun w H => ?_) | refine H.allocK (fun w H => ?_)))
    rw [e3]
    by_cases c2 : p.loadV u (s.next n) = 0
    · refine Br_nne c2 ?_
      (repeat (first | refine PtrSome_at ?_ | refine andOne ?_ | ((first | apply exSlice | apply exInt | apply exBool | apply exPtr | apply exVal | apply andCell | apply andBd | apply andCan | apply andThere); · exact tC_Ki) | (refine toSet ?_; refine tS_Ki H (fun w H => ?_)) | (refine toSets ?_; refine tG_Ki H (fun w H => ?_)) | refine H.drewK (fun w H => ?_) | refine H.allocK (fun w H => ?_)))
      rw [e3]
      refine Br_eq c0 ?_
      (repeat (first | refine PtrSome_at ?_ | refine andOne ?_ | ((first | apply exSlice | apply exInt | apply exBool | apply exPtr | apply exVal | apply andCell | apply andBd | apply andCan | apply andThere); · exact tC_Ki) | (refine toSet ?_; refine tS_Ki H (fun w H => ?_)) | (refine toSets ?_; refine tG_Ki H (fun w H => ?_)) | refine H.drewK (fun w H => ?_) | refine H.allocK (fun w H => ?_)))
      refine ⟨?_, H.to ?_⟩
      · simp [c0]
      · simp [mcsL, IS.put, c0, c2, e2]
    · refine Br_ne c2 ?_
      (repeat (first | refine PtrSome_at ?_ | refine andOne ?_ | ((first | apply exSlice | apply exInt | apply exBool | apply exPtr | apply exVal | apply andCell | apply andBd | apply andCan | apply andThere); · exact tC_Ki) | (refine toSet ?_; refine tS_Ki H (fun w H => ?_)) | (refine toSets ?_; refine tG_Ki H (fun w H => ?_)) | refine H.drewK (fun w H => ?_) | refine H.allocK (fun w H => ?_)))
      refine ⟨?_, H.to ?_⟩
      · simp [c0]
      · simp [mcsL, IS.put, c0, c2, e2]
  · refine Br_neq c0 ?_
    by_cases c1 : (s.pl t).1 = 2
    · refine Br_eq c1 ?_
      (repeat (first | refine PtrSome_at ?_ | refine andOne ?_ | ((first | apply exSlice | apply exInt | apply exBool | apply exPtr | apply exVal | apply andCell | apply andBd | apply andCan | apply andThere); · exact tC_Ki) | (refine toSet ?_; refine tS_Ki H (fun w H => ?_)) | (refine toSets ?_; refine tG_Ki H (fun w H => ?_)) | refine H.drewK (fun w H => ?_) | refine H.allocK (fun w H => ?_)))
      (refine (mcsNext a s n).go H [] _ rfl (fun w H => ?_); (try simp only [List.cons_append, List.nil_append, List.append_assoc] at H); (first | refine ⟨_, rfl, ?_⟩ | refine ⟨rfl, ?_⟩ | refine ⟨_, _, _, _, rfl, ?_⟩ | refine ⟨_, _, rfl, ?_⟩))
      (try simp only [List.cons_append, List.nil_append, List.append_assoc, mcsL] at H ⊢)
      (repeat (first | refine PtrSome_at ?_ | refine andOne ?_ | ((first | apply exSlice | apply exInt | apply exBool | apply exPtr | apply exVal | apply andCell | apply andBd | apply andCan | apply andThere); · exact tC_Ki) | (refine toSet ?_; refine tS_Ki H (fun w H => ?_)) | (refine toSets ?_; refine tG_Ki H (fun w H => ?_)) | refine H.drewK (fun w H => ?_) | refine H.allocK (fun w H => ?_)))
      (refine (portLoad a.pa p hp u (s.next n)).go H (_ :: _ :: seatL _ _) _ rfl (fun w H => ?_); (try simp only [List.cons_append, List.nil_append, List.append_assoc] at H); (first | refine ⟨_, rfl, ?_⟩ | refine ⟨rfl, ?_⟩ | refine ⟨_, _, _, _, rfl, ?_⟩ | refine ⟨_, _, rfl, ?_⟩))
      (repeat (first | refine PtrSome_at ?_ | refine andOne ?_ | ((first | apply exSlice | apply exInt | apply exBool | apply exPtr | apply exVal | apply andCell | apply andBd | apply andCan | apply andThere); · exact tC_Ki) | (refine toSet ?_; refine tS_Ki H (fun w H => ?_)) | (refine toSets ?_; refine tG_Ki H (fun w H => ?_)) | refine H.drewK (fun w H => ?_) | refine H.allocK (fun w H => ?_)))
      rw [e3]
      by_cases c2 : p.loadV u (s.next n) = 0
      · refine Br_nne c2 ?_
        (repeat (first | refine PtrSome_at ?_ | refine andOne ?_ | ((first | apply exSlice | apply exInt | apply exBool | apply exPtr | apply exVal | apply andCell | apply andBd | apply andCan | apply andThere); · exact tC_Ki) | (refine toSet ?_; refine tS_Ki H (fun w H => ?_)) | (refine toSets ?_; refine tG_Ki H (fun w H => ?_)) | refine H.drewK (fun w H => ?_) | refine H.allocK (fun w H => ?_)))
        rw [e3]
        refine Br_neq c0 ?_
        refine ⟨?_, H.to ?_⟩
        · simp [c1]
        · simp only [if_pos (Or.inr c1 : (s.pl t).1 = 0 ∨ (s.pl t).1 = 2), if_pos c2, if_neg c0]
          simp [mcsL, IS.put, e2]
          rw [← show (s.pl t).1 = 2 from c1]
          simp [IS.pl, e2]
      · refine Br_ne c2 ?_
        (repeat (first | refine PtrSome_at ?_ | refine andOne ?_ | ((first | apply exSlice | apply exInt | apply exBool | apply exPtr | apply exVal | apply andCell | apply andBd | apply andCan | apply andThere); · exact tC_Ki) | (refine toSet ?_; refine tS_Ki H (fun w H => ?_)) | (refine toSets ?_; refine tG_Ki H (fun w H => ?_)) | refine H.drewK (fun w H => ?_) | refine H.allocK (fun w H => ?_)))
        refine ⟨?_, H.to ?_⟩
        · simp [c1]
        · simp [mcsL, IS.put, c1, c2, e2]
    · refine Br_neq c1 ?_
      by_cases c3 : (s.pl t).1 = 1
      · refine Br_eq c3 ?_
        (repeat (first | refine PtrSome_at ?_ | refine andOne ?_ | ((first | apply exSlice | apply exInt | apply exBool | apply exPtr | apply exVal | apply andCell | apply andBd | apply andCan | apply andThere); · exact tC_Ki) | (refine toSet ?_; refine tS_Ki H (fun w H => ?_)) | (refine toSets ?_; refine tG_Ki H (fun w H => ?_)) | refine H.drewK (fun w H => ?_) | refine H.allocK (fun w H => ?_)))
        (refine (portCas a.pa p hp u s.tail n 0).go H (_ :: _ :: seatL _ _) _ rfl (fun w H => ?_); (try simp only [List.cons_append, List.nil_append, List.append_assoc] at H); (first | refine ⟨_, rfl, ?_⟩ | refine ⟨rfl, ?_⟩ | refine ⟨_, _, _, _, rfl, ?_⟩ | refine ⟨_, _, rfl, ?_⟩))
        cases c4 : p.casV u s.tail n
        · (repeat (first | refine PtrSome_at ?_ | refine andOne ?_ | ((first | apply exSlice | apply exInt | apply exBool | apply exPtr | apply exVal | apply andCell | apply andBd | apply andCan | apply andThere); · exact tC_Ki) | (refine toSet ?_; refine tS_Ki H (fun w H => ?_)) | (refine toSets ?_; refine tG_Ki H (fun w H => ?_)) | refine H.drewK (fun w H => ?_) | refine H.allocK (fun w H => ?_)))
          refine ⟨?_, H.to ?_⟩
          · simp [c0, c1, c3]
          · simp only [if_neg c0, if_neg c1, if_pos c3, Bool.false_eq_true, if_false, if_neg (show ¬ ((s.pl t).1 = 0 ∨ (s.pl t).1 = 2) by omega)]
            simp [mcsL, IS.put, IS.pl]
        · refine ⟨?_, H.to ?_⟩
          · simp [c0, c1, c3]
          · simp [mcsL, c0, c1, c3]
      · refine Br_neq c3 ?_
        (repeat (first | refine PtrSome_at ?_ | refine andOne ?_ | ((first | apply exSlice | apply exInt | apply exBool | apply exPtr | apply exVal | apply andCell | apply andBd | apply andCan | apply andThere); · exact tC_Ki) | (refine toSet ?_; refine tS_Ki H (fun w H => ?_)) | (refine toSets ?_; refine tG_Ki H (fun w H => ?_)) | refine H.drewK (fun w H => ?_) | refine H.allocK (fun w H => ?_)))
        (refine (mcsNext a s (s.pl t).2).go H [] _ rfl (fun w H => ?_); (try simp only [List.cons_append, List.nil_append, List.append_assoc] at H); (first | refine ⟨_, rfl, ?_⟩ | refine ⟨rfl, ?_⟩ | refine ⟨_, _, _, _, rfl, ?_⟩ | refine ⟨_, _, rfl, ?_⟩))
        (try simp only [List.cons_append, List.nil_append, List.append_assoc, mcsL] at H ⊢)
        (repeat (first | refine PtrSome_at ?_ | refine andOne ?_ | ((first | apply exSlice | apply exInt | apply exBool | apply exPtr | apply exVal | apply andCell | apply andBd | apply andCan | apply andThere); · exact tC_Ki) | (refine toSet ?_; refine tS_Ki H (fun w H => ?_)) | (refine toSets ?_; refine tG_Ki H (fun w H => ?_)) | refine H.drewK (fun w H => ?_) | refine H.allocK (fun w H => ?_)))
        (refine (portStore a.pa p hp u (IntKind.i64.wrap (s.next (s.pl t).2 + 1)) 0).go H (_ :: _ :: seatL _ _) _ rfl (fun w H => ?_); (try simp only [List.cons_append, List.nil_append, List.append_assoc] at H); (first | refine ⟨_, rfl, ?_⟩ | refine ⟨rfl, ?_⟩ | refine ⟨_, _, _, _, rfl, ?_⟩ | refine ⟨_, _, rfl, ?_⟩))
        (repeat (first | refine PtrSome_at ?_ | refine andOne ?_ | ((first | apply exSlice | apply exInt | apply exBool | apply exPtr | apply exVal | apply andCell | apply andBd | apply andCan | apply andThere); · exact tC_Ki) | (refine toSet ?_; refine tS_Ki H (fun w H => ?_)) | (refine toSets ?_; refine tG_Ki H (fun w H => ?_)) | refine H.drewK (fun w H => ?_) | refine H.allocK (fun w H => ?_)))
        refine ⟨?_, H.to ?_⟩
        · simp [c0, c1, c3]
        · simp [mcsL, c0, c1, c3]
theorem mcsUse (a : IA) (s : IS) (C : Value) : Sp Tryz.prog 304 #[ptr a.l, ptr a.pa.p]
    ((a.l, [ptr a.sa.s, C, i64 s.tail, slv a.rb s.ss.l.length]) :: (a.rb, rows mcRow s.places) :: seatL a.sa s.ss) (.tuple #[]) (mcsL a s) := by
  intro w0 S w B H
  simp only [List.cons_append, List.nil_append, List.append_assoc] at H
  refine callsMcsLockUse _ _ _ _ ?_
  unfold preMcsLockUse
  (repeat' (first | (first | refine PtrSome_at ?_ | refine andOne ?_ | ((first | apply exSlice | apply exInt | apply exBool | apply exPtr | apply exVal | apply andCell | apply andBd | apply andCan | apply andThere); · exact tC_Ki) | (refine toSet ?_; refine tS_Ki H (fun w H => ?_)) | (refine toSets ?_; refine tG_Ki H (fun w H => ?_)) | refine H.drewK (fun w H => ?_) | refine H.allocK (fun w H => ?_)) | (refine Br_split (fun h => ?_) (fun h => ?_) <;> (try simp only [decide_eq_true_eq, decide_eq_false_iff_not, Bool.not_eq_true', Bool.not_eq_false', bne_iff_ne, beq_iff_eq, bne_eq_false_iff_eq, beq_eq_false_iff_ne, Bool.not_eq_true, Bool.not_eq_false] at h))))
  exact ⟨rfl, H⟩
theorem mcs_lockS_ss (s : IS) (p : PS) (t n u : Int) : (s.lockS p t n u).ss = s.ss := by unfold IS.lockS; split <;> rfl
theorem mcs_unS_ss (s : IS) (p : PS) (t n u : Int) : (s.unS p t n u).ss = s.ss := by
  unfold IS.unS; split
  · rfl
  · split
    · split <;> rfl
    · rfl
theorem mcs_lockS_len (s : IS) (p : PS) (t n u : Int) : (s.lockS p t n u).places.length = s.places.length := by unfold IS.lockS; split <;> simp [IS.put]
theorem mcs_unS_len (s : IS) (p : PS) (t n u : Int) : (s.unS p t n u).places.length = s.places.length := by
  unfold IS.unS; split
  · simp [IS.put]
  · split
    · split <;> simp [IS.put]
    · rfl
theorem endB_there {s : SS} {t ev : Int} (h : s.endB t ev = true) : s.there t = true := by
  cases h3 : s.there t
  · simp [SS.endB, SS.state, h3, SS.next] at h
  · rfl
theorem mcsStep (a : IA) (s : IS) (p : PS) (hs : s.wf) (hp : p.wf) (t u now : Int) :
    Sp Tryz.prog 303 #[ptr a.l, i64 t, i64 u, i64 now] (mcsL a s ++ portL a.pa p) (didV (s.stepE p t u)) (mcsL a (s.stepS p t u) ++ portL a.pa (s.stepP p t u)) := by
  intro w0 S w B H
  have e1 : s.places.length = s.ss.l.length := hs
  (try simp only [List.cons_append, List.nil_append, List.append_assoc, mcsL] at H ⊢)
  refine callsMcsLockStep _ _ _ _ _ _ ?_
  unfold preMcsLockStep
  (repeat (first | refine PtrSome_at ?_ | refine andOne ?_ | ((first | apply exSlice | apply exInt | apply exBool | apply exPtr | apply exVal | apply andCell | apply andBd | apply andCan | apply andThere); · exact tC_Ki) | (refine toSet ?_; refine tS_Ki H (fun w H => ?_)) | (refine toSets ?_; refine tG_Ki H (fun w H => ?_)) | refine H.drewK (fun w H => ?_) | refine H.allocK (fun w H => ?_)))
  (refine (seatState a.sa s.ss t).go H [_, _, _, _] _ rfl (fun w H => ?_); (try simp only [List.cons_append, List.nil_append, List.append_assoc] at H); (first | refine ⟨_, rfl, ?_⟩ | refine ⟨rfl, ?_⟩ | refine ⟨_, _, _, _, rfl, ?_⟩ | refine ⟨_, _, rfl, ?_⟩))
  by_cases c1 : s.ss.state t = 1
  · have ht := state_there c1 (by decide)
    obtain ⟨h1, h2⟩ := seat_there ht
    have l1 := mcs_lockS_len s p t (IS.number t) u
    have l2 := mcs_lockS_ss s p t (IS.number t) u
    have l3 : t.toNat < (s.lockS p t (IS.number t) u).places.length := by omega
    have l4 : (s.lockS p t (IS.number t) u).ss.l.length = s.ss.l.length := by rw [l2]
    refine Br_eq c1 ?_
    (repeat (first | refine PtrSome_at ?_ | refine andOne ?_ | ((first | apply exSlice | apply exInt | apply exBool | apply exPtr | apply exVal | apply andCell | apply andBd | apply andCan | apply andThere); · exact tC_Ki) | (refine toSet ?_; refine tS_Ki H (fun w H => ?_)) | (refine toSets ?_; refine tG_Ki H (fun w H => ?_)) | refine H.drewK (fun w H => ?_) | refine H.allocK (fun w H => ?_)))
    (refine (mcsLock a s p hs hp t (IS.number t) u ht).go H [_, _] _ rfl (fun w H => ?_); (try simp only [List.cons_append, List.nil_append, List.append_assoc] at H); (first | refine ⟨_, rfl, ?_⟩ | refine ⟨rfl, ?_⟩ | refine ⟨_, _, _, _, rfl, ?_⟩ | refine ⟨_, _, rfl, ?_⟩))
    (try simp only [List.cons_append, List.nil_append, List.append_assoc, mcsL] at H ⊢)
    (repeat (first | refine PtrSome_at ?_ | refine andOne ?_ | ((first | apply exSlice | apply exInt | apply exBool | apply exPtr | apply exVal | apply andCell | apply andBd | apply andCan | apply andThere); · exact tC_Ki) | (refine toSet ?_; refine tS_Ki H (fun w H => ?_)) | (refine toSets ?_; refine tG_Ki H (fun w H => ?_)) | refine H.drewK (fun w H => ?_) | refine H.allocK (fun w H => ?_)))
    (refine (seatEnd a.sa (s.lockS p t (IS.number t) u).ss t (s.lockD p t (IS.number t) u).ev).go H [_, _, _, _] _ rfl (fun w H => ?_); (try simp only [List.cons_append, List.nil_append, List.append_assoc] at H); (first | refine ⟨_, rfl, ?_⟩ | refine ⟨rfl, ?_⟩ | refine ⟨_, _, _, _, rfl, ?_⟩ | refine ⟨_, _, rfl, ?_⟩))
    cases c4 : (s.lockS p t (IS.number t) u).ss.endB t (s.lockD p t (IS.number t) u).ev
    · simp only [Br_false]
      rw [l2] at c4
      (repeat (first | refine PtrSome_at ?_ | refine andOne ?_ | ((first | apply exSlice | apply exInt | apply exBool | apply exPtr | apply exVal | apply andCell | apply andBd | apply andCan | apply andThere); · exact tC_Ki) | (refine toSet ?_; refine tS_Ki H (fun w H => ?_)) | (refine toSets ?_; refine tG_Ki H (fun w H => ?_)) | refine H.drewK (fun w H => ?_) | refine H.allocK (fun w H => ?_)))
      refine ⟨?_, H.tail.tail.to ?_⟩
      · simp [IS.stepE, c1]
      · simp [IS.stepS, IS.stepI, IS.stepE, IS.stepP, c1, c4, mcsL, l2, SS.end_]
    · simp only [Br_true]
      rw [l2] at c4
      (repeat (first | refine PtrSome_at ?_ | refine andOne ?_ | ((first | apply exSlice | apply exInt | apply exBool | apply exPtr | apply exVal | apply andCell | apply andBd | apply andCan | apply andThere); · exact tC_Ki) | (refine toSet ?_; refine tS_Ki H (fun w H => ?_)) | (refine toSets ?_; refine tG_Ki H (fun w H => ?_)) | refine H.drewK (fun w H => ?_) | refine H.allocK (fun w H => ?_)))
      refine ⟨?_, H.tail.tail.to ?_⟩
      · simp [IS.stepE, c1]
      · simp [IS.stepS, IS.stepI, IS.stepE, IS.stepP, c1, c4, mcsL, l2, IS.put]
  · refine Br_neq c1 ?_
    by_cases c2 : s.ss.state t = 3
    · have ht := state_there c2 (by decide)
      obtain ⟨h1, h2⟩ := seat_there ht
      have l1 := mcs_unS_len s p t (IS.number t) u
      have l2 := mcs_unS_ss s p t (IS.number t) u
      have l3 : t.toNat < (s.unS p t (IS.number t) u).places.length := by omega
      have l4 : (s.unS p t (IS.number t) u).ss.l.length = s.ss.l.length := by rw [l2]
      refine Br_eq c2 ?_
      (repeat (first | refine PtrSome_at ?_ | refine andOne ?_ | ((first | apply exSlice | apply exInt | apply exBool | apply exPtr | apply exVal | apply andCell | apply andBd | apply andCan | apply andThere); · exact tC_Ki) | (refine toSet ?_; refine tS_Ki H (fun w H => ?_)) | (refine toSets ?_; refine tG_Ki H (fun w H => ?_)) | refine H.drewK (fun w H => ?_) | refine H.allocK (fun w H => ?_)))
      (refine (mcsUn a s p hs hp t (IS.number t) u ht).go H [_, _] _ rfl (fun w H => ?_); (try simp only [List.cons_append, List.nil_append, List.append_assoc] at H); (first | refine ⟨_, rfl, ?_⟩ | refine ⟨rfl, ?_⟩ | refine ⟨_, _, _, _, rfl, ?_⟩ | refine ⟨_, _, rfl, ?_⟩))
      (try simp only [List.cons_append, List.nil_append, List.append_assoc, mcsL] at H ⊢)
      (repeat (first | refine PtrSome_at ?_ | refine andOne ?_ | ((first | apply exSlice | apply exInt | apply exBool | apply exPtr | apply exVal | apply andCell | apply andBd | apply andCan | apply andThere); · exact tC_Ki) | (refine toSet ?_; refine tS_Ki H (fun w H => ?_)) | (refine toSets ?_; refine tG_Ki H (fun w H => ?_)) | refine H.drewK (fun w H => ?_) | refine H.allocK (fun w H => ?_)))
      (refine (seatEnd a.sa (s.unS p t (IS.number t) u).ss t (s.unE p t (IS.number t) u)).go H [_, _, _, _] _ rfl (fun w H => ?_); (try simp only [List.cons_append, List.nil_append, List.append_assoc] at H); (first | refine ⟨_, rfl, ?_⟩ | refine ⟨rfl, ?_⟩ | refine ⟨_, _, _, _, rfl, ?_⟩ | refine ⟨_, _, rfl, ?_⟩))
      cases c4 : (s.unS p t (IS.number t) u).ss.endB t (s.unE p t (IS.number t) u)
      · simp only [Br_false]
        rw [l2] at c4
        (repeat (first | refine PtrSome_at ?_ | refine andOne ?_ | ((first | apply exSlice | apply exInt | apply exBool | apply exPtr | apply exVal | apply andCell | apply andBd | apply andCan | apply andThere); · exact tC_Ki) | (refine toSet ?_; refine tS_Ki H (fun w H => ?_)) | (refine toSets ?_; refine tG_Ki H (fun w H => ?_)) | refine H.drewK (fun w H => ?_) | refine H.allocK (fun w H => ?_)))
        refine ⟨?_, H.tail.tail.to ?_⟩
        · simp [IS.stepE, c2]
        · simp [IS.stepS, IS.stepI, IS.stepE, IS.stepP, c2, c4, mcsL, l2, SS.end_]
      · simp only [Br_true]
        rw [l2] at c4
        (repeat (first | refine PtrSome_at ?_ | refine andOne ?_ | ((first | apply exSlice | apply exInt | apply exBool | apply exPtr | apply exVal | apply andCell | apply andBd | apply andCan | apply andThere); · exact tC_Ki) | (refine toSet ?_; refine tS_Ki H (fun w H => ?_)) | (refine toSets ?_; refine tG_Ki H (fun w H => ?_)) | refine H.drewK (fun w H => ?_) | refine H.allocK (fun w H => ?_)))
        refine ⟨?_, H.tail.tail.to ?_⟩
        · simp [IS.stepE, c2]
        · simp [IS.stepS, IS.stepI, IS.stepE, IS.stepP, c2, c4, mcsL, l2, IS.put]
    · refine Br_neq c2 ?_
      by_cases c3 : s.ss.state t = 4
      · have ht := state_there c3 (by decide)
        obtain ⟨h1, h2⟩ := seat_there ht
        have l3 : t.toNat < s.places.length := by omega
        refine Br_eq c3 ?_
        (repeat (first | refine PtrSome_at ?_ | refine andOne ?_ | ((first | apply exSlice | apply exInt | apply exBool | apply exPtr | apply exVal | apply andCell | apply andBd | apply andCan | apply andThere); · exact tC_Ki) | (refine toSet ?_; refine tS_Ki H (fun w H => ?_)) | (refine toSets ?_; refine tG_Ki H (fun w H => ?_)) | refine H.drewK (fun w H => ?_) | refine H.allocK (fun w H => ?_)))
        (refine (mcsNext a s (IS.number t)).go H [_, _] _ rfl (fun w H => ?_); (try simp only [List.cons_append, List.nil_append, List.append_assoc] at H); (first | refine ⟨_, rfl, ?_⟩ | refine ⟨rfl, ?_⟩ | refine ⟨_, _, _, _, rfl, ?_⟩ | refine ⟨_, _, rfl, ?_⟩))
        (try simp only [List.cons_append, List.nil_append, List.append_assoc, mcsL] at H ⊢)
        (repeat (first | refine PtrSome_at ?_ | refine andOne ?_ | ((first | apply exSlice | apply exInt | apply exBool | apply exPtr | apply exVal | apply andCell | apply andBd | apply andCan | apply andThere); · exact tC_Ki) | (refine toSet ?_; refine tS_Ki H (fun w H => ?_)) | (refine toSets ?_; refine tG_Ki H (fun w H => ?_)) | refine H.drewK (fun w H => ?_) | refine H.allocK (fun w H => ?_)))
        (refine (portLoad a.pa p hp u (s.next (IS.number t))).go H (_ :: _ :: _ :: _ :: seatL _ _) _ rfl (fun w H => ?_); (try simp only [List.cons_append, List.nil_append, List.append_assoc] at H); (first | refine ⟨_, rfl, ?_⟩ | refine ⟨rfl, ?_⟩ | refine ⟨_, _, _, _, rfl, ?_⟩ | refine ⟨_, _, rfl, ?_⟩))
        (repeat (first | refine PtrSome_at ?_ | refine andOne ?_ | ((first | apply exSlice | apply exInt | apply exBool | apply exPtr | apply exVal | apply andCell | apply andBd | apply andCan | apply andThere); · exact tC_Ki) | (refine toSet ?_; refine tS_Ki H (fun w H => ?_)) | (refine toSets ?_; refine tG_Ki H (fun w H => ?_)) | refine H.drewK (fun w H => ?_) | refine H.allocK (fun w H => ?_)))
        by_cases c5 : p.loadV u (s.next (IS.number t)) = 0
        · refine Br_eq c5 ?_
          (repeat (first | refine PtrSome_at ?_ | refine andOne ?_ | ((first | apply exSlice | apply exInt | apply exBool | apply exPtr | apply exVal | apply andCell | apply andBd | apply andCan | apply andThere); · exact tC_Ki) | (refine toSet ?_; refine tS_Ki H (fun w H => ?_)) | (refine toSets ?_; refine tG_Ki H (fun w H => ?_)) | refine H.drewK (fun w H => ?_) | refine H.allocK (fun w H => ?_)))
          (refine (seatEnd a.sa s.ss t 4).go H [_, _, _, _] _ rfl (fun w H => ?_); (try simp only [List.cons_append, List.nil_append, List.append_assoc] at H); (first | refine ⟨_, rfl, ?_⟩ | refine ⟨rfl, ?_⟩ | refine ⟨_, _, _, _, rfl, ?_⟩ | refine ⟨_, _, rfl, ?_⟩))
          have c4 : s.ss.endB t 4 = true := by simp [SS.endB, c3, SS.next]
          rw [c4]
          simp only [Br_true]
          (repeat (first | refine PtrSome_at ?_ | refine andOne ?_ | ((first | apply exSlice | apply exInt | apply exBool | apply exPtr | apply exVal | apply andCell | apply andBd | apply andCan | apply andThere); · exact tC_Ki) | (refine toSet ?_; refine tS_Ki H (fun w H => ?_)) | (refine toSets ?_; refine tG_Ki H (fun w H => ?_)) | refine H.drewK (fun w H => ?_) | refine H.allocK (fun w H => ?_)))
          refine ⟨?_, H.tail.tail.to ?_⟩
          · simp [IS.stepE, c3, c5]
          · simp [IS.stepS, IS.stepI, IS.stepE, IS.stepP, c3, c4, c5, mcsL, IS.put]
        · refine Br_neq c5 ?_
          (repeat (first | refine PtrSome_at ?_ | refine andOne ?_ | ((first | apply exSlice | apply exInt | apply exBool | apply exPtr | apply exVal | apply andCell | apply andBd | apply andCan | apply andThere); · exact tC_Ki) | (refine toSet ?_; refine tS_Ki H (fun w H => ?_)) | (refine toSets ?_; refine tG_Ki H (fun w H => ?_)) | refine H.drewK (fun w H => ?_) | refine H.allocK (fun w H => ?_)))
          (refine (seatEnd a.sa s.ss t 5).go H [_, _, _, _] _ rfl (fun w H => ?_); (try simp only [List.cons_append, List.nil_append, List.append_assoc] at H); (first | refine ⟨_, rfl, ?_⟩ | refine ⟨rfl, ?_⟩ | refine ⟨_, _, _, _, rfl, ?_⟩ | refine ⟨_, _, rfl, ?_⟩))
          have c4 : s.ss.endB t 5 = true := by simp [SS.endB, c3, SS.next]
          rw [c4]
          simp only [Br_true]
          (repeat (first | refine PtrSome_at ?_ | refine andOne ?_ | ((first | apply exSlice | apply exInt | apply exBool | apply exPtr | apply exVal | apply andCell | apply andBd | apply andCan | apply andThere); · exact tC_Ki) | (refine toSet ?_; refine tS_Ki H (fun w H => ?_)) | (refine toSets ?_; refine tG_Ki H (fun w H => ?_)) | refine H.drewK (fun w H => ?_) | refine H.allocK (fun w H => ?_)))
          refine ⟨?_, H.tail.tail.to ?_⟩
          · simp [IS.stepE, c3, c5]
          · simp [IS.stepS, IS.stepI, IS.stepE, IS.stepP, c3, c4, c5, mcsL, IS.put]
      · refine Br_neq c3 ?_
        (repeat (first | refine PtrSome_at ?_ | refine andOne ?_ | ((first | apply exSlice | apply exInt | apply exBool | apply exPtr | apply exVal | apply andCell | apply andBd | apply andCan | apply andThere); · exact tC_Ki) | (refine toSet ?_; refine tS_Ki H (fun w H => ?_)) | (refine toSets ?_; refine tG_Ki H (fun w H => ?_)) | refine H.drewK (fun w H => ?_) | refine H.allocK (fun w H => ?_)))
        (refine (seatEnd a.sa s.ss t 0).go H [_, _, _, _] _ rfl (fun w H => ?_); (try simp only [List.cons_append, List.nil_append, List.append_assoc] at H); (first | refine ⟨_, rfl, ?_⟩ | refine ⟨rfl, ?_⟩ | refine ⟨_, _, _, _, rfl, ?_⟩ | refine ⟨_, _, rfl, ?_⟩))
        have c4 : s.ss.endB t 0 = false := by simp [SS.endB, SS.next]
        rw [c4]
        simp only [Br_false]
        (repeat (first | refine PtrSome_at ?_ | refine andOne ?_ | ((first | apply exSlice | apply exInt | apply exBool | apply exPtr | apply exVal | apply andCell | apply andBd | apply andCan | apply andThere); · exact tC_Ki) | (refine toSet ?_; refine tS_Ki H (fun w H => ?_)) | (refine toSets ?_; refine tG_Ki H (fun w H => ?_)) | refine H.drewK (fun w H => ?_) | refine H.allocK (fun w H => ?_)))
        refine ⟨?_, H.tail.tail.to ?_⟩
        · simp [IS.stepE, c1, c2, c3]
        · simp [IS.stepS, IS.stepI, IS.stepE, IS.stepP, c1, c2, c3, c4, mcsL, SS.end_]
end Go.Proofs.YtollfjfcdofbaaaGreat
