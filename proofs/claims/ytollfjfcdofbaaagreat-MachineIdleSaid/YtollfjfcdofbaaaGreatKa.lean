/- Contracts: the queue lock that can be given up. -/
import Derived.Test.YtollfjfcdofbaaaGreatFg
namespace Go.Proofs.YtollfjfcdofbaaaGreat
open Go Go.Proofs
set_option linter.unusedSimpArgs false
set_option linter.unusedVariables false
set_option maxRecDepth 100000
set_option maxHeartbeats 4000000
-- NB 5
-- NORM aboL
-- ROW abRow 4

abbrev abRow (x : Int × Int × Int × Int) : List Value := [(.int .i64 x.1), (.int .i64 x.2.1), (.int .i64 x.2.2.1), (.int .i64 x.2.2.2)]
theorem abRow_set0 (xs : List (Int × Int × Int × Int)) (i : Nat) (v : Int) : (rows abRow xs).set (0 + i * 4) (.int .i64 v) = rows abRow (xs.set i (v, (xs.getD i default).2.1, (xs.getD i default).2.2.1, (xs.getD i default).2.2.2)) := rows_set0 (f := abRow) (s := 4) (fun _ => rfl) (by decide) xs i (v, (xs.getD i default).2.1, (xs.getD i default).2.2.1, (xs.getD i default).2.2.2) rfl
theorem abRow_set1 (xs : List (Int × Int × Int × Int)) (i : Nat) (v : Int) : (rows abRow xs).set (0 + i * 4 + 1) (.int .i64 v) = rows abRow (xs.set i ((xs.getD i default).1, v, (xs.getD i default).2.2.1, (xs.getD i default).2.2.2)) := rows_set1 (f := abRow) (s := 4) (fun _ => rfl) (by decide) xs i ((xs.getD i default).1, v, (xs.getD i default).2.2.1, (xs.getD i default).2.2.2) rfl
theorem abRow_set2 (xs : List (Int × Int × Int × Int)) (i : Nat) (v : Int) : (rows abRow xs).set (0 + i * 4 + 2) (.int .i64 v) = rows abRow (xs.set i ((xs.getD i default).1, (xs.getD i default).2.1, v, (xs.getD i default).2.2.2)) := rows_set1 (f := abRow) (s := 4) (fun _ => rfl) (by decide) xs i ((xs.getD i default).1, (xs.getD i default).2.1, v, (xs.getD i default).2.2.2) rfl
theorem abRow_set3 (xs : List (Int × Int × Int × Int)) (i : Nat) (v : Int) : (rows abRow xs).set (0 + i * 4 + 3) (.int .i64 v) = rows abRow (xs.set i ((xs.getD i default).1, (xs.getD i default).2.1, (xs.getD i default).2.2.1, v)) := rows_set1 (f := abRow) (s := 4) (fun _ => rfl) (by decide) xs i ((xs.getD i default).1, (xs.getD i default).2.1, (xs.getD i default).2.2.1, v) rfl
theorem bkSets_abRow {w0 w : World} {S : List Nat} {L : Blocks} {b : Nat} {K : World → Prop} {xs : List (Int × Int × Int × Int)} {j : Nat} {v0 : Int} {v1 : Int} {v2 : Int} {v3 : Int} (H : St w0 S w L) (i : Nat) (h : L[i]? = some (b, rows abRow xs)) (hj : j < xs.length) (k : ∀ w', St w0 S w' (L.set i (b, rows abRow (xs.set j (v0, v1, v2, v3)))) → K w') : SetsG w b (0 + j * 4) [(.int .i64 v0), (.int .i64 v1), (.int .i64 v2), (.int .i64 v3)] K := St.setsR (f := abRow) (s := 4) (fun _ => rfl) H i h (v0, v1, v2, v3) hj rfl (K := fun w' => K w') k _ rfl
abbrev AbPl := Int × Int × Int × Int
structure BA where
  l : Nat
  rb : Nat
  pool : Nat
  sa : SA
  pa : PA
structure BS where
  ss : SS
  tail : Int
  places : List AbPl
def aboL (a : BA) (s : BS) : Blocks := (a.l, [ptr a.sa.s, ptr a.pa.p, ptr a.pool, i64 s.tail, slv a.rb s.ss.l.length]) :: (a.rb, rows abRow s.places) :: seatL a.sa s.ss
def BS.wf (s : BS) : Prop := s.places.length = s.ss.l.length
namespace BS
def at_ (s : BS) (x : Int) : Int := IntKind.i64.wrap (IntKind.i64.wrap (s.tail + IntKind.i64.wrap (3 * x)) - 2)
def pl (s : BS) (t : Int) : AbPl := s.places.getD t.toNat default
def put (s : BS) (t : Int) (x : AbPl) : BS := { s with places := s.places.set t.toNat x }
def step (s : BS) (t : Int) : Int := (s.pl t).1
def tried (s : BS) (t : Int) : Int := (s.pl t).2.1
def node (s : BS) (t : Int) : Int := (s.pl t).2.2.1
def other (s : BS) (t : Int) : Int := (s.pl t).2.2.2
def pick (s : BS) (t : Int) (row : List Int) : Int := row.getD (s.tried t).toNat 0
def srA (s : BS) (t : Int) (row : List Int) : Int := IntKind.i64.wrap (s.at_ (s.pick t row) + 2)
def srD (s : BS) (p : PS) (t u : Int) (row : List Int) : Dd :=
  if p.loadV u (s.srA t row) = 0 then { ev := 0 } else if IntKind.i64.wrap (s.tried t + 1) = row.length then { ev := 6 } else { ev := 0 }
def srS (s : BS) (p : PS) (t u : Int) (row : List Int) : BS :=
  s.put t (if p.loadV u (s.srA t row) = 0 then 1 else s.step t, IntKind.i64.wrap (s.tried t + 1), s.pick t row, s.other t)
end BS
theorem tC_Ka {P : Prop} (h : P := by (first | ((first | refine bkCell (H.bkAt 0 rfl) ?_ | refine bkCell (H.bkAt 1 rfl) ?_ | refine bkCell (H.bkAt 2 rfl) ?_ | refine bkCell (H.bkAt 3 rfl) ?_ | refine bkCell (H.bkAt 4 rfl) ?_); (first | rfl | ((first | refine ints_at0 ?_ | refine bools_at0 ?_ | refine rows_at1 (f := accRow) (s := 2) (fun _ => rfl) (by decide) ?_ rfl | refine rows_at0 (f := accRow) (s := 2) (fun _ => rfl) (by decide) ?_ rfl | refine rows_at1 (f := abRow) (s := 4) (fun _ => rfl) (by decide) ?_ rfl | refine rows_at0 (f := abRow) (s := 4) (fun _ => rfl) (by decide) ?_ rfl); first | omega | assumption | (simp only [List.length_set, List.length_append, List.length_cons, List.length_nil, List.length_map, List.length_replicate, List.length_drop, List.length_take]; omega)))) | ((first | refine bkCan (H.bkAt 0 rfl) ?_ | refine bkCan (H.bkAt 1 rfl) ?_ | refine bkCan (H.bkAt 2 rfl) ?_ | refine bkCan (H.bkAt 3 rfl) ?_ | refine bkCan (H.bkAt 4 rfl) ?_); (first | decide | ((first | refine ints_lt ?_ | refine bools_lt ?_ | refine rows_lt1 (f := accRow) (s := 2) (fun _ => rfl) (by decide) ?_ | refine rows_lt0 (f := accRow) (s := 2) (fun _ => rfl) (by decide) ?_ | refine rows_lt1 (f := abRow) (s := 4) (fun _ => rfl) (by decide) ?_ | refine rows_lt0 (f := abRow) (s := 4) (fun _ => rfl) (by decide) ?_); first | omega | assumption | (simp only [List.length_set, List.length_append, List.length_cons, List.length_nil, List.length_map, List.length_replicate, List.length_drop, List.length_take]; omega)) | (simp only [List.length_cons, List.length_nil]; omega))) | ((first | refine bkThere (H.bkAt 0 rfl) ?_ | refine bkThere (H.bkAt 1 rfl) ?_ | refine bkThere (H.bkAt 2 rfl) ?_ | refine bkThere (H.bkAt 3 rfl) ?_ | refine bkThere (H.bkAt 4 rfl) ?_); (first | decide | (simp only [List.length_cons, List.length_nil]; omega) | (refine rows_le (f := accRow) (s := 2) (fun _ => rfl) ?_; first | omega | assumption | (simp only [List.length_set, List.length_append, List.length_cons, List.length_nil, List.length_map, List.length_replicate, List.length_drop, List.length_take]; omega)) | (refine rows_le (f := abRow) (s := 4) (fun _ => rfl) ?_; first | omega | assumption | (simp only [List.length_set, List.length_append, List.length_cons, List.length_nil, List.length_map, List.length_replicate, List.length_drop, List.length_take]; omega)))) | exact ⟨by omega, by omega⟩)) : P := h
theorem tS_Ka {w0 w : World} {S : List Nat} {L L' : Blocks} {b o : Nat} {v : Value} {K : World → Prop} (H : St w0 S w L) (k : ∀ w', St w0 S w' L' → K w') (h : SetG w b o v (fun w' => St w0 S w' L') := by ((first | refine bkSet H 0 rfl (fun w H => ?_) | refine bkSet H 1 rfl (fun w H => ?_) | refine bkSet H 2 rfl (fun w H => ?_) | refine bkSet H 3 rfl (fun w H => ?_) | refine bkSet H 4 rfl (fun w H => ?_)); (try simp only [List.set_cons_succ, List.set_cons_zero, ints_set0, bools_set0, pair_set0, pair_set1, abRow_set0, abRow_set1, abRow_set2, abRow_set3] at H); exact H)) : SetG w b o v K := k _ h
theorem tG_Ka {w0 w : World} {S : List Nat} {L L' : Blocks} {b o : Nat} {vs : List Value} {K : World → Prop} (H : St w0 S w L) (k : ∀ w', St w0 S w' L' → K w') (h : SetsG w b o vs (fun w' => St w0 S w' L') := by ((first | refine bkSetsF H 0 rfl rfl (fun w H => ?_) | refine bkSetsF H 1 rfl rfl (fun w H => ?_) | refine bkSetsF H 2 rfl rfl (fun w H => ?_) | refine bkSetsF H 3 rfl rfl (fun w H => ?_) | refine bkSetsF H 4 rfl rfl (fun w H => ?_) | (refine bkSetsP H 0 rfl ?_ (fun w H => ?_); · first | omega | assumption | (simp only [List.length_set, List.length_append, List.length_cons, List.length_nil, List.length_map, List.length_replicate, List.length_drop, List.length_take]; omega)) | (refine bkSetsP H 1 rfl ?_ (fun w H => ?_); · first | omega | assumption | (simp only [List.length_set, List.length_append, List.length_cons, List.length_nil, List.length_map, List.length_replicate, List.length_drop, List.length_take]; omega)) | (refine bkSetsP H 2 rfl ?_ (fun w H => ?_); · first | omega | assumption | (simp only [List.length_set, List.length_append, List.length_cons, List.length_nil, List.length_map, List.length_replicate, List.length_drop, List.length_take]; omega)) | (refine bkSetsP H 3 rfl ?_ (fun w H => ?_); · first | omega | assumption | (simp only [List.length_set, List.length_append, List.length_cons, List.length_nil, List.length_map, List.length_replicate, List.length_drop, List.length_take]; omega)) | (refine bkSetsP H 4 rfl ?_ (fun w H => ?_); · first | omega | assumption | (simp only [List.length_set, List.length_append, List.length_cons, List.length_nil, List.length_map, List.length_replicate, List.length_drop, List.length_take]; omega)) | (refine bkSets_abRow H 0 rfl ?_ (fun w H => ?_); · first | omega | assumption | (simp only [List.length_set, List.length_append, List.length_cons, List.length_nil, List.length_map, List.length_replicate, List.length_drop, List.length_take]; omega)) | (refine bkSets_abRow H 1 rfl ?_ (fun w H => ?_); · first | omega | assumption | (simp only [List.length_set, List.length_append, List.length_cons, List.length_nil, List.length_map, List.length_replicate, List.length_drop, List.length_take]; omega)) | (refine bkSets_abRow H 2 rfl ?_ (fun w H => ?_); · first | omega | assumption | (simp only [List.length_set, List.length_append, List.length_cons, List.length_nil, List.length_map, List.length_replicate, List.length_drop, List.length_take]; omega)) | (refine bkSets_abRow H 3 rfl ?_ (fun w H => ?_); · first | omega | assumption | (simp only [List.length_set, List.length_append, List.length_cons, List.length_nil, List.length_map, List.length_replicate, List.length_drop, List.length_take]; omega)) | (refine bkSets_abRow H 4 rfl ?_ (fun w H => ?_); · first | omega | assumption | (simp only [List.length_set, List.length_append, List.length_cons, List.length_nil, List.length_map, List.length_replicate, List.length_drop, List.length_take]; omega))); (try simp only [List.set_cons_succ, List.set_cons_zero, ints_set0, bools_set0, pair_set0, pair_set1, abRow_set0, abRow_set1, abRow_set2, abRow_set3] at H); exact H)) : SetsG w b o vs K := k _ h
theorem aboState (a : BA) (s : BS) (x : Int) : Sp Tryz.prog 322 #[ptr a.l, i64 x] (aboL a s) (i64 (s.at_ x)) (aboL a s) := by
  intro w0 S w B H
  refine callsAbortLock_state _ _ _ _ ?_
  unfold preAbortLock_state
  (try simp only [List.cons_append, List.nil_append, List.append_assoc, aboL] at H ⊢)
  (repeat (first | refine PtrSome_at ?_ | refine andOne ?_ | ((first | apply exSlice | apply exInt | apply exBool | apply exPtr | apply exVal | apply andCell | apply andBd | apply andCan | apply andThere); · exact tC_Ka) | (refine toSet ?_; refine tS_Ka H (fun w H => ?_)) | (refine toSets ?_; refine tG_Ka H (fun w H => ?_)) | refine H.drewK (fun w H => ?_) | refine H.allocK (fun w H => ?_)))
  exact ⟨rfl, H⟩
theorem aboSearch (a : BA) (s : BS) (p : PS) (hs : s.wf) (hp : p.wf) (t u : Int) (ht : s.ss.there t = true) (rp : Option Addr) (row : List Int) (c : Nat) (hr0 : 0 ≤ s.tried t ∧ s.tried t < row.length) :
    SpR Tryz.prog 323 #[ptr a.l, .pointer (some ⟨a.rb, 0 + t.toNat * 4, none⟩), .slice rp row.length c, i64 u] (fun w S => ROi w S rp row) (aboL a s ++ portL a.pa p)
      (fun r A => r = didV (s.srD p t u row) ∧ A = aboL a (s.srS p t u row) ++ portL a.pa (p.load u (s.srA t row))) := by
  intro w0 S w B hr H
  obtain ⟨h1, h2⟩ := seat_there ht
  have e1 : s.places.length = s.ss.l.length := hs
  have e2 : t.toNat < s.places.length := by omega
  (try simp only [List.cons_append, List.nil_append, List.append_assoc, aboL] at H ⊢)
  refine callsAbortLock_search _ _ _ _ _ _ _ _ _ ?_
  unfold preAbortLock_search
  (first | refine PtrSome_at ?_ | refine andOne ?_ | ((first | apply exSlice | apply exInt | apply exBool | apply exPtr | apply exVal | apply andCell | apply andBd | apply andCan | apply andThere); · exact tC_Ka) | (refine toSet ?_; refine tS_Ka H (fun w H => ?_)) | (refine toSets ?_; refine tG_Ka H (fun w H => ?_)) | refine H.drewK (fun w H => ?_) | refine H.allocK (fun w H => ?_))
  (first | refine PtrSome_at ?_ | refine andOne ?_ | ((first | apply exSlice | apply exInt | apply exBool | apply exPtr | apply exVal | apply andCell | apply andBd | apply andCan | apply andThere); · exact tC_Ka) | (refine toSet ?_; refine tS_Ka H (fun w H => ?_)) | (refine toSets ?_; refine tG_Ka H (fun w H => ?_)) | refine H.drewK (fun w H => ?_) | refine H.allocK (fun w H => ?_))
  refine ⟨hr0, ?_⟩
  obtain ⟨b, o, e, hc⟩ := hr.read H (j := (s.tried t).toNat) (by omega)
  subst e
  refine PtrSome_at (exInt hc ?_)
  (repeat (first | refine PtrSome_at ?_ | refine andOne ?_ | ((first | apply exSlice | apply exInt | apply exBool | apply exPtr | apply exVal | apply andCell | apply andBd | apply andCan | apply andThere); · exact tC_Ka) | (refine toSet ?_; refine tS_Ka H (fun w H => ?_)) | (refine toSets ?_; refine tG_Ka H (fun w H => ?_)) | refine H.drewK (fun w H => ?_) | refine H.allocK (fun w H => ?_)))
  simp only [List.set_set, getD_set_self e2] at H ⊢
  have e3 : (s.places.set t.toNat (s.step t, IntKind.i64.wrap (s.tried t + 1), s.pick t row, s.other t)).getD t.toNat default = (s.step t, IntKind.i64.wrap (s.tried t + 1), s.pick t row, s.other t) := getD_set_self e2
  have e4 : t.toNat < (s.places.set t.toNat (s.step t, IntKind.i64.wrap (s.tried t + 1), s.pick t row, s.other t)).length := by simpa using e2
  refine (aboState a (s.put t (s.step t, IntKind.i64.wrap (s.tried t + 1), s.pick t row, s.other t)) (s.pick t row)).go H [_] _ rfl (fun w H => ⟨_, rfl, ?_⟩)
  (try simp only [List.cons_append, List.nil_append, List.append_assoc, aboL] at H ⊢)
  (repeat (first | refine PtrSome_at ?_ | refine andOne ?_ | ((first | apply exSlice | apply exInt | apply exBool | apply exPtr | apply exVal | apply andCell | apply andBd | apply andCan | apply andThere); · exact tC_Ka) | (refine toSet ?_; refine tS_Ka H (fun w H => ?_)) | (refine toSets ?_; refine tG_Ka H (fun w H => ?_)) | refine H.drewK (fun w H => ?_) | refine H.allocK (fun w H => ?_)))
  (refine (portLoad a.pa p hp u (s.srA t row)).go H (_ :: _ :: _ :: seatL _ _) _ rfl (fun w H => ?_); (try simp only [List.cons_append, List.nil_append, List.append_assoc] at H); (first | refine ⟨_, rfl, ?_⟩ | refine ⟨rfl, ?_⟩ | refine ⟨_, _, _, _, rfl, ?_⟩ | refine ⟨_, _, rfl, ?_⟩))
  by_cases c1 : p.loadV u (s.srA t row) = 0
  · refine Br_eq c1 ?_
    (repeat (first | refine PtrSome_at ?_ | refine andOne ?_ | ((first | apply exSlice | apply exInt | apply exBool | apply exPtr | apply exVal | apply andCell | apply andBd | apply andCan | apply andThere); · exact tC_Ka) | (refine toSet ?_; refine tS_Ka H (fun w H => ?_)) | (refine toSets ?_; refine tG_Ka H (fun w H => ?_)) | refine H.drewK (fun w H => ?_) | refine H.allocK (fun w H => ?_)))
    refine ⟨_, aboL a (s.srS p t u row) ++ portL a.pa (p.load u (s.srA t row)), rfl, ⟨?_, rfl⟩, H.tail.to ?_⟩
    · simp only [BS.srD, if_pos c1]
    · simp only [BS.srS, if_pos c1]
      simp [aboL, BS.put, BS.step, BS.tried, BS.pick, BS.other, BS.pl, e2]
  · refine Br_neq c1 ?_
    (repeat (first | refine PtrSome_at ?_ | refine andOne ?_ | ((first | apply exSlice | apply exInt | apply exBool | apply exPtr | apply exVal | apply andCell | apply andBd | apply andCan | apply andThere); · exact tC_Ka) | (refine toSet ?_; refine tS_Ka H (fun w H => ?_)) | (refine toSets ?_; refine tG_Ka H (fun w H => ?_)) | refine H.drewK (fun w H => ?_) | refine H.allocK (fun w H => ?_)))
    have e5 : (s.put t (s.step t, IntKind.i64.wrap (s.tried t + 1), s.pick t row, s.other t)).places.getD t.toNat default = (s.step t, IntKind.i64.wrap (s.tried t + 1), s.pick t row, s.other t) := e3
    simp only [e5]
    by_cases c2 : IntKind.i64.wrap (s.tried t + 1) = row.length
    · refine Br_eq c2 ?_
      (repeat (first | refine PtrSome_at ?_ | refine andOne ?_ | ((first | apply exSlice | apply exInt | apply exBool | apply exPtr | apply exVal | apply andCell | apply andBd | apply andCan | apply andThere); · exact tC_Ka) | (refine toSet ?_; refine tS_Ka H (fun w H => ?_)) | (refine toSets ?_; refine tG_Ka H (fun w H => ?_)) | refine H.drewK (fun w H => ?_) | refine H.allocK (fun w H => ?_)))
      refine ⟨_, aboL a (s.srS p t u row) ++ portL a.pa (p.load u (s.srA t row)), rfl, ⟨?_, rfl⟩, H.tail.to ?_⟩
      · simp only [BS.srD, if_neg c1, if_pos c2]
      · simp only [BS.srS, if_neg c1]
        simp [aboL, BS.put, BS.step, BS.tried, BS.pick, BS.other, BS.pl, e2]
    · refine Br_neq c2 ?_
      (repeat (first | refine PtrSome_at ?_ | refine andOne ?_ | ((first | apply exSlice | apply exInt | apply exBool | apply exPtr | apply exVal | apply andCell | apply andBd | apply andCan | apply andThere); · exact tC_Ka) | (refine toSet ?_; refine tS_Ka H (fun w H => ?_)) | (refine toSets ?_; refine tG_Ka H (fun w H => ?_)) | refine H.drewK (fun w H => ?_) | refine H.allocK (fun w H => ?_)))
      refine ⟨_, aboL a (s.srS p t u row) ++ portL a.pa (p.load u (s.srA t row)), rfl, ⟨?_, rfl⟩, H.tail.to ?_⟩
      · simp only [BS.srD, if_neg c1, if_neg c2]
      · simp only [BS.srS, if_neg c1]
        simp [aboL, BS.put, BS.step, BS.tried, BS.pick, BS.other, BS.pl, e2]
namespace BS
def pS (s : BS) (t : Int) (x : Int) : BS := s.put t (x, s.tried t, s.node t, s.other t)
def up (s : BS) (t : Int) : BS := s.pS t (IntKind.i64.wrap (s.step t + 1))
def at' (s : BS) (t : Int) : Int := s.at_ (s.node t)
def lockD (s : BS) (p : PS) (t u : Int) (late : Bool) (row : List Int) : Dd :=
  if s.step t = 0 then s.srD p t u row else if s.step t = 1 then { ev := 0 } else if s.step t = 2 then { ev := 0 } else if s.step t = 3 then { ev := 0 }
  else if s.step t = 4 then (if IntKind.i64.wrap (p.loadV u s.tail) = 0 then { ev := 1, enq := true } else { ev := 0, enq := true })
  else if s.step t = 5 then { ev := 0 }
  else if s.step t = 6 then (if p.loadV u (s.at' t) = 0 then { ev := 0 } else { ev := 1 })
  else if s.step t = 7 then (if p.casV u (s.at' t) 0 = true then { ev := 2 } else { ev := 1 }) else { ev := 0 }
def lockS (s : BS) (p : PS) (t u : Int) (late : Bool) (row : List Int) : BS :=
  if s.step t = 0 then s.srS p t u row else if s.step t = 1 then s.up t else if s.step t = 2 then s.up t else if s.step t = 3 then s.up t
  else if s.step t = 4 then s.put t (if IntKind.i64.wrap (p.loadV u s.tail) = 0 then s.step t else 5, s.tried t, s.node t, IntKind.i64.wrap (p.loadV u s.tail))
  else if s.step t = 5 then s.up t
  else if s.step t = 6 then (if p.loadV u (s.at' t) = 0 then (if late = true then s.up t else s) else s)
  else if s.step t = 7 then s else s.up t
def lockP (s : BS) (p : PS) (t u : Int) (row : List Int) : PS :=
  if s.step t = 0 then p.load u (s.srA t row) else if s.step t = 1 then p.store u (IntKind.i64.wrap (s.at' t + 2)) 1 else if s.step t = 2 then p.store u (s.at' t) 0
  else if s.step t = 3 then p.store u (IntKind.i64.wrap (s.at' t + 1)) 0
  else if s.step t = 4 then p.store u s.tail (IntKind.u32.wrap (s.node t))
  else if s.step t = 5 then p.store u (IntKind.i64.wrap (s.at_ (s.other t) + 1)) (IntKind.u32.wrap (s.node t))
  else if s.step t = 6 then p.load u (s.at' t)
  else if s.step t = 7 then p.cas u (s.at' t) 0 2 else p
end BS
theorem aboLock (a : BA) (s : BS) (p : PS) (hs : s.wf) (hp : p.wf) (t u : Int) (late : Bool) (ht : s.ss.there t = true) (rp : Option Addr) (row : List Int) (c : Nat) (hr0 : s.step t = 0 → 0 ≤ s.tried t ∧ s.tried t < row.length) :
    SpR Tryz.prog 319 #[ptr a.l, .pointer (some ⟨a.rb, 0 + t.toNat * 4, none⟩), .slice rp row.length c, i64 u, .bool late] (fun w S => ROi w S rp row) (aboL a s ++ portL a.pa p)
      (fun r A => r = didV (s.lockD p t u late row) ∧ A = aboL a (s.lockS p t u late row) ++ portL a.pa (s.lockP p t u row)) := by
  intro w0 S w B hr H
  obtain ⟨h1, h2⟩ := seat_there ht
  have e1 : s.places.length = s.ss.l.length := hs
  have e2 : t.toNat < s.places.length := by omega
  (try simp only [List.cons_append, List.nil_append, List.append_assoc, aboL] at H ⊢)
  refine callsAbortLock_lock _ _ _ _ _ _ _ _ _ _ ?_
  unfold preAbortLock_lock
  (repeat (first | refine PtrSome_at ?_ | refine andOne ?_ | ((first | apply exSlice | apply exInt | apply exBool | apply exPtr | apply exVal | apply andCell | apply andBd | apply andCan | apply andThere); · exact tC_Ka) | (refine toSet ?_; refine tS_Ka H (fun w H => ?_)) | (refine toSets ?_; refine tG_Ka H (fun w H => ?_)) | refine H.drewK (fun w H => ?_) | refine H.allocK (fun w H => ?_)))
  (refine (aboState a s (s.node t)).go H [_] _ rfl (fun w H => ?_); (try simp only [List.cons_append, List.nil_append, List.append_assoc] at H); (first | refine ⟨_, rfl, ?_⟩ | refine ⟨rfl, ?_⟩ | refine ⟨_, _, _, _, rfl, ?_⟩ | refine ⟨_, _, rfl, ?_⟩))
  (try simp only [List.cons_append, List.nil_append, List.append_assoc, aboL] at H ⊢)
  (repeat (first | refine PtrSome_at ?_ | refine andOne ?_ | ((first | apply exSlice | apply exInt | apply exBool | apply exPtr | apply exVal | apply andCell | apply andBd | apply andCan | apply andThere); · exact tC_Ka) | (refine toSet ?_; refine tS_Ka H (fun w H => ?_)) | (refine toSets ?_; refine tG_Ka H (fun w H => ?_)) | refine H.drewK (fun w H => ?_) | refine H.allocK (fun w H => ?_)))
  by_cases c0 : s.step t = 0
  · refine Br_eq c0 ?_
    refine (aboSearch a s p hs hp t u ht rp row c (hr0 c0)).go H [_] B rfl (hr.sub H (H.keys (by intro q hq; simp only [aboL, List.cons_append, List.mem_cons, List.mem_append] at hq ⊢; right; rcases hq with h | h | h | h <;> simp [h]))) (fun r A w7 hq H => ?_)
    obtain ⟨rfl, rfl⟩ := hq
    refine ⟨_, _, _, _, rfl, ?_⟩
    (try simp only [List.cons_append, List.nil_append, List.append_assoc, aboL] at H ⊢)
    (repeat (first | refine PtrSome_at ?_ | refine andOne ?_ | ((first | apply exSlice | apply exInt | apply exBool | apply exPtr | apply exVal | apply andCell | apply andBd | apply andCan | apply andThere); · exact tC_Ka) | (refine toSet ?_; refine tS_Ka H (fun w H => ?_)) | (refine toSets ?_; refine tG_Ka H (fun w H => ?_)) | refine H.drewK (fun w H => ?_) | refine H.allocK (fun w H => ?_)))
    refine ⟨_, aboL a (s.lockS p t u late row) ++ portL a.pa (s.lockP p t u row), rfl, ⟨?_, rfl⟩, H.tail.to ?_⟩
    · simp only [BS.lockD, if_pos c0]
    · simp only [BS.lockS, BS.lockP, if_pos c0]
      all_goals simp [aboL, BS.put, BS.up, BS.pS, BS.step, BS.tried, BS.node, BS.other, BS.pl, e2]
  · refine Br_neq c0 ?_
    by_cases c1 : s.step t = 1
    · refine Br_eq c1 ?_
      (repeat (first | refine PtrSome_at ?_ | refine andOne ?_ | ((first | apply exSlice | apply exInt | apply exBool | apply exPtr | apply exVal | apply andCell | apply andBd | apply andCan | apply andThere); · exact tC_Ka) | (refine toSet ?_; refine tS_Ka H (fun w H => ?_)) | (refine toSets ?_; refine tG_Ka H (fun w H => ?_)) | refine H.drewK (fun w H => ?_) | refine H.allocK (fun w H => ?_)))
      (refine (portStore a.pa p hp u (IntKind.i64.wrap (s.at' t + 2)) 1).go H (_ :: _ :: _ :: seatL _ _) _ rfl (fun w H => ?_); (try simp only [List.cons_append, List.nil_append, List.append_assoc] at H); (first | refine ⟨_, rfl, ?_⟩ | refine ⟨rfl, ?_⟩ | refine ⟨_, _, _, _, rfl, ?_⟩ | refine ⟨_, _, rfl, ?_⟩))
      (repeat (first | refine PtrSome_at ?_ | refine andOne ?_ | ((first | apply exSlice | apply exInt | apply exBool | apply exPtr | apply exVal | apply andCell | apply andBd | apply andCan | apply andThere); · exact tC_Ka) | (refine toSet ?_; refine tS_Ka H (fun w H => ?_)) | (refine toSets ?_; refine tG_Ka H (fun w H => ?_)) | refine H.drewK (fun w H => ?_) | refine H.allocK (fun w H => ?_)))
      refine ⟨_, aboL a (s.lockS p t u late row) ++ portL a.pa (s.lockP p t u row), rfl, ⟨?_, rfl⟩, H.tail.to ?_⟩
      · simp only [BS.lockD, if_neg c0, if_pos c1]
      · simp only [BS.lockS, BS.lockP, if_neg c0, if_pos c1]
        all_goals simp [aboL, BS.put, BS.up, BS.pS, BS.step, BS.tried, BS.node, BS.other, BS.pl, e2]
    · refine Br_neq c1 ?_
      by_cases c2 : s.step t = 2
      · refine Br_eq c2 ?_
        (repeat (first | refine PtrSome_at ?_ | refine andOne ?_ | ((first | apply exSlice | apply exInt | apply exBool | apply exPtr | apply exVal | apply andCell | apply andBd | apply andCan | apply andThere); · exact tC_Ka) | (refine toSet ?_; refine tS_Ka H (fun w H => ?_)) | (refine toSets ?_; refine tG_Ka H (fun w H => ?_)) | refine H.drewK (fun w H => ?_) | refine H.allocK (fun w H => ?_)))
        (refine (portStore a.pa p hp u (s.at' t) 0).go H (_ :: _ :: _ :: seatL _ _) _ rfl (fun w H => ?_); (try simp only [List.cons_append, List.nil_append, List.append_assoc] at H); (first | refine ⟨_, rfl, ?_⟩ | refine ⟨rfl, ?_⟩ | refine ⟨_, _, _, _, rfl, ?_⟩ | refine ⟨_, _, rfl, ?_⟩))
        (repeat (first | refine PtrSome_at ?_ | refine andOne ?_ | ((first | apply exSlice | apply exInt | apply exBool | apply exPtr | apply exVal | apply andCell | apply andBd | apply andCan | apply andThere); · exact tC_Ka) | (refine toSet ?_; refine tS_Ka H (fun w H => ?_)) | (refine toSets ?_; refine tG_Ka H (fun w H => ?_)) | refine H.drewK (fun w H => ?_) | refine H.allocK (fun w H => ?_)))
        refine ⟨_, aboL a (s.lockS p t u late row) ++ portL a.pa (s.lockP p t u row), rfl, ⟨?_, rfl⟩, H.tail.to ?_⟩
        · simp only [BS.lockD, if_neg c0, if_neg c1, if_pos c2]
        · simp only [BS.lockS, BS.lockP, if_neg c0, if_neg c1, if_pos c2]
          all_goals simp [aboL, BS.put, BS.up, BS.pS, BS.step, BS.tried, BS.node, BS.other, BS.pl, e2]
      · refine Br_neq c2 ?_
        by_cases c3 : s.step t = 3
        · refine Br_eq c3 ?_
          (repeat (first | refine PtrSome_at ?_ | refine andOne ?_ | ((first | apply exSlice | apply exInt | apply exBool | apply exPtr | apply exVal | apply andCell | apply andBd | apply andCan | apply andThere); · exact tC_Ka) | (refine toSet ?_; refine tS_Ka H (fun w H => ?_)) | (refine toSets ?_; refine tG_Ka H (fun w H => ?_)) | refine H.drewK (fun w H => ?_) | refine H.allocK (fun w H => ?_)))
          (refine (portStore a.pa p hp u (IntKind.i64.wrap (s.at' t + 1)) 0).go H (_ :: _ :: _ :: seatL _ _) _ rfl (fun w H => ?_); (try simp only [List.cons_append, List.nil_append, List.append_assoc] at H); (first | refine ⟨_, rfl, ?_⟩ | refine ⟨rfl, ?_⟩ | refine ⟨_, _, _, _, rfl, ?_⟩ | refine ⟨_, _, rfl, ?_⟩))
          (repeat (first | refine PtrSome_at ?_ | refine andOne ?_ | ((first | apply exSlice | apply exInt | apply exBool | apply exPtr | apply exVal | apply andCell | apply andBd | apply andCan | apply andThere); · exact tC_Ka) | (refine toSet ?_; refine tS_Ka H (fun w H => ?_)) | (refine toSets ?_; refine tG_Ka H (fun w H => ?_)) | refine H.drewK (fun w H => ?_) | refine H.allocK (fun w H => ?_)))
          refine ⟨_, aboL a (s.lockS p t u late row) ++ portL a.pa (s.lockP p t u row), rfl, ⟨?_, rfl⟩, H.tail.to ?_⟩
          · simp only [BS.lockD, if_neg c0, if_neg c1, if_neg c2, if_pos c3]
          · simp only [BS.lockS, BS.lockP, if_neg c0, if_neg c1, if_neg c2, if_pos c3]
            all_goals simp [aboL, BS.put, BS.up, BS.pS, BS.step, BS.tried, BS.node, BS.other, BS.pl, e2]
        · refine Br_neq c3 ?_
          by_cases c4 : s.step t = 4
          · refine Br_eq c4 ?_
            (repeat (first | refine PtrSome_at ?_ | refine andOne ?_ | ((first | apply exSlice | apply exInt | apply exBool | apply exPtr | apply exVal | apply andCell | apply andBd | apply andCan | apply andThere); · exact tC_Ka) | (refine toSet ?_; refine tS_Ka H (fun w H => ?_)) | (refine toSets ?_; refine tG_Ka H (fun w H => ?_)) | refine H.drewK (fun w H => ?_) | refine H.allocK (fun w H => ?_)))
            (refine (portSwap a.pa p hp u s.tail (IntKind.u32.wrap (s.node t))).go H (_ :: _ :: _ :: seatL _ _) _ rfl (fun w H => ?_); (try simp only [List.cons_append, List.nil_append, List.append_assoc] at H); (first | refine ⟨_, rfl, ?_⟩ | refine ⟨rfl, ?_⟩ | refine ⟨_, _, _, _, rfl, ?_⟩ | refine ⟨_, _, rfl, ?_⟩))
            (repeat (first | refine PtrSome_at ?_ | refine andOne ?_ | ((first | apply exSlice | apply exInt | apply exBool | apply exPtr | apply exVal | apply andCell | apply andBd | apply andCan | apply andThere); · exact tC_Ka) | (refine toSet ?_; refine tS_Ka H (fun w H => ?_)) | (refine toSets ?_; refine tG_Ka H (fun w H => ?_)) | refine H.drewK (fun w H => ?_) | refine H.allocK (fun w H => ?_)))
            simp only [getD_set_self e2]
            by_cases d1 : IntKind.i64.wrap (p.loadV u s.tail) = 0
            · refine Br_eq d1 ?_
              (repeat (first | refine PtrSome_at ?_ | refine andOne ?_ | ((first | apply exSlice | apply exInt | apply exBool | apply exPtr | apply exVal | apply andCell | apply andBd | apply andCan | apply andThere); · exact tC_Ka) | (refine toSet ?_; refine tS_Ka H (fun w H => ?_)) | (refine toSets ?_; refine tG_Ka H (fun w H => ?_)) | refine H.drewK (fun w H => ?_) | refine H.allocK (fun w H => ?_)))
              refine ⟨_, aboL a (s.lockS p t u late row) ++ portL a.pa (s.lockP p t u row), rfl, ⟨?_, rfl⟩, H.tail.to ?_⟩
              · simp only [BS.lockD, if_neg c0, if_neg c1, if_neg c2, if_neg c3, if_pos c4, if_pos d1]
              · simp only [BS.lockS, BS.lockP, if_neg c0, if_neg c1, if_neg c2, if_neg c3, if_pos c4, if_pos d1]
                all_goals simp [aboL, BS.put, BS.up, BS.pS, BS.step, BS.tried, BS.node, BS.other, BS.pl, e2]
            · refine Br_neq d1 ?_
              (repeat (first | refine PtrSome_at ?_ | refine andOne ?_ | ((first | apply exSlice | apply exInt | apply exBool | apply exPtr | apply exVal | apply andCell | apply andBd | apply andCan | apply andThere); · exact tC_Ka) | (refine toSet ?_; refine tS_Ka H (fun w H => ?_)) | (refine toSets ?_; refine tG_Ka H (fun w H => ?_)) | refine H.drewK (fun w H => ?_) | refine H.allocK (fun w H => ?_)))
              refine ⟨_, aboL a (s.lockS p t u late row) ++ portL a.pa (s.lockP p t u row), rfl, ⟨?_, rfl⟩, H.tail.to ?_⟩
              · simp only [BS.lockD, if_neg c0, if_neg c1, if_neg c2, if_neg c3, if_pos c4, if_neg d1]
              · simp only [BS.lockS, BS.lockP, if_neg c0, if_neg c1, if_neg c2, if_neg c3, if_pos c4, if_neg d1]
                all_goals simp [aboL, BS.put, BS.up, BS.pS, BS.step, BS.tried, BS.node, BS.other, BS.pl, e2]
          · refine Br_neq c4 ?_
            by_cases c5 : s.step t = 5
            · refine Br_eq c5 ?_
              (repeat (first | refine PtrSome_at ?_ | refine andOne ?_ | ((first | apply exSlice | apply exInt | apply exBool | apply exPtr | apply exVal | apply andCell | apply andBd | apply andCan | apply andThere); · exact tC_Ka) | (refine toSet ?_; refine tS_Ka H (fun w H => ?_)) | (refine toSets ?_; refine tG_Ka H (fun w H => ?_)) | refine H.drewK (fun w H => ?_) | refine H.allocK (fun w H => ?_)))
              (refine (aboState a s (s.other t)).go H [_] _ rfl (fun w H => ?_); (try simp only [List.cons_append, List.nil_append, List.append_assoc] at H); (first | refine ⟨_, rfl, ?_⟩ | refine ⟨rfl, ?_⟩ | refine ⟨_, _, _, _, rfl, ?_⟩ | refine ⟨_, _, rfl, ?_⟩))
              (try simp only [List.cons_append, List.nil_append, List.append_assoc, aboL] at H ⊢)
              (repeat (first | refine PtrSome_at ?_ | refine andOne ?_ | ((first | apply exSlice | apply exInt | apply exBool | apply exPtr | apply exVal | apply andCell | apply andBd | apply andCan | apply andThere); · exact tC_Ka) | (refine toSet ?_; refine tS_Ka H (fun w H => ?_)) | (refine toSets ?_; refine tG_Ka H (fun w H => ?_)) | refine H.drewK (fun w H => ?_) | refine H.allocK (fun w H => ?_)))
              (refine (portStore a.pa p hp u (IntKind.i64.wrap (s.at_ (s.other t) + 1)) (IntKind.u32.wrap (s.node t))).go H (_ :: _ :: _ :: seatL _ _) _ rfl (fun w H => ?_); (try simp only [List.cons_append, List.nil_append, List.append_assoc] at H); (first | refine ⟨_, rfl, ?_⟩ | refine ⟨rfl, ?_⟩ | refine ⟨_, _, _, _, rfl, ?_⟩ | refine ⟨_, _, rfl, ?_⟩))
              (repeat (first | refine PtrSome_at ?_ | refine andOne ?_ | ((first | apply exSlice | apply exInt | apply exBool | apply exPtr | apply exVal | apply andCell | apply andBd | apply andCan | apply andThere); · exact tC_Ka) | (refine toSet ?_; refine tS_Ka H (fun w H => ?_)) | (refine toSets ?_; refine tG_Ka H (fun w H => ?_)) | refine H.drewK (fun w H => ?_) | refine H.allocK (fun w H => ?_)))
              refine ⟨_, aboL a (s.lockS p t u late row) ++ portL a.pa (s.lockP p t u row), rfl, ⟨?_, rfl⟩, H.tail.to ?_⟩
              · simp only [BS.lockD, if_neg c0, if_neg c1, if_neg c2, if_neg c3, if_neg c4, if_pos c5]
              · simp only [BS.lockS, BS.lockP, if_neg c0, if_neg c1, if_neg c2, if_neg c3, if_neg c4, if_pos c5]
                all_goals simp [aboL, BS.put, BS.up, BS.pS, BS.step, BS.tried, BS.node, BS.other, BS.pl, e2]
            · refine Br_neq c5 ?_
              by_cases c6 : s.step t = 6
              · refine Br_eq c6 ?_
                (repeat (first | refine PtrSome_at ?_ | refine andOne ?_ | ((first | apply exSlice | apply exInt | apply exBool | apply exPtr | apply exVal | apply andCell | apply andBd | apply andCan | apply andThere); · exact tC_Ka) | (refine toSet ?_; refine tS_Ka H (fun w H => ?_)) | (refine toSets ?_; refine tG_Ka H (fun w H => ?_)) | refine H.drewK (fun w H => ?_) | refine H.allocK (fun w H => ?_)))
                (refine (portLoad a.pa p hp u (s.at' t)).go H (_ :: _ :: _ :: seatL _ _) _ rfl (fun w H => ?_); (try simp only [List.cons_append, List.nil_append, List.append_assoc] at H); (first | refine ⟨_, rfl, ?_⟩ | refine ⟨rfl, ?_⟩ | refine ⟨_, _, _, _, rfl, ?_⟩ | refine ⟨_, _, rfl, ?_⟩))
                by_cases d1 : p.loadV u (s.at' t) = 0
                · refine Br_nne d1 ?_
                  cases late
                  · simp only [Bool.not_false, Br_true]
                    (repeat (first | refine PtrSome_at ?_ | refine andOne ?_ | ((first | apply exSlice | apply exInt | apply exBool | apply exPtr | apply exVal | apply andCell | apply andBd | apply andCan | apply andThere); · exact tC_Ka) | (refine toSet ?_; refine tS_Ka H (fun w H => ?_)) | (refine toSets ?_; refine tG_Ka H (fun w H => ?_)) | refine H.drewK (fun w H => ?_) | refine H.allocK (fun w H => ?_)))
                    refine ⟨_, aboL a (s.lockS p t u false row) ++ portL a.pa (s.lockP p t u row), rfl, ⟨?_, rfl⟩, H.tail.to ?_⟩
                    · simp only [BS.lockD, if_neg c0, if_neg c1, if_neg c2, if_neg c3, if_neg c4, if_neg c5, if_pos c6, if_pos d1]
                    · simp only [BS.lockS, BS.lockP, if_neg c0, if_neg c1, if_neg c2, if_neg c3, if_neg c4, if_neg c5, if_pos c6, if_pos d1, Bool.false_eq_true, if_false]
                      all_goals simp [aboL, BS.put, BS.up, BS.pS, BS.step, BS.tried, BS.node, BS.other, BS.pl, e2]
                  · simp only [Bool.not_true, Br_false]
                    (repeat (first | refine PtrSome_at ?_ | refine andOne ?_ | ((first | apply exSlice | apply exInt | apply exBool | apply exPtr | apply exVal | apply andCell | apply andBd | apply andCan | apply andThere); · exact tC_Ka) | (refine toSet ?_; refine tS_Ka H (fun w H => ?_)) | (refine toSets ?_; refine tG_Ka H (fun w H => ?_)) | refine H.drewK (fun w H => ?_) | refine H.allocK (fun w H => ?_)))
                    refine ⟨_, aboL a (s.lockS p t u true row) ++ portL a.pa (s.lockP p t u row), rfl, ⟨?_, rfl⟩, H.tail.to ?_⟩
                    · simp only [BS.lockD, if_neg c0, if_neg c1, if_neg c2, if_neg c3, if_neg c4, if_neg c5, if_pos c6, if_pos d1]
                    · simp only [BS.lockS, BS.lockP, if_neg c0, if_neg c1, if_neg c2, if_neg c3, if_neg c4, if_neg c5, if_pos c6, if_pos d1, if_true]
                      all_goals simp [aboL, BS.put, BS.up, BS.pS, BS.step, BS.tried, BS.node, BS.other, BS.pl, e2]
                · refine Br_ne d1 ?_
                  (repeat (first | refine PtrSome_at ?_ | refine andOne ?_ | ((first | apply exSlice | apply exInt | apply exBool | apply exPtr | apply exVal | apply andCell | apply andBd | apply andCan | apply andThere); · exact tC_Ka) | (refine toSet ?_; refine tS_Ka H (fun w H => ?_)) | (refine toSets ?_; refine tG_Ka H (fun w H => ?_)) | refine H.drewK (fun w H => ?_) | refine H.allocK (fun w H => ?_)))
                  refine ⟨_, aboL a (s.lockS p t u late row) ++ portL a.pa (s.lockP p t u row), rfl, ⟨?_, rfl⟩, H.tail.to ?_⟩
                  · simp only [BS.lockD, if_neg c0, if_neg c1, if_neg c2, if_neg c3, if_neg c4, if_neg c5, if_pos c6, if_neg d1]
                  · simp only [BS.lockS, BS.lockP, if_neg c0, if_neg c1, if_neg c2, if_neg c3, if_neg c4, if_neg c5, if_pos c6, if_neg d1]
                    all_goals simp [aboL, BS.put, BS.up, BS.pS, BS.step, BS.tried, BS.node, BS.other, BS.pl, e2]
              · refine Br_neq c6 ?_
                by_cases c7 : s.step t = 7
                · refine Br_eq c7 ?_
                  (repeat (first | refine PtrSome_at ?_ | refine andOne ?_ | ((first | apply exSlice | apply exInt | apply exBool | apply exPtr | apply exVal | apply andCell | apply andBd | apply andCan | apply andThere); · exact tC_Ka) | (refine toSet ?_; refine tS_Ka H (fun w H => ?_)) | (refine toSets ?_; refine tG_Ka H (fun w H => ?_)) | refine H.drewK (fun w H => ?_) | refine H.allocK (fun w H => ?_)))
                  (refine (portCas a.pa p hp u (s.at' t) 0 2).go H (_ :: _ :: _ :: seatL _ _) _ rfl (fun w H => ?_); (try simp only [List.cons_append, List.nil_append, List.append_assoc] at H); (first | refine ⟨_, rfl, ?_⟩ | refine ⟨rfl, ?_⟩ | refine ⟨_, _, _, _, rfl, ?_⟩ | refine ⟨_, _, rfl, ?_⟩))
                  cases d1 : p.casV u (s.at' t) 0
                  · simp only [Br_false]
                    (repeat (first | refine PtrSome_at ?_ | refine andOne ?_ | ((first | apply exSlice | apply exInt | apply exBool | apply exPtr | apply exVal | apply andCell | apply andBd | apply andCan | apply andThere); · exact tC_Ka) | (refine toSet ?_; refine tS_Ka H (fun w H => ?_)) | (refine toSets ?_; refine tG_Ka H (fun w H => ?_)) | refine H.drewK (fun w H => ?_) | refine H.allocK (fun w H => ?_)))
                    refine ⟨_, aboL a (s.lockS p t u late row) ++ portL a.pa (s.lockP p t u row), rfl, ⟨?_, rfl⟩, H.tail.to ?_⟩
                    · simp only [BS.lockD, if_neg c0, if_neg c1, if_neg c2, if_neg c3, if_neg c4, if_neg c5, if_neg c6, if_pos c7, d1, Bool.false_eq_true, if_false]
                    · simp only [BS.lockS, BS.lockP, if_neg c0, if_neg c1, if_neg c2, if_neg c3, if_neg c4, if_neg c5, if_neg c6, if_pos c7]
                      all_goals simp [aboL, BS.put, BS.up, BS.pS, BS.step, BS.tried, BS.node, BS.other, BS.pl, e2]
                  · simp only [Br_true]
                    (repeat (first | refine PtrSome_at ?_ | refine andOne ?_ | ((first | apply exSlice | apply exInt | apply exBool | apply exPtr | apply exVal | apply andCell | apply andBd | apply andCan | apply andThere); · exact tC_Ka) | (refine toSet ?_; refine tS_Ka H (fun w H => ?_)) | (refine toSets ?_; refine tG_Ka H (fun w H => ?_)) | refine H.drewK (fun w H => ?_) | refine H.allocK (fun w H => ?_)))
                    refine ⟨_, aboL a (s.lockS p t u late row) ++ portL a.pa (s.lockP p t u row), rfl, ⟨?_, rfl⟩, H.tail.to ?_⟩
                    · simp only [BS.lockD, if_neg c0, if_neg c1, if_neg c2, if_neg c3, if_neg c4, if_neg c5, if_neg c6, if_pos c7, d1, if_true]
                    · simp only [BS.lockS, BS.lockP, if_neg c0, if_neg c1, if_neg c2, if_neg c3, if_neg c4, if_neg c5, if_neg c6, if_pos c7]
                      all_goals simp [aboL, BS.put, BS.up, BS.pS, BS.step, BS.tried, BS.node, BS.other, BS.pl, e2]
                · refine Br_neq c7 ?_
                  (repeat (first | refine PtrSome_at ?_ | refine andOne ?_ | ((first | apply exSlice | apply exInt | apply exBool | apply exPtr | apply exVal | apply andCell | apply andBd | apply andCan | apply andThere); · exact tC_Ka) | (refine toSet ?_; refine tS_Ka H (fun w H => ?_)) | (refine toSets ?_; refine tG_Ka H (fun w H => ?_)) | refine H.drewK (fun w H => ?_) | refine H.allocK (fun w H => ?_)))
                  refine ⟨_, aboL a (s.lockS p t u late row) ++ portL a.pa (s.lockP p t u row), rfl, ⟨?_, rfl⟩, H.tail.to ?_⟩
                  · simp only [BS.lockD, if_neg c0, if_neg c1, if_neg c2, if_neg c3, if_neg c4, if_neg c5, if_neg c6, if_neg c7]
                  · simp only [BS.lockS, BS.lockP, if_neg c0, if_neg c1, if_neg c2, if_neg c3, if_neg c4, if_neg c5, if_neg c6, if_neg c7]
                    all_goals simp [aboL, BS.put, BS.up, BS.pS, BS.step, BS.tried, BS.node, BS.other, BS.pl, e2]
end Go.Proofs.YtollfjfcdofbaaaGreat
