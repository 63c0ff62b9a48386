/- Contracts: the pool of the lock that can be given up, its step. -/
import Derived.Test.YtollfjfcdofbaaaGreatKb
namespace Go.Proofs.YtollfjfcdofbaaaGreat
open Go Go.Proofs
set_option linter.unusedSimpArgs false
set_option linter.unusedVariables false
set_option maxRecDepth 100000
set_option maxHeartbeats 4000000
-- NB 7
-- NORM aboL
-- ROW abRow 4

structure QS where
  rb : Nat
  ob : Nat
  rws : List (Nat × List Int)
  each : Nat
  outs : List Bool
namespace QS
def slc (q : QS) (x : Nat × List Int) : Value := .slice (some ⟨x.1, 0, none⟩) q.each x.2.length
def rowL (q : QS) : Blocks := q.rws.map fun x => (x.1, ints .i64 x.2)
def row (q : QS) (t : Int) : List Int := (q.rws.getD t.toNat default).2.take q.each
structure wf (q : QS) : Prop where
  len : ∀ x ∈ q.rws, q.each ≤ x.2.length
  few : q.each ≤ 8
  pos : 0 < q.each
end QS
def poolL (a : Nat) (q : QS) : Blocks := (a, [slv q.rb q.rws.length, slv q.ob q.outs.length]) :: (q.rb, q.rws.map q.slc) :: (q.ob, bools q.outs) :: q.rowL
theorem QS.row_len {q : QS} (hq : q.wf) {t : Int} (h : 0 ≤ t ∧ t < q.rws.length) : (q.row t).length = q.each := by
  have hl : t.toNat < q.rws.length := by omega
  have := hq.len _ (List.getElem_mem hl)
  simp only [QS.row, List.length_take, List.getD_eq_getElem?_getD, List.getElem?_eq_getElem hl, Option.getD_some]
  omega
theorem poolRow (a : Nat) (q : QS) (hq : q.wf) (t : Int) (h : 0 ≤ t ∧ t < q.rws.length) :
    SpE Tryz.prog 320 #[ptr a, i64 t] (poolL a q) (fun r A => ∃ (b cap : Nat) (more : List Int), r = .slice (some ⟨b, 0, none⟩) (q.row t).length cap ∧ A = (b, ints .i64 (q.row t ++ more)) :: poolL a q) := by
  intro w0 S w B H
  have hl : t.toNat < q.rws.length := by omega
  refine callsPoolPoolRow _ _ _ _ ?_
  unfold prePoolPoolRow
  refine Br_f (by omega) (exSlice (H.cell 0 rfl rfl) (Br_f (by omega) (exSlice (H.cell 0 rfl rfl) ⟨h, PtrSome_at ?_⟩)))
  generalize hx : q.rws.getD t.toNat default = x
  have hx' : q.rws[t.toNat]? = some x := by rw [← hx, List.getD_eq_getElem?_getD, List.getElem?_eq_getElem hl]; rfl
  have hc : (q.rws.map q.slc)[0 + t.toNat]? = some (q.slc x) := by rw [Nat.zero_add, List.getElem?_map, hx']; rfl
  refine exSlice (H.cell 1 rfl hc) ?_
  have hb : (poolL a q ++ B)[3 + t.toNat]? = some (x.1, ints .i64 x.2) := by
    rw [List.getElem?_append_left (by simp [poolL, QS.rowL]; omega)]
    show ((a, [slv q.rb q.rws.length, slv q.ob q.outs.length]) :: (q.rb, q.rws.map q.slc) :: (q.ob, bools q.outs) :: q.rowL)[3 + t.toNat]? = _
    rw [show 3 + t.toNat = t.toNat + 1 + 1 + 1 by omega]
    simp only [List.getElem?_cons_succ, QS.rowL, List.getElem?_map, hx', Option.map_some]
  have hle : q.each ≤ x.2.length := hq.len _ (List.mem_of_getElem? hx')
  have e1 : (q.row t).length = q.each := QS.row_len hq h
  have e2 : q.row t = x.2.take q.each := by rw [QS.row, hx]
  have hr : ROi w [] (some ⟨x.1, 0, none⟩) (q.row t) := RO.own H (3 + t.toNat) hb (by simp) (fun j v hv => by
    rw [e2, List.map_take, List.getElem?_take] at hv
    split at hv
    · rw [Nat.zero_add, ints]; exact hv
    · cases hv)
  have hcl := cloneInt (some ⟨x.1, 0, none⟩) (q.row t) x.2.length (by simp) (by have := hq.few; omega)
  rw [e1] at hcl
  refine hcl.go H [] _ rfl hr (fun r A w' hq' H => ?_)
  rcases hq' with ⟨e, _⟩ | ⟨_, b, cap, more, rfl, rfl⟩
  · cases e
  · exact ⟨_, _, _, rfl, _, _, rfl, ⟨b, cap, more, by rw [e1], rfl⟩, H⟩
theorem tC_Kc {P : Prop} (h : P := by (first | ((first | refine bkCell (H.bkAt 0 rfl) ?_ | refine bkCell (H.bkAt 1 rfl) ?_ | refine bkCell (H.bkAt 2 rfl) ?_ | refine bkCell (H.bkAt 3 rfl) ?_ | refine bkCell (H.bkAt 4 rfl) ?_ | refine bkCell (H.bkAt 5 rfl) ?_ | refine bkCell (H.bkAt 6 rfl) ?_); (first | rfl | ((first | refine ints_at0 ?_ | refine bools_at0 ?_ | refine rows_at1 (f := accRow) (s := 2) (fun _ => rfl) (by decide) ?_ rfl | refine rows_at0 (f := accRow) (s := 2) (fun _ => rfl) (by decide) ?_ rfl | refine rows_at1 (f := abRow) (s := 4) (fun _ => rfl) (by decide) ?_ rfl | refine rows_at0 (f := abRow) (s := 4) (fun _ => rfl) (by decide) ?_ rfl); first | omega | assumption | (simp only [List.length_set, List.length_append, List.length_cons, List.length_nil, List.length_map, List.length_replicate, List.length_drop, List.length_take]; omega)))) | ((first | refine bkCan (H.bkAt 0 rfl) ?_ | refine bkCan (H.bkAt 1 rfl) ?_ | refine bkCan (H.bkAt 2 rfl) ?_ | refine bkCan (H.bkAt 3 rfl) ?_ | refine bkCan (H.bkAt 4 rfl) ?_ | refine bkCan (H.bkAt 5 rfl) ?_ | refine bkCan (H.bkAt 6 rfl) ?_); (first | decide | ((first | refine ints_lt ?_ | refine bools_lt ?_ | refine rows_lt1 (f := accRow) (s := 2) (fun _ => rfl) (by decide) ?_ | refine rows_lt0 (f := accRow) (s := 2) (fun _ => rfl) (by decide) ?_ | refine rows_lt1 (f := abRow) (s := 4) (fun _ => rfl) (by decide) ?_ | refine rows_lt0 (f := abRow) (s := 4) (fun _ => rfl) (by decide) ?_); first | omega | assumption | (simp only [List.length_set, List.length_append, List.length_cons, List.length_nil, List.length_map, List.length_replicate, List.length_drop, List.length_take]; omega)) | (simp only [List.length_cons, List.length_nil]; omega))) | ((first | refine bkThere (H.bkAt 0 rfl) ?_ | refine bkThere (H.bkAt 1 rfl) ?_ | refine bkThere (H.bkAt 2 rfl) ?_ | refine bkThere (H.bkAt 3 rfl) ?_ | refine bkThere (H.bkAt 4 rfl) ?_ | refine bkThere (H.bkAt 5 rfl) ?_ | refine bkThere (H.bkAt 6 rfl) ?_); (first | decide | (simp only [List.length_cons, List.length_nil]; omega) | (refine rows_le (f := accRow) (s := 2) (fun _ => rfl) ?_; first | omega | assumption | (simp only [List.length_set, List.length_append, List.length_cons, List.length_nil, List.length_map, List.length_replicate, List.length_drop, List.length_take]; omega)) | (refine rows_le (f := abRow) (s := 4) (fun _ => rfl) ?_; first | omega | assumption | (simp only [List.length_set, List.length_append, List.length_cons, List.length_nil, List.length_map, List.length_replicate, List.length_drop, List.length_take]; omega)))) | exact ⟨by omega, by omega⟩)) : P := h
theorem tS_Kc {w0 w : World} {S : List Nat} {L L' : Blocks} {b o : Nat} {v : Value} {K : World → Prop} (H : St w0 S w L) (k : ∀ w', St w0 S w' L' → K w') (h : SetG w b o v (fun w' => St w0 S w' L') := by ((first | refine bkSet H 0 rfl (fun w H => ?_) | refine bkSet H 1 rfl (fun w H => ?_) | refine bkSet H 2 rfl (fun w H => ?_) | refine bkSet H 3 rfl (fun w H => ?_) | refine bkSet H 4 rfl (fun w H => ?_) | refine bkSet H 5 rfl (fun w H => ?_) | refine bkSet H 6 rfl (fun w H => ?_)); (try simp only [List.set_cons_succ, List.set_cons_zero, ints_set0, bools_set0, pair_set0, pair_set1, abRow_set0, abRow_set1, abRow_set2, abRow_set3] at H); exact H)) : SetG w b o v K := k _ h
theorem tG_Kc {w0 w : World} {S : List Nat} {L L' : Blocks} {b o : Nat} {vs : List Value} {K : World → Prop} (H : St w0 S w L) (k : ∀ w', St w0 S w' L' → K w') (h : SetsG w b o vs (fun w' => St w0 S w' L') := by ((first | refine bkSetsF H 0 rfl rfl (fun w H => ?_) | refine bkSetsF H 1 rfl rfl (fun w H => ?_) | refine bkSetsF H 2 rfl rfl (fun w H => ?_) | refine bkSetsF H 3 rfl rfl (fun w H => ?_) | refine bkSetsF H 4 rfl rfl (fun w H => ?_) | refine bkSetsF H 5 rfl rfl (fun w H => ?_) | refine bkSetsF H 6 rfl rfl (fun w H => ?_) | (refine bkSetsP H 0 rfl ?_ (fun w H => ?_); · first | omega | assumption | (simp only [List.length_set, List.length_append, List.length_cons, List.length_nil, List.length_map, List.length_replicate, List.length_drop, List.length_take]; omega)) | (refine bkSetsP H 1 rfl ?_ (fun w H => ?_); · first | omega | assumption | (simp only [List.length_set, List.length_append, List.length_cons, List.length_nil, List.length_map, List.length_replicate, List.length_drop, List.length_take]; omega)) | (refine bkSetsP H 2 rfl ?_ (fun w H => ?_); · first | omega | assumption | (simp only [List.length_set, List.length_append, List.length_cons, List.length_nil, List.length_map, List.length_replicate, List.length_drop, List.length_take]; omega)) | (refine bkSetsP H 3 rfl ?_ (fun w H => ?_); · first | omega | assumption | (simp only [List.length_set, List.length_append, List.length_cons, List.length_nil, List.length_map, List.length_replicate, List.length_drop, List.length_take]; omega)) | (refine bkSetsP H 4 rfl ?_ (fun w H => ?_); · first | omega | assumption | (simp only [List.length_set, List.length_append, List.length_cons, List.length_nil, List.length_map, List.length_replicate, List.length_drop, List.length_take]; omega)) | (refine bkSetsP H 5 rfl ?_ (fun w H => ?_); · first | omega | assumption | (simp only [List.length_set, List.length_append, List.length_cons, List.length_nil, List.length_map, List.length_replicate, List.length_drop, List.length_take]; omega)) | (refine bkSetsP H 6 rfl ?_ (fun w H => ?_); · first | omega | assumption | (simp only [List.length_set, List.length_append, List.length_cons, List.length_nil, List.length_map, List.length_replicate, List.length_drop, List.length_take]; omega)) | (refine bkSets_abRow H 0 rfl ?_ (fun w H => ?_); · first | omega | assumption | (simp only [List.length_set, List.length_append, List.length_cons, List.length_nil, List.length_map, List.length_replicate, List.length_drop, List.length_take]; omega)) | (refine bkSets_abRow H 1 rfl ?_ (fun w H => ?_); · first | omega | assumption | (simp only [List.length_set, List.length_append, List.length_cons, List.length_nil, List.length_map, List.length_replicate, List.length_drop, List.length_take]; omega)) | (refine bkSets_abRow H 2 rfl ?_ (fun w H => ?_); · first | omega | assumption | (simp only [List.length_set, List.length_append, List.length_cons, List.length_nil, List.length_map, List.length_replicate, List.length_drop, List.length_take]; omega)) | (refine bkSets_abRow H 3 rfl ?_ (fun w H => ?_); · first | omega | assumption | (simp only [List.length_set, List.length_append, List.length_cons, List.length_nil, List.length_map, List.length_replicate, List.length_drop, List.length_take]; omega)) | (refine bkSets_abRow H 4 rfl ?_ (fun w H => ?_); · first | omega | assumption | (simp only [List.length_set, List.length_append, List.length_cons, List.length_nil, List.length_map, List.length_replicate, List.length_drop, List.length_take]; omega)) | (refine bkSets_abRow H 5 rfl ?_ (fun w H => ?_); · first | omega | assumption | (simp only [List.length_set, List.length_append, List.length_cons, List.length_nil, List.length_map, List.length_replicate, List.length_drop, List.length_take]; omega)) | (refine bkSets_abRow H 6 rfl ?_ (fun w H => ?_); · first | omega | assumption | (simp only [List.length_set, List.length_append, List.length_cons, List.length_nil, List.length_map, List.length_replicate, List.length_drop, List.length_take]; omega))); (try simp only [List.set_cons_succ, List.set_cons_zero, ints_set0, bools_set0, pair_set0, pair_set1, abRow_set0, abRow_set1, abRow_set2, abRow_set3] at H); exact H)) : SetsG w b o vs K := k _ h
theorem aboUse (a : BA) (s : BS) (C : Value) : Sp Tryz.prog 317 #[ptr a.l, ptr a.pa.p]
    ((a.l, [ptr a.sa.s, C, ptr a.pool, i64 s.tail, slv a.rb s.ss.l.length]) :: (a.rb, rows abRow s.places) :: seatL a.sa s.ss) (.tuple #[]) (aboL a s) := by
  intro w0 S w B H
  simp only [List.cons_append, List.nil_append, List.append_assoc] at H
  refine callsAbortLockUse _ _ _ _ ?_
  unfold preAbortLockUse
  (repeat (first | refine PtrSome_at ?_ | refine andOne ?_ | ((first | apply exSlice | apply exInt | apply exBool | apply exPtr | apply exVal | apply andCell | apply andBd | apply andCan | apply andThere); · exact tC_Kc) | (refine toSet ?_; refine tS_Kc H (fun w H => ?_)) | (refine toSets ?_; refine tG_Kc H (fun w H => ?_)) | refine H.drewK (fun w H => ?_) | refine H.allocK (fun w H => ?_)))
  exact ⟨rfl, H⟩
namespace BS
def late (s : BS) (t now : Int) : Bool := decide (0 ≤ s.ss.deadline t) && decide (s.ss.deadline t ≤ now)
def stepE (s : BS) (p : PS) (t u now : Int) (row : List Int) : Dd :=
  if s.ss.state t = 1 then s.lockD p t u (s.late t now) row else if s.ss.state t = 3 then { ev := s.unE t } else { ev := 0 }
def stepI (s : BS) (p : PS) (t u now : Int) (row : List Int) : BS :=
  if s.ss.state t = 1 then s.lockS p t u (s.late t now) row else if s.ss.state t = 3 then s.unS p t u else s
def endS (s : BS) (t ev : Int) : BS :=
  { s with ss := s.ss.end_ t ev, places := if s.ss.endB t ev = true then s.places.set t.toNat (0, 0, s.node t, 0) else s.places }
def stepS (s : BS) (p : PS) (t u now : Int) (row : List Int) : BS := (s.stepI p t u now row).endS t (s.stepE p t u now row).ev
def stepP (s : BS) (p : PS) (t u : Int) (row : List Int) : PS :=
  if s.ss.state t = 1 then s.lockP p t u row else if s.ss.state t = 3 then s.unP p t u else p
end BS
theorem abo_lockS_ss (s : BS) (p : PS) (t u : Int) (late : Bool) (row : List Int) : (s.lockS p t u late row).ss = s.ss := by
  unfold BS.lockS; repeat' split
  all_goals rfl
theorem abo_unS_ss (s : BS) (p : PS) (t u : Int) : (s.unS p t u).ss = s.ss := by
  unfold BS.unS; repeat' split
  all_goals rfl
theorem abo_lockS_len (s : BS) (p : PS) (t u : Int) (late : Bool) (row : List Int) : (s.lockS p t u late row).places.length = s.places.length := by
  unfold BS.lockS; repeat' split
  all_goals simp [BS.srS, BS.up, BS.pS, BS.put]
theorem abo_unS_len (s : BS) (p : PS) (t u : Int) : (s.unS p t u).places.length = s.places.length := by
  unfold BS.unS; repeat' split
  all_goals simp [BS.pS, BS.put]
theorem abo_stepI (s : BS) (p : PS) (t u now : Int) (row : List Int) : (s.stepI p t u now row).ss = s.ss ∧ (s.stepI p t u now row).places.length = s.places.length := by
  unfold BS.stepI; split
  · exact ⟨abo_lockS_ss .., abo_lockS_len ..⟩
  · split
    · exact ⟨abo_unS_ss .., abo_unS_len ..⟩
    · exact ⟨rfl, rfl⟩
theorem RO.mem {w0 w : World} {S S' : List Nat} {L : Blocks} (H : St w0 S w L) {b o : Nat} {cs vs : List Value} (hm : (b, cs) ∈ L) (hb : b ∉ S') (hv : ∀ j v, vs[j]? = some v → cs[o + j]? = some v) : RO w S' (some ⟨b, o, none⟩) vs :=
  let ⟨i, hi⟩ := List.mem_iff_getElem?.1 hm
  RO.own H i hi hb hv
theorem St.notin {w0 w : World} {S : List Nat} {X A Y : Blocks} (H : St w0 S w (X ++ (A ++ Y))) {p : Nat × List Value} (hm : p ∈ Y) : p.1 ∉ A.map (·.1) := by
  intro h
  have hnd := H.nd
  simp only [List.map_append] at hnd
  have d1 := List.nodup_append.1 hnd
  have d2 := List.nodup_append.1 d1.2.1
  exact d2.2.2 p.1 h p.1 (List.mem_map_of_mem hm) rfl
structure BS.ok (s : BS) (q : QS) : Prop where
  wf : s.wf
  pool : q.wf
  rows : q.rws.length = s.ss.l.length
  tried : ∀ t, s.ss.state t = 1 → s.step t = 0 → 0 ≤ s.tried t ∧ s.tried t < q.each
theorem aboStep (a : BA) (s : BS) (q : QS) (p : PS) (hok : s.ok q) (hp : p.wf) (t u now : Int) :
    Sp Tryz.prog 316 #[ptr a.l, i64 t, i64 u, i64 now] (aboL a s ++ (portL a.pa p ++ poolL a.pool q)) (didV (s.stepE p t u now (q.row t))) (aboL a (s.stepS p t u now (q.row t)) ++ (portL a.pa (s.stepP p t u (q.row t)) ++ poolL a.pool q)) := by
  intro w0 S w B H
  obtain ⟨hs, hq, hrw, htr⟩ := hok
  have e1 : s.places.length = s.ss.l.length := hs
  (try simp only [List.cons_append, List.nil_append, List.append_assoc, aboL] at H ⊢)
  refine callsAbortLockStep _ _ _ _ _ _ ?_
  unfold preAbortLockStep
  (repeat (first | refine PtrSome_at ?_ | refine andOne ?_ | ((first | apply exSlice | apply exInt | apply exBool | apply exPtr | apply exVal | apply andCell | apply andBd | apply andCan | apply andThere); · exact tC_Kc) | (refine toSet ?_; refine tS_Kc H (fun w H => ?_)) | (refine toSets ?_; refine tG_Kc H (fun w H => ?_)) | refine H.drewK (fun w H => ?_) | refine H.allocK (fun w H => ?_)))
  (refine (seatState a.sa s.ss t).go H [_, _, _, _] _ rfl (fun w H => ?_); (try simp only [List.cons_append, List.nil_append, List.append_assoc] at H); (first | refine ⟨_, rfl, ?_⟩ | refine ⟨rfl, ?_⟩ | refine ⟨_, _, _, _, rfl, ?_⟩ | refine ⟨_, _, rfl, ?_⟩))
  by_cases c1 : s.ss.state t = 1
  · have ht := state_there c1 (by decide)
    obtain ⟨h1, h2⟩ := seat_there ht
    refine Br_eq c1 ?_
    (repeat (first | refine PtrSome_at ?_ | refine andOne ?_ | ((first | apply exSlice | apply exInt | apply exBool | apply exPtr | apply exVal | apply andCell | apply andBd | apply andCan | apply andThere); · exact tC_Kc) | (refine toSet ?_; refine tS_Kc H (fun w H => ?_)) | (refine toSets ?_; refine tG_Kc H (fun w H => ?_)) | refine H.drewK (fun w H => ?_) | refine H.allocK (fun w H => ?_)))
    (refine (seatDeadline a.sa s.ss t).go H [_, _, _, _] _ rfl (fun w H => ?_); (try simp only [List.cons_append, List.nil_append, List.append_assoc] at H); (first | refine ⟨_, rfl, ?_⟩ | refine ⟨rfl, ?_⟩ | refine ⟨_, _, _, _, rfl, ?_⟩ | refine ⟨_, _, rfl, ?_⟩))
    by_cases c2 : s.ss.deadline t ≥ 0
    · refine Br_t c2 ?_
      (repeat (first | refine PtrSome_at ?_ | refine andOne ?_ | ((first | apply exSlice | apply exInt | apply exBool | apply exPtr | apply exVal | apply andCell | apply andBd | apply andCan | apply andThere); · exact tC_Kc) | (refine toSet ?_; refine tS_Kc H (fun w H => ?_)) | (refine toSets ?_; refine tG_Kc H (fun w H => ?_)) | refine H.drewK (fun w H => ?_) | refine H.allocK (fun w H => ?_)))
      (refine (seatDeadline a.sa s.ss t).go H [_, _, _, _] _ rfl (fun w H => ?_); (try simp only [List.cons_append, List.nil_append, List.append_assoc] at H); (first | refine ⟨_, rfl, ?_⟩ | refine ⟨rfl, ?_⟩ | refine ⟨_, _, _, _, rfl, ?_⟩ | refine ⟨_, _, rfl, ?_⟩))
      (repeat (first | refine PtrSome_at ?_ | refine andOne ?_ | ((first | apply exSlice | apply exInt | apply exBool | apply exPtr | apply exVal | apply andCell | apply andBd | apply andCan | apply andThere); · exact tC_Kc) | (refine toSet ?_; refine tS_Kc H (fun w H => ?_)) | (refine toSets ?_; refine tG_Kc H (fun w H => ?_)) | refine H.drewK (fun w H => ?_) | refine H.allocK (fun w H => ?_)))
      have cl : s.late t now = decide (now ≥ s.ss.deadline t) := by simp [BS.late, c2]
      refine (poolRow a.pool q hq t ⟨h1, by omega⟩).go H (_ :: _ :: _ :: _ :: (seatL a.sa s.ss ++ portL a.pa p)) B (by simp; exact ⟨rfl, rfl, rfl, rfl⟩) (fun r A w' hr H => ?_)
      obtain ⟨b, cap, more, rfl, rfl⟩ := hr
      refine ⟨_, _, _, rfl, ?_⟩
      simp only [List.cons_append, List.nil_append, List.append_assoc] at H
      (repeat (first | refine PtrSome_at ?_ | refine andOne ?_ | ((first | apply exSlice | apply exInt | apply exBool | apply exPtr | apply exVal | apply andCell | apply andBd | apply andCan | apply andThere); · exact tC_Kc) | (refine toSet ?_; refine tS_Kc H (fun w H => ?_)) | (refine toSets ?_; refine tG_Kc H (fun w H => ?_)) | refine H.drewK (fun w H => ?_) | refine H.allocK (fun w H => ?_)))
      have H' := H.to (L' := [_, _] ++ ((aboL a s ++ portL a.pa p) ++ ((b, ints .i64 (q.row t ++ more)) :: (poolL a.pool q ++ B)))) (by simp [aboL]; exact ⟨rfl, rfl⟩)
      refine (aboLock a s p hs hp t u (decide (now ≥ s.ss.deadline t)) ht (some ⟨b, 0, none⟩) (q.row t) cap (fun c0 => by rw [QS.row_len hq ⟨h1, by omega⟩]; exact htr t c1 c0)).go H' [_, _] _ rfl (RO.mem H' (b := b) (cs := ints .i64 (q.row t ++ more)) (by simp) (St.notin H' (p := (b, ints .i64 (q.row t ++ more))) (by simp)) (fun j v hv => by
        rw [Nat.zero_add, ints, List.map_append]
        rw [List.getElem?_append_left (by simpa using (List.getElem?_eq_some_iff.1 hv).1)]; exact hv)) (fun r A w' hr H => ?_)
      obtain ⟨rfl, rfl⟩ := hr
      refine ⟨_, _, _, _, rfl, ?_⟩
      have H := St.drop1 (X := _ :: _ :: (aboL a (s.lockS p t u (decide (now ≥ s.ss.deadline t)) (q.row t)) ++ portL a.pa (s.lockP p t u (q.row t)))) (H.to (by simp; exact ⟨rfl, rfl, rfl, rfl⟩))
      have l1 := abo_lockS_len s p t u (decide (now ≥ s.ss.deadline t)) (q.row t)
      have l2 := abo_lockS_ss s p t u (decide (now ≥ s.ss.deadline t)) (q.row t)
      have l3 : t.toNat < (s.lockS p t u (decide (now ≥ s.ss.deadline t)) (q.row t)).places.length := by omega
      have l4 : (s.lockS p t u (decide (now ≥ s.ss.deadline t)) (q.row t)).ss.l.length = s.ss.l.length := by rw [l2]
      (try simp only [List.cons_append, List.nil_append, List.append_assoc, aboL] at H ⊢)
      (repeat (first | refine PtrSome_at ?_ | refine andOne ?_ | ((first | apply exSlice | apply exInt | apply exBool | apply exPtr | apply exVal | apply andCell | apply andBd | apply andCan | apply andThere); · exact tC_Kc) | (refine toSet ?_; refine tS_Kc H (fun w H => ?_)) | (refine toSets ?_; refine tG_Kc H (fun w H => ?_)) | refine H.drewK (fun w H => ?_) | refine H.allocK (fun w H => ?_)))
      (refine (seatEnd a.sa (s.lockS p t u (decide (now ≥ s.ss.deadline t)) (q.row t)).ss t (s.lockD p t u (decide (now ≥ s.ss.deadline t)) (q.row t)).ev).go H [_, _, _, _] _ rfl (fun w H => ?_); (try simp only [List.cons_append, List.nil_append, List.append_assoc] at H); (first | refine ⟨_, rfl, ?_⟩ | refine ⟨rfl, ?_⟩ | refine ⟨_, _, _, _, rfl, ?_⟩ | refine ⟨_, _, rfl, ?_⟩))
      cases c4 : (s.lockS p t u (decide (now ≥ s.ss.deadline t)) (q.row t)).ss.endB t (s.lockD p t u (decide (now ≥ s.ss.deadline t)) (q.row t)).ev
      · simp only [Br_false]
        rw [l2] at c4
        (repeat (first | refine PtrSome_at ?_ | refine andOne ?_ | ((first | apply exSlice | apply exInt | apply exBool | apply exPtr | apply exVal | apply andCell | apply andBd | apply andCan | apply andThere); · exact tC_Kc) | (refine toSet ?_; refine tS_Kc H (fun w H => ?_)) | (refine toSets ?_; refine tG_Kc H (fun w H => ?_)) | refine H.drewK (fun w H => ?_) | refine H.allocK (fun w H => ?_)))
        refine ⟨?_, H.tail.tail.to ?_⟩
        · simp [BS.stepE, c1, cl]
        · simp [BS.stepS, BS.stepI, BS.stepE, BS.stepP, BS.endS, c1, cl, c4, aboL, l2, SS.end_]
      · simp only [Br_true]
        rw [l2] at c4
        (repeat (first | refine PtrSome_at ?_ | refine andOne ?_ | ((first | apply exSlice | apply exInt | apply exBool | apply exPtr | apply exVal | apply andCell | apply andBd | apply andCan | apply andThere); · exact tC_Kc) | (refine toSet ?_; refine tS_Kc H (fun w H => ?_)) | (refine toSets ?_; refine tG_Kc H (fun w H => ?_)) | refine H.drewK (fun w H => ?_) | refine H.allocK (fun w H => ?_)))
        refine ⟨?_, H.tail.tail.to ?_⟩
        · simp [BS.stepE, c1, cl]
        · simp [BS.stepS, BS.stepI, BS.stepE, BS.stepP, BS.endS, c1, cl, c4, aboL, l2, BS.node, BS.pl]
    · refine Br_f c2 ?_
      (repeat (first | refine PtrSome_at ?_ | refine andOne ?_ | ((first | apply exSlice | apply exInt | apply exBool | apply exPtr | apply exVal | apply andCell | apply andBd | apply andCan | apply andThere); · exact tC_Kc) | (refine toSet ?_; refine tS_Kc H (fun w H => ?_)) | (refine toSets ?_; refine tG_Kc H (fun w H => ?_)) | refine H.drewK (fun w H => ?_) | refine H.allocK (fun w H => ?_)))
      have cl : s.late t now = false := by simp only [BS.late, Bool.and_eq_false_iff, decide_eq_false_iff_not]; left; omega
      refine (poolRow a.pool q hq t ⟨h1, by omega⟩).go H (_ :: _ :: _ :: _ :: (seatL a.sa s.ss ++ portL a.pa p)) B (by simp; exact ⟨rfl, rfl, rfl, rfl⟩) (fun r A w' hr H => ?_)
      obtain ⟨b, cap, more, rfl, rfl⟩ := hr
      refine ⟨_, _, _, rfl, ?_⟩
      simp only [List.cons_append, List.nil_append, List.append_assoc] at H
      (repeat (first | refine PtrSome_at ?_ | refine andOne ?_ | ((first | apply exSlice | apply exInt | apply exBool | apply exPtr | apply exVal | apply andCell | apply andBd | apply andCan | apply andThere); · exact tC_Kc) | (refine toSet ?_; refine tS_Kc H (fun w H => ?_)) | (refine toSets ?_; refine tG_Kc H (fun w H => ?_)) | refine H.drewK (fun w H => ?_) | refine H.allocK (fun w H => ?_)))
      have H' := H.to (L' := [_, _] ++ ((aboL a s ++ portL a.pa p) ++ ((b, ints .i64 (q.row t ++ more)) :: (poolL a.pool q ++ B)))) (by simp [aboL]; exact ⟨rfl, rfl⟩)
      refine (aboLock a s p hs hp t u false ht (some ⟨b, 0, none⟩) (q.row t) cap (fun c0 => by rw [QS.row_len hq ⟨h1, by omega⟩]; exact htr t c1 c0)).go H' [_, _] _ rfl (RO.mem H' (b := b) (cs := ints .i64 (q.row t ++ more)) (by simp) (St.notin H' (p := (b, ints .i64 (q.row t ++ more))) (by simp)) (fun j v hv => by
        rw [Nat.zero_add, ints, List.map_append]
        rw [List.getElem?_append_left (by simpa using (List.getElem?_eq_some_iff.1 hv).1)]; exact hv)) (fun r A w' hr H => ?_)
      obtain ⟨rfl, rfl⟩ := hr
      refine ⟨_, _, _, _, rfl, ?_⟩
      have H := St.drop1 (X := _ :: _ :: (aboL a (s.lockS p t u false (q.row t)) ++ portL a.pa (s.lockP p t u (q.row t)))) (H.to (by simp; exact ⟨rfl, rfl, rfl, rfl⟩))
      have l1 := abo_lockS_len s p t u false (q.row t)
      have l2 := abo_lockS_ss s p t u false (q.row t)
      have l3 : t.toNat < (s.lockS p t u false (q.row t)).places.length := by omega
      have l4 : (s.lockS p t u false (q.row t)).ss.l.length = s.ss.l.length := by rw [l2]
      (try simp only [List.cons_append, List.nil_append, List.append_assoc, aboL] at H ⊢)
      (repeat (first | refine PtrSome_at ?_ | refine andOne ?_ | ((first | apply exSlice | apply exInt | apply exBool | apply exPtr | apply exVal | apply andCell | apply andBd | apply andCan | apply andThere); · exact tC_Kc) | (refine toSet ?_; refine tS_Kc H (fun w H => ?_)) | (refine toSets ?_; refine tG_Kc H (fun w H => ?_)) | refine H.drewK (fun w H => ?_) | refine H.allocK (fun w H => ?_)))
      (refine (seatEnd a.sa (s.lockS p t u false (q.row t)).ss t (s.lockD p t u false (q.row t)).ev).go H [_, _, _, _] _ rfl (fun w H => ?_); (try simp only [List.cons_append, List.nil_append, List.append_assoc] at H); (first | refine ⟨_, rfl, ?_⟩ | refine ⟨rfl, ?_⟩ | refine ⟨_, _, _, _, rfl, ?_⟩ | refine ⟨_, _, rfl, ?_⟩))
      cases c4 : (s.lockS p t u false (q.row t)).ss.endB t (s.lockD p t u false (q.row t)).ev
      · simp only [Br_false]
        rw [l2] at c4
        (repeat (first | refine PtrSome_at ?_ | refine andOne ?_ | ((first | apply exSlice | apply exInt | apply exBool | apply exPtr | apply exVal | apply andCell | apply andBd | apply andCan | apply andThere); · exact tC_Kc) | (refine toSet ?_; refine tS_Kc H (fun w H => ?_)) | (refine toSets ?_; refine tG_Kc H (fun w H => ?_)) | refine H.drewK (fun w H => ?_) | refine H.allocK (fun w H => ?_)))
        refine ⟨?_, H.tail.tail.to ?_⟩
        · simp [BS.stepE, c1, cl]
        · simp [BS.stepS, BS.stepI, BS.stepE, BS.stepP, BS.endS, c1, cl, c4, aboL, l2, SS.end_]
      · simp only [Br_true]
        rw [l2] at c4
        (repeat (first | refine PtrSome_at ?_ | refine andOne ?_ | ((first | apply exSlice | apply exInt | apply exBool | apply exPtr | apply exVal | apply andCell | apply andBd | apply andCan | apply andThere); · exact tC_Kc) | (refine toSet ?_; refine tS_Kc H (fun w H => ?_)) | (refine toSets ?_; refine tG_Kc H (fun w H => ?_)) | refine H.drewK (fun w H => ?_) | refine H.allocK (fun w H => ?_)))
        refine ⟨?_, H.tail.tail.to ?_⟩
        · simp [BS.stepE, c1, cl]
        · simp [BS.stepS, BS.stepI, BS.stepE, BS.stepP, BS.endS, c1, cl, c4, aboL, l2, BS.node, BS.pl]
  · refine Br_neq c1 ?_
    by_cases c2 : s.ss.state t = 3
    · have ht := state_there c2 (by decide)
      obtain ⟨h1, h2⟩ := seat_there ht
      have l1 := abo_unS_len s p t u
      have l2 := abo_unS_ss s p t u
      have l3 : t.toNat < (s.unS p t u).places.length := by omega
      have l4 : (s.unS p t u).ss.l.length = s.ss.l.length := by rw [l2]
      refine Br_eq c2 ?_
      (repeat (first | refine PtrSome_at ?_ | refine andOne ?_ | ((first | apply exSlice | apply exInt | apply exBool | apply exPtr | apply exVal | apply andCell | apply andBd | apply andCan | apply andThere); · exact tC_Kc) | (refine toSet ?_; refine tS_Kc H (fun w H => ?_)) | (refine toSets ?_; refine tG_Kc H (fun w H => ?_)) | refine H.drewK (fun w H => ?_) | refine H.allocK (fun w H => ?_)))
      (refine (aboUn a s p hs hp t u ht).go H [_, _] _ rfl (fun w H => ?_); (try simp only [List.cons_append, List.nil_append, List.append_assoc] at H); (first | refine ⟨_, rfl, ?_⟩ | refine ⟨rfl, ?_⟩ | refine ⟨_, _, _, _, rfl, ?_⟩ | refine ⟨_, _, rfl, ?_⟩))
      (try simp only [List.cons_append, List.nil_append, List.append_assoc, aboL] at H ⊢)
      (repeat (first | refine PtrSome_at ?_ | refine andOne ?_ | ((first | apply exSlice | apply exInt | apply exBool | apply exPtr | apply exVal | apply andCell | apply andBd | apply andCan | apply andThere); · exact tC_Kc) | (refine toSet ?_; refine tS_Kc H (fun w H => ?_)) | (refine toSets ?_; refine tG_Kc H (fun w H => ?_)) | refine H.drewK (fun w H => ?_) | refine H.allocK (fun w H => ?_)))
      (refine (seatEnd a.sa (s.unS p t u).ss t (s.unE t)).go H [_, _, _, _] _ rfl (fun w H => ?_); (try simp only [List.cons_append, List.nil_append, List.append_assoc] at H); (first | refine ⟨_, rfl, ?_⟩ | refine ⟨rfl, ?_⟩ | refine ⟨_, _, _, _, rfl, ?_⟩ | refine ⟨_, _, rfl, ?_⟩))
      cases c4 : (s.unS p t u).ss.endB t (s.unE t)
      · simp only [Br_false]
        rw [l2] at c4
        (repeat (first | refine PtrSome_at ?_ | refine andOne ?_ | ((first | apply exSlice | apply exInt | apply exBool | apply exPtr | apply exVal | apply andCell | apply andBd | apply andCan | apply andThere); · exact tC_Kc) | (refine toSet ?_; refine tS_Kc H (fun w H => ?_)) | (refine toSets ?_; refine tG_Kc H (fun w H => ?_)) | refine H.drewK (fun w H => ?_) | refine H.allocK (fun w H => ?_)))
        refine ⟨?_, H.tail.tail.to ?_⟩
        · simp [BS.stepE, c2]
        · simp [BS.stepS, BS.stepI, BS.stepE, BS.stepP, BS.endS, c2, c4, aboL, l2, SS.end_]
      · simp only [Br_true]
        rw [l2] at c4
        (repeat (first | refine PtrSome_at ?_ | refine andOne ?_ | ((first | apply exSlice | apply exInt | apply exBool | apply exPtr | apply exVal | apply andCell | apply andBd | apply andCan | apply andThere); · exact tC_Kc) | (refine toSet ?_; refine tS_Kc H (fun w H => ?_)) | (refine toSets ?_; refine tG_Kc H (fun w H => ?_)) | refine H.drewK (fun w H => ?_) | refine H.allocK (fun w H => ?_)))
        refine ⟨?_, H.tail.tail.to ?_⟩
        · simp [BS.stepE, c2]
        · simp [BS.stepS, BS.stepI, BS.stepE, BS.stepP, BS.endS, c2, c4, aboL, l2, BS.node, BS.pl]
    · refine Br_neq c2 ?_
      (repeat (first | refine PtrSome_at ?_ | refine andOne ?_ | ((first | apply exSlice | apply exInt | apply exBool | apply exPtr | apply exVal | apply andCell | apply andBd | apply andCan | apply andThere); · exact tC_Kc) | (refine toSet ?_; refine tS_Kc H (fun w H => ?_)) | (refine toSets ?_; refine tG_Kc H (fun w H => ?_)) | refine H.drewK (fun w H => ?_) | refine H.allocK (fun w H => ?_)))
      (refine (seatEnd a.sa s.ss t 0).go H [_, _, _, _] _ rfl (fun w H => ?_); (try simp only [List.cons_append, List.nil_append, List.append_assoc] at H); (first | refine ⟨_, rfl, ?_⟩ | refine ⟨rfl, ?_⟩ | refine ⟨_, _, _, _, rfl, ?_⟩ | refine ⟨_, _, rfl, ?_⟩))
      cases c4 : s.ss.endB t 0
      · simp only [Br_false]
        (repeat (first | refine PtrSome_at ?_ | refine andOne ?_ | ((first | apply exSlice | apply exInt | apply exBool | apply exPtr | apply exVal | apply andCell | apply andBd | apply andCan | apply andThere); · exact tC_Kc) | (refine toSet ?_; refine tS_Kc H (fun w H => ?_)) | (refine toSets ?_; refine tG_Kc H (fun w H => ?_)) | refine H.drewK (fun w H => ?_) | refine H.allocK (fun w H => ?_)))
        refine ⟨?_, H.tail.tail.to ?_⟩
        · simp [BS.stepE, c1, c2]
        · simp [BS.stepS, BS.stepI, BS.stepE, BS.stepP, BS.endS, c1, c2, c4, aboL, SS.end_]
      · have ht := endB_there c4
        obtain ⟨h1, h2⟩ := seat_there ht
        simp only [Br_true]
        (repeat (first | refine PtrSome_at ?_ | refine andOne ?_ | ((first | apply exSlice | apply exInt | apply exBool | apply exPtr | apply exVal | apply andCell | apply andBd | apply andCan | apply andThere); · exact tC_Kc) | (refine toSet ?_; refine tS_Kc H (fun w H => ?_)) | (refine toSets ?_; refine tG_Kc H (fun w H => ?_)) | refine H.drewK (fun w H => ?_) | refine H.allocK (fun w H => ?_)))
        refine ⟨?_, H.tail.tail.to ?_⟩
        · simp [BS.stepE, c1, c2]
        · simp [BS.stepS, BS.stepI, BS.stepE, BS.stepP, BS.endS, c1, c2, c4, aboL, BS.node, BS.pl]
end Go.Proofs.YtollfjfcdofbaaaGreat
