/- Contracts: the steps of the lock of locks, the others. -/
import Derived.Test.YtollfjfcdofbaaaGreatLd
namespace Go.Proofs.YtollfjfcdofbaaaGreat
open Go Go.Proofs
set_option linter.unusedSimpArgs false
set_option linter.unusedVariables false
set_option maxRecDepth 100000
set_option maxHeartbeats 4000000
-- NB 4
-- ROW coRow 4
-- NOX coRow
-- NSET co_t0, co_t1, co_t2, co_t3, co_t4, co_t5, co_t6, co_t7, co_t8, co_t9, co_t10, co_pass

section
variable {w0 w : World} {S : List Nat} {h0 h1 h2 h3 : Nat × List Value} {Q G G' X l l' Y B : Blocks} {pa : PA} {p p' : PS} {r v : Value} {name : String} {args : Array Value} {K : Ending → World → Prop} {f : FuncId}
theorem coGS4 (h : SpI v name args (G ++ portL pa p) r (G' ++ portL pa p')) (H : St w0 S w (h0 :: h1 :: h2 :: h3 :: (Q ++ (G ++ (X ++ (l ++ (Y ++ (portL pa p ++ B))))))))
    (k : ∀ w', St w0 S w' (h0 :: h1 :: h2 :: h3 :: (Q ++ (G' ++ (X ++ (l ++ (Y ++ (portL pa p' ++ B))))))) → K (.returned r) w') : Invoke Tryz.prog v name args w K :=
  h.go2 H (h0 :: h1 :: h2 :: h3 :: Q) (X ++ (l ++ Y)) B (by simp) (fun w' H' => k w' (H'.to (by simp)))
theorem coLS4 (h : SpI v name args (l ++ portL pa p) r (l' ++ portL pa p')) (H : St w0 S w (h0 :: h1 :: h2 :: h3 :: (Q ++ (G ++ (X ++ (l ++ (Y ++ (portL pa p ++ B))))))))
    (k : ∀ w', St w0 S w' (h0 :: h1 :: h2 :: h3 :: (Q ++ (G ++ (X ++ (l' ++ (Y ++ (portL pa p' ++ B))))))) → K (.returned r) w') : Invoke Tryz.prog v name args w K :=
  h.go2 H (h0 :: h1 :: h2 :: h3 :: (Q ++ (G ++ X))) Y B (by simp) (fun w' H' => k w' (H'.to (by simp)))
end
theorem tC_Le {P : Prop} (h : P := by (first | ((first | refine bkCell (H.bkAt 0 rfl) ?_ | refine bkCell (H.bkAt 1 rfl) ?_ | refine bkCell (H.bkAt 2 rfl) ?_ | refine bkCell (H.bkAt 3 rfl) ?_); (first | rfl | ((first | refine ints_at0 ?_ | refine bools_at0 ?_ | refine rows_at1 (f := accRow) (s := 2) (fun _ => rfl) (by decide) ?_ rfl | refine rows_at0 (f := accRow) (s := 2) (fun _ => rfl) (by decide) ?_ rfl | refine rows_at1 (f := coRow) (s := 4) (fun _ => rfl) (by decide) ?_ rfl | refine rows_at0 (f := coRow) (s := 4) (fun _ => rfl) (by decide) ?_ rfl); first | omega | assumption | (simp only [List.length_set, List.length_append, List.length_cons, List.length_nil, List.length_map, List.length_replicate, List.length_drop, List.length_take]; omega)))) | ((first | refine bkCan (H.bkAt 0 rfl) ?_ | refine bkCan (H.bkAt 1 rfl) ?_ | refine bkCan (H.bkAt 2 rfl) ?_ | refine bkCan (H.bkAt 3 rfl) ?_); (first | decide | ((first | refine ints_lt ?_ | refine bools_lt ?_ | refine rows_lt1 (f := accRow) (s := 2) (fun _ => rfl) (by decide) ?_ | refine rows_lt0 (f := accRow) (s := 2) (fun _ => rfl) (by decide) ?_ | refine rows_lt1 (f := coRow) (s := 4) (fun _ => rfl) (by decide) ?_ | refine rows_lt0 (f := coRow) (s := 4) (fun _ => rfl) (by decide) ?_); first | omega | assumption | (simp only [List.length_set, List.length_append, List.length_cons, List.length_nil, List.length_map, List.length_replicate, List.length_drop, List.length_take]; omega)) | (simp only [List.length_cons, List.length_nil]; omega))) | ((first | refine bkThere (H.bkAt 0 rfl) ?_ | refine bkThere (H.bkAt 1 rfl) ?_ | refine bkThere (H.bkAt 2 rfl) ?_ | refine bkThere (H.bkAt 3 rfl) ?_); (first | decide | (simp only [List.length_cons, List.length_nil]; omega) | (refine rows_le (f := accRow) (s := 2) (fun _ => rfl) ?_; first | omega | assumption | (simp only [List.length_set, List.length_append, List.length_cons, List.length_nil, List.length_map, List.length_replicate, List.length_drop, List.length_take]; omega)) | (refine rows_le (f := coRow) (s := 4) (fun _ => rfl) ?_; first | omega | assumption | (simp only [List.length_set, List.length_append, List.length_cons, List.length_nil, List.length_map, List.length_replicate, List.length_drop, List.length_take]; omega)))) | exact ⟨by omega, by omega⟩)) : P := h
theorem tS_Le {w0 w : World} {S : List Nat} {L L' : Blocks} {b o : Nat} {v : Value} {K : World → Prop} (H : St w0 S w L) (k : ∀ w', St w0 S w' L' → K w') (h : SetG w b o v (fun w' => St w0 S w' L') := by ((first | refine bkSet H 0 rfl (fun w H => ?_) | refine bkSet H 1 rfl (fun w H => ?_) | refine bkSet H 2 rfl (fun w H => ?_) | refine bkSet H 3 rfl (fun w H => ?_)); (try simp only [List.set_cons_succ, List.set_cons_zero, ints_set0, bools_set0, pair_set0, pair_set1, co_t0, co_t1, co_t2, co_t3, co_t4, co_t5, co_t6, co_t7, co_t8, co_t9, co_t10, co_pass] at H); exact H)) : SetG w b o v K := k _ h
theorem tG_Le {w0 w : World} {S : List Nat} {L L' : Blocks} {b o : Nat} {vs : List Value} {K : World → Prop} (H : St w0 S w L) (k : ∀ w', St w0 S w' L' → K w') (h : SetsG w b o vs (fun w' => St w0 S w' L') := by ((first | refine bkSetsF H 0 rfl rfl (fun w H => ?_) | refine bkSetsF H 1 rfl rfl (fun w H => ?_) | refine bkSetsF H 2 rfl rfl (fun w H => ?_) | refine bkSetsF H 3 rfl rfl (fun w H => ?_) | (refine bkSetsP H 0 rfl ?_ (fun w H => ?_); · first | omega | assumption | (simp only [List.length_set, List.length_append, List.length_cons, List.length_nil, List.length_map, List.length_replicate, List.length_drop, List.length_take]; omega)) | (refine bkSetsP H 1 rfl ?_ (fun w H => ?_); · first | omega | assumption | (simp only [List.length_set, List.length_append, List.length_cons, List.length_nil, List.length_map, List.length_replicate, List.length_drop, List.length_take]; omega)) | (refine bkSetsP H 2 rfl ?_ (fun w H => ?_); · first | omega | assumption | (simp only [List.length_set, List.length_append, List.length_cons, List.length_nil, List.length_map, List.length_replicate, List.length_drop, List.length_take]; omega)) | (refine bkSetsP H 3 rfl ?_ (fun w H => ?_); · first | omega | assumption | (simp only [List.length_set, List.length_append, List.length_cons, List.length_nil, List.length_map, List.length_replicate, List.length_drop, List.length_take]; omega)) ); (try simp only [List.set_cons_succ, List.set_cons_zero, ints_set0, bools_set0, pair_set0, pair_set1, co_t0, co_t1, co_t2, co_t3, co_t4, co_t5, co_t6, co_t7, co_t8, co_t9, co_t10, co_pass] at H); exact H)) : SetsG w b o vs K := k _ h
theorem cohLocal (a : CA) (s : CS) (p : PS) (hf : s.fits a) (ho : s.ok) (hp : p.wf) (t u now : Int) (ht : s.ss.there t = true) :
    Sp Tryz.prog 178 #[ptr a.l, .pointer (some ⟨a.rb, 0 + t.toNat * 4, none⟩), i64 u, i64 now] (cohL a s ++ portL a.pa p) (didV (s.doE p t u 1)) (cohL a (s.doS p t u 1) ++ portL a.pa (s.doP p t u 1)) := by
  obtain ⟨h1, h2⟩ := seat_there ht
  have e1 : s.places.length = s.ss.l.length := ho.len
  have e2 : t.toNat < s.places.length := by omega
  obtain ⟨hn, x, hx⟩ := ho.node t ht
  obtain ⟨a1, X, Y, ha1, hfx, hwx, hset, hfit⟩ := locs_at hf.locs hx
  have hpa1 : a1.pa = a.pa := hf.pl _ (List.mem_of_getElem? ha1) _ rfl
  have hpg : a.glob.pa = a.pa := hf.pg
  have hloc : s.loc t = x := by simp [CS.loc, List.getD_eq_getElem?_getD, hx]
  have hsame := hset x
  rw [locs_same hx] at hsame
  have hset' := hset
  simp only [CS.pl, List.getD_eq_getElem?_getD] at hset'
  have hset'' := hset
  simp only [CS.pl, List.getD_eq_getElem?_getD, List.getElem?_eq_getElem e2, Option.getD_some] at hset''
  have hcell : ∀ P0 : List Value, P0.length = 5 → ∀ Z : List Value, (P0 ++ (a.locs.map optV ++ Z))[5 + (s.pl t).node.toNat]? = some a1.v := fun P0 h5 Z => coCell ha1 h5
  intro w0 S w B H
  simp only [cohL, hsame, List.cons_append, List.append_assoc] at H
  have hst := liStep hfx hwx hp (s.pl t).inner u now
  rw [hpa1] at hst
  refine callsCohortLock_local _ _ _ _ _ _ _ ?_
  unfold preCohortLock_local
  (repeat (first | refine PtrSome_at ?_ | refine andOne ?_ | ((first | apply exSlice | apply exInt | apply exBool | apply exPtr | apply exVal | apply andCell | apply andBd | apply andCan | apply andThere); · exact tC_Le) | (refine toSet ?_; refine tS_Le H (fun w H => ?_)) | (refine toSets ?_; refine tG_Le H (fun w H => ?_)) | refine H.drewK (fun w H => ?_) | refine H.allocK (fun w H => ?_)))
  refine ⟨hn, exVal (H.cell 1 rfl (hcell [_, _, _, _, _] rfl _)) ?_⟩
  (repeat (first | refine PtrSome_at ?_ | refine andOne ?_ | ((first | apply exSlice | apply exInt | apply exBool | apply exPtr | apply exVal | apply andCell | apply andBd | apply andCan | apply andThere); · exact tC_Le) | (refine toSet ?_; refine tS_Le H (fun w H => ?_)) | (refine toSets ?_; refine tG_Le H (fun w H => ?_)) | refine H.drewK (fun w H => ?_) | refine H.allocK (fun w H => ?_)))
  refine rawIf_v (fun ty iv e => ?_)
  rw [← e]
  refine ⟨?_, ?_⟩
  · refine coLS hst H (fun w H => ⟨_, _, _, _, rfl, ?_⟩)
    (repeat (first | refine PtrSome_at ?_ | refine andOne ?_ | ((first | apply exSlice | apply exInt | apply exBool | apply exPtr | apply exVal | apply andCell | apply andBd | apply andCan | apply andThere); · exact tC_Le) | (refine toSet ?_; refine tS_Le H (fun w H => ?_)) | (refine toSets ?_; refine tG_Le H (fun w H => ?_)) | refine H.drewK (fun w H => ?_) | refine H.allocK (fun w H => ?_)))
    by_cases c : (x.stepE p (s.pl t).inner u).ev = 1
    · refine Br_eq c ?_
      (repeat (first | refine PtrSome_at ?_ | refine andOne ?_ | ((first | apply exSlice | apply exInt | apply exBool | apply exPtr | apply exVal | apply andCell | apply andBd | apply andCan | apply andThere); · exact tC_Le) | (refine toSet ?_; refine tS_Le H (fun w H => ?_)) | (refine toSets ?_; refine tG_Le H (fun w H => ?_)) | refine H.drewK (fun w H => ?_) | refine H.allocK (fun w H => ?_)))
      refine ⟨?_, H.tail.tail.to ?_⟩
      · simp [CS.doE, hloc]
      · simp only [CS.doS, CS.doP, hloc, if_pos c]
        simp [cohL, CS.setLoc, hset', CS.todo, CS.put, CS.pl]
    · refine Br_neq c ?_
      (repeat (first | refine PtrSome_at ?_ | refine andOne ?_ | ((first | apply exSlice | apply exInt | apply exBool | apply exPtr | apply exVal | apply andCell | apply andBd | apply andCan | apply andThere); · exact tC_Le) | (refine toSet ?_; refine tS_Le H (fun w H => ?_)) | (refine toSets ?_; refine tG_Le H (fun w H => ?_)) | refine H.drewK (fun w H => ?_) | refine H.allocK (fun w H => ?_)))
      refine ⟨?_, H.tail.tail.to ?_⟩
      · simp [CS.doE, hloc]
      · simp only [CS.doS, CS.doP, hloc, if_neg c]
        simp [cohL, CS.setLoc, hset', CS.todo, CS.put, CS.pl]
  · refine H.allocK (fun w H => ⟨H.cell 3 rfl (rows_at1 (f := coRow) (s := 4) (j := 1) (v := i64 (s.pl t).inner) (fun _ => rfl) (by decide) e2 rfl), H.cell 2 rfl (hcell [_, _, _, _, _] rfl _), ?_⟩)
    (repeat (first | refine PtrSome_at ?_ | refine andOne ?_ | ((first | apply exSlice | apply exInt | apply exBool | apply exPtr | apply exVal | apply andCell | apply andBd | apply andCan | apply andThere); · exact tC_Le) | (refine toSet ?_; refine tS_Le H (fun w H => ?_)) | (refine toSets ?_; refine tG_Le H (fun w H => ?_)) | refine H.drewK (fun w H => ?_) | refine H.allocK (fun w H => ?_)))
    refine coLS4 hst H (fun w H => ⟨_, _, _, _, rfl, ?_⟩)
    (repeat (first | refine PtrSome_at ?_ | refine andOne ?_ | ((first | apply exSlice | apply exInt | apply exBool | apply exPtr | apply exVal | apply andCell | apply andBd | apply andCan | apply andThere); · exact tC_Le) | (refine toSet ?_; refine tS_Le H (fun w H => ?_)) | (refine toSets ?_; refine tG_Le H (fun w H => ?_)) | refine H.drewK (fun w H => ?_) | refine H.allocK (fun w H => ?_)))
    by_cases c : (x.stepE p (s.pl t).inner u).ev = 1
    · refine Br_eq c ?_
      (repeat (first | refine PtrSome_at ?_ | refine andOne ?_ | ((first | apply exSlice | apply exInt | apply exBool | apply exPtr | apply exVal | apply andCell | apply andBd | apply andCan | apply andThere); · exact tC_Le) | (refine toSet ?_; refine tS_Le H (fun w H => ?_)) | (refine toSets ?_; refine tG_Le H (fun w H => ?_)) | refine H.drewK (fun w H => ?_) | refine H.allocK (fun w H => ?_)))
      refine ⟨?_, H.tail.tail.to ?_⟩
      · simp [CS.doE, hloc]
      · simp only [CS.doS, CS.doP, hloc, if_pos c]
        simp [cohL, CS.setLoc, hset', CS.todo, CS.put, CS.pl]
    · refine Br_neq c ?_
      (repeat (first | refine PtrSome_at ?_ | refine andOne ?_ | ((first | apply exSlice | apply exInt | apply exBool | apply exPtr | apply exVal | apply andCell | apply andBd | apply andCan | apply andThere); · exact tC_Le) | (refine toSet ?_; refine tS_Le H (fun w H => ?_)) | (refine toSets ?_; refine tG_Le H (fun w H => ?_)) | refine H.drewK (fun w H => ?_) | refine H.allocK (fun w H => ?_)))
      refine ⟨?_, H.tail.tail.to ?_⟩
      · simp [CS.doE, hloc]
      · simp only [CS.doS, CS.doP, hloc, if_neg c]
        simp [cohL, CS.setLoc, hset', CS.todo, CS.put, CS.pl]
theorem cohWide (a : CA) (s : CS) (p : PS) (hf : s.fits a) (ho : s.ok) (hp : p.wf) (t u now : Int) (ht : s.ss.there t = true) :
    Sp Tryz.prog 219 #[ptr a.l, .pointer (some ⟨a.rb, 0 + t.toNat * 4, none⟩), i64 u, i64 now] (cohL a s ++ portL a.pa p) (didV (s.doE p t u 3)) (cohL a (s.doS p t u 3) ++ portL a.pa (s.doP p t u 3)) := by
  obtain ⟨h1, h2⟩ := seat_there ht
  have e1 : s.places.length = s.ss.l.length := ho.len
  have e2 : t.toNat < s.places.length := by omega
  obtain ⟨hn, x, hx⟩ := ho.node t ht
  obtain ⟨a1, X, Y, ha1, hfx, hwx, hset, hfit⟩ := locs_at hf.locs hx
  have hpa1 : a1.pa = a.pa := hf.pl _ (List.mem_of_getElem? ha1) _ rfl
  have hpg : a.glob.pa = a.pa := hf.pg
  have hloc : s.loc t = x := by simp [CS.loc, List.getD_eq_getElem?_getD, hx]
  have hsame := hset x
  rw [locs_same hx] at hsame
  have hset' := hset
  simp only [CS.pl, List.getD_eq_getElem?_getD] at hset'
  have hset'' := hset
  simp only [CS.pl, List.getD_eq_getElem?_getD, List.getElem?_eq_getElem e2, Option.getD_some] at hset''
  have hcell : ∀ P0 : List Value, P0.length = 5 → ∀ Z : List Value, (P0 ++ (a.locs.map optV ++ Z))[5 + (s.pl t).node.toNat]? = some a1.v := fun P0 h5 Z => coCell ha1 h5
  intro w0 S w B H
  simp only [cohL, hsame, List.cons_append, List.append_assoc] at H
  have hst := liStep hf.glob hf.gwf hp (s.pl t).node u now
  rw [hpg] at hst
  refine callsCohortLock_wide _ _ _ _ _ _ _ ?_
  unfold preCohortLock_wide
  (repeat (first | refine PtrSome_at ?_ | refine andOne ?_ | ((first | apply exSlice | apply exInt | apply exBool | apply exPtr | apply exVal | apply andCell | apply andBd | apply andCan | apply andThere); · exact tC_Le) | (refine toSet ?_; refine tS_Le H (fun w H => ?_)) | (refine toSets ?_; refine tG_Le H (fun w H => ?_)) | refine H.drewK (fun w H => ?_) | refine H.allocK (fun w H => ?_)))
  refine exVal (H.cell 1 rfl rfl) ?_
  (repeat (first | refine PtrSome_at ?_ | refine andOne ?_ | ((first | apply exSlice | apply exInt | apply exBool | apply exPtr | apply exVal | apply andCell | apply andBd | apply andCan | apply andThere); · exact tC_Le) | (refine toSet ?_; refine tS_Le H (fun w H => ?_)) | (refine toSets ?_; refine tG_Le H (fun w H => ?_)) | refine H.drewK (fun w H => ?_) | refine H.allocK (fun w H => ?_)))
  refine rawIf_v (fun ty iv e => ?_)
  rw [← e]
  refine ⟨?_, ?_⟩
  · refine coGS hst H (fun w H => ⟨_, _, _, _, rfl, ?_⟩)
    (repeat (first | refine PtrSome_at ?_ | refine andOne ?_ | ((first | apply exSlice | apply exInt | apply exBool | apply exPtr | apply exVal | apply andCell | apply andBd | apply andCan | apply andThere); · exact tC_Le) | (refine toSet ?_; refine tS_Le H (fun w H => ?_)) | (refine toSets ?_; refine tG_Le H (fun w H => ?_)) | refine H.drewK (fun w H => ?_) | refine H.allocK (fun w H => ?_)))
    by_cases c : (s.glob.stepE p (s.pl t).node u).ev = 1
    · refine Br_eq c ?_
      (repeat (first | refine PtrSome_at ?_ | refine andOne ?_ | ((first | apply exSlice | apply exInt | apply exBool | apply exPtr | apply exVal | apply andCell | apply andBd | apply andCan | apply andThere); · exact tC_Le) | (refine toSet ?_; refine tS_Le H (fun w H => ?_)) | (refine toSets ?_; refine tG_Le H (fun w H => ?_)) | refine H.drewK (fun w H => ?_) | refine H.allocK (fun w H => ?_)))
      refine ⟨?_, H.tail.tail.to ?_⟩
      · simp [CS.doE]
      · simp only [CS.doS, CS.doP, if_pos c]
        simp [cohL, hsame, CS.todo, CS.put, CS.pl]
    · refine Br_neq c ?_
      (repeat (first | refine PtrSome_at ?_ | refine andOne ?_ | ((first | apply exSlice | apply exInt | apply exBool | apply exPtr | apply exVal | apply andCell | apply andBd | apply andCan | apply andThere); · exact tC_Le) | (refine toSet ?_; refine tS_Le H (fun w H => ?_)) | (refine toSets ?_; refine tG_Le H (fun w H => ?_)) | refine H.drewK (fun w H => ?_) | refine H.allocK (fun w H => ?_)))
      refine ⟨?_, H.tail.tail.to ?_⟩
      · simp [CS.doE]
      · simp only [CS.doS, CS.doP, if_neg c]
        simp [cohL, hsame, CS.todo, CS.put, CS.pl]
  · refine H.allocK (fun w H => ⟨H.cell 3 rfl (rows_at0 (f := coRow) (s := 4) (v := i64 (s.pl t).node) (fun _ => rfl) (by decide) e2 rfl), H.cell 2 rfl rfl, ?_⟩)
    refine coGS4 hst H (fun w H => ⟨_, _, _, _, rfl, ?_⟩)
    (repeat (first | refine PtrSome_at ?_ | refine andOne ?_ | ((first | apply exSlice | apply exInt | apply exBool | apply exPtr | apply exVal | apply andCell | apply andBd | apply andCan | apply andThere); · exact tC_Le) | (refine toSet ?_; refine tS_Le H (fun w H => ?_)) | (refine toSets ?_; refine tG_Le H (fun w H => ?_)) | refine H.drewK (fun w H => ?_) | refine H.allocK (fun w H => ?_)))
    by_cases c : (s.glob.stepE p (s.pl t).node u).ev = 1
    · refine Br_eq c ?_
      (repeat (first | refine PtrSome_at ?_ | refine andOne ?_ | ((first | apply exSlice | apply exInt | apply exBool | apply exPtr | apply exVal | apply andCell | apply andBd | apply andCan | apply andThere); · exact tC_Le) | (refine toSet ?_; refine tS_Le H (fun w H => ?_)) | (refine toSets ?_; refine tG_Le H (fun w H => ?_)) | refine H.drewK (fun w H => ?_) | refine H.allocK (fun w H => ?_)))
      refine ⟨?_, H.tail.tail.to ?_⟩
      · simp [CS.doE]
      · simp only [CS.doS, CS.doP, if_pos c]
        simp [cohL, hsame, CS.todo, CS.put, CS.pl]
    · refine Br_neq c ?_
      (repeat (first | refine PtrSome_at ?_ | refine andOne ?_ | ((first | apply exSlice | apply exInt | apply exBool | apply exPtr | apply exVal | apply andCell | apply andBd | apply andCan | apply andThere); · exact tC_Le) | (refine toSet ?_; refine tS_Le H (fun w H => ?_)) | (refine toSets ?_; refine tG_Le H (fun w H => ?_)) | refine H.drewK (fun w H => ?_) | refine H.allocK (fun w H => ?_)))
      refine ⟨?_, H.tail.tail.to ?_⟩
      · simp [CS.doE]
      · simp only [CS.doS, CS.doP, if_neg c]
        simp [cohL, hsame, CS.todo, CS.put, CS.pl]
theorem cohProbe (a : CA) (s : CS) (p : PS) (hf : s.fits a) (ho : s.ok) (hp : p.wf) (t u now : Int) (ht : s.ss.there t = true) :
    Sp Tryz.prog 202 #[ptr a.l, .pointer (some ⟨a.rb, 0 + t.toNat * 4, none⟩), i64 u, i64 now] (cohL a s ++ portL a.pa p) (didV (s.doE p t u 6)) (cohL a (s.doS p t u 6) ++ portL a.pa (s.doP p t u 6)) := by
  obtain ⟨h1, h2⟩ := seat_there ht
  have e1 : s.places.length = s.ss.l.length := ho.len
  have e2 : t.toNat < s.places.length := by omega
  obtain ⟨hn, x, hx⟩ := ho.node t ht
  obtain ⟨a1, X, Y, ha1, hfx, hwx, hset, hfit⟩ := locs_at hf.locs hx
  have hpa1 : a1.pa = a.pa := hf.pl _ (List.mem_of_getElem? ha1) _ rfl
  have hpg : a.glob.pa = a.pa := hf.pg
  have hloc : s.loc t = x := by simp [CS.loc, List.getD_eq_getElem?_getD, hx]
  have hsame := hset x
  rw [locs_same hx] at hsame
  have hset' := hset
  simp only [CS.pl, List.getD_eq_getElem?_getD] at hset'
  have hset'' := hset
  simp only [CS.pl, List.getD_eq_getElem?_getD, List.getElem?_eq_getElem e2, Option.getD_some] at hset''
  have hcell : ∀ P0 : List Value, P0.length = 5 → ∀ Z : List Value, (P0 ++ (a.locs.map optV ++ Z))[5 + (s.pl t).node.toNat]? = some a1.v := fun P0 h5 Z => coCell ha1 h5
  intro w0 S w B H
  simp only [cohL, hsame, List.cons_append, List.append_assoc] at H
  have hst := liStep hfx hwx hp (s.pl t).inner u now
  rw [hpa1] at hst
  refine callsCohortLock_probe _ _ _ _ _ _ _ ?_
  unfold preCohortLock_probe
  (repeat (first | refine PtrSome_at ?_ | refine andOne ?_ | ((first | apply exSlice | apply exInt | apply exBool | apply exPtr | apply exVal | apply andCell | apply andBd | apply andCan | apply andThere); · exact tC_Le) | (refine toSet ?_; refine tS_Le H (fun w H => ?_)) | (refine toSets ?_; refine tG_Le H (fun w H => ?_)) | refine H.drewK (fun w H => ?_) | refine H.allocK (fun w H => ?_)))
  simp only [getD_set_self e2]
  refine ⟨hn, exVal (H.cell 1 rfl (hcell [_, _, _, _, _] rfl _)) ?_⟩
  (repeat (first | refine PtrSome_at ?_ | refine andOne ?_ | ((first | apply exSlice | apply exInt | apply exBool | apply exPtr | apply exVal | apply andCell | apply andBd | apply andCan | apply andThere); · exact tC_Le) | (refine toSet ?_; refine tS_Le H (fun w H => ?_)) | (refine toSets ?_; refine tG_Le H (fun w H => ?_)) | refine H.drewK (fun w H => ?_) | refine H.allocK (fun w H => ?_)))
  refine rawIf_v (fun ty iv e => ?_)
  rw [← e]
  simp only [getD_set_self e2]
  refine coLS hst H (fun w H => ⟨_, _, _, _, rfl, ?_⟩)
  by_cases c : (x.stepE p (s.pl t).inner u).ev = 5
  · refine Br_eq c ?_
    (repeat (first | refine PtrSome_at ?_ | refine andOne ?_ | ((first | apply exSlice | apply exInt | apply exBool | apply exPtr | apply exVal | apply andCell | apply andBd | apply andCan | apply andThere); · exact tC_Le) | (refine toSet ?_; refine tS_Le H (fun w H => ?_)) | (refine toSets ?_; refine tG_Le H (fun w H => ?_)) | refine H.drewK (fun w H => ?_) | refine H.allocK (fun w H => ?_)))
    refine ⟨rfl, H.tail.to ?_⟩
    simp only [CS.doS, CS.doP, hloc, if_pos c]
    simp [cohL, CS.setLoc, hset'', CS.todo, CS.put, CS.pl, e2]
  · refine Br_neq c ?_
    (repeat (first | refine PtrSome_at ?_ | refine andOne ?_ | ((first | apply exSlice | apply exInt | apply exBool | apply exPtr | apply exVal | apply andCell | apply andBd | apply andCan | apply andThere); · exact tC_Le) | (refine toSet ?_; refine tS_Le H (fun w H => ?_)) | (refine toSets ?_; refine tG_Le H (fun w H => ?_)) | refine H.drewK (fun w H => ?_) | refine H.allocK (fun w H => ?_)))
    refine ⟨rfl, H.tail.to ?_⟩
    simp only [CS.doS, CS.doP, hloc, if_neg c]
    simp [cohL, CS.setLoc, hset'', CS.todo, CS.put, CS.pl, e2]
theorem cohMore (a : CA) (s : CS) (p : PS) (hf : s.fits a) (ho : s.ok) (hp : p.wf) (t u now : Int) (ht : s.ss.there t = true) :
    Sp Tryz.prog 218 #[ptr a.l, .pointer (some ⟨a.rb, 0 + t.toNat * 4, none⟩), i64 u, i64 now] (cohL a s ++ portL a.pa p) (didV (s.doE p t u 7)) (cohL a (s.doS p t u 7) ++ portL a.pa (s.doP p t u 7)) := by
  obtain ⟨h1, h2⟩ := seat_there ht
  have e1 : s.places.length = s.ss.l.length := ho.len
  have e2 : t.toNat < s.places.length := by omega
  obtain ⟨hn, x, hx⟩ := ho.node t ht
  obtain ⟨a1, X, Y, ha1, hfx, hwx, hset, hfit⟩ := locs_at hf.locs hx
  have hpa1 : a1.pa = a.pa := hf.pl _ (List.mem_of_getElem? ha1) _ rfl
  have hpg : a.glob.pa = a.pa := hf.pg
  have hloc : s.loc t = x := by simp [CS.loc, List.getD_eq_getElem?_getD, hx]
  have hsame := hset x
  rw [locs_same hx] at hsame
  have hset' := hset
  simp only [CS.pl, List.getD_eq_getElem?_getD] at hset'
  have hset'' := hset
  simp only [CS.pl, List.getD_eq_getElem?_getD, List.getElem?_eq_getElem e2, Option.getD_some] at hset''
  have hcell : ∀ P0 : List Value, P0.length = 5 → ∀ Z : List Value, (P0 ++ (a.locs.map optV ++ Z))[5 + (s.pl t).node.toNat]? = some a1.v := fun P0 h5 Z => coCell ha1 h5
  intro w0 S w B H
  simp only [cohL, hsame, List.cons_append, List.append_assoc] at H
  refine callsCohortLock_more _ _ _ _ _ _ _ ?_
  unfold preCohortLock_more
  (repeat (first | refine PtrSome_at ?_ | refine andOne ?_ | ((first | apply exSlice | apply exInt | apply exBool | apply exPtr | apply exVal | apply andCell | apply andBd | apply andCan | apply andThere); · exact tC_Le) | (refine toSet ?_; refine tS_Le H (fun w H => ?_)) | (refine toSets ?_; refine tG_Le H (fun w H => ?_)) | refine H.drewK (fun w H => ?_) | refine H.allocK (fun w H => ?_)))
  refine coP (portStore a.pa p hp u (s.at_ t) (IntKind.u32.wrap ((s.pl t).pass + 1))) H (fun w H => ⟨rfl, ?_⟩)
  refine (cohAway a s (p.store u (s.at_ t) (IntKind.u32.wrap ((s.pl t).pass + 1))) hf ho t ht).go H [_] B (by simp only [cohL, hsame, List.cons_append, List.nil_append, List.append_assoc]; rfl) (fun w H => ⟨_, _, _, _, rfl, ?_⟩)
  simp only [List.cons_append, List.nil_append] at H
  (repeat (first | refine PtrSome_at ?_ | refine andOne ?_ | ((first | apply exSlice | apply exInt | apply exBool | apply exPtr | apply exVal | apply andCell | apply andBd | apply andCan | apply andThere); · exact tC_Le) | (refine toSet ?_; refine tS_Le H (fun w H => ?_)) | (refine toSets ?_; refine tG_Le H (fun w H => ?_)) | refine H.drewK (fun w H => ?_) | refine H.allocK (fun w H => ?_)))
  exact ⟨rfl, H.tail⟩
theorem cohLeave (a : CA) (s : CS) (p : PS) (hf : s.fits a) (ho : s.ok) (hp : p.wf) (t u now : Int) (ht : s.ss.there t = true) :
    Sp Tryz.prog 217 #[ptr a.l, .pointer (some ⟨a.rb, 0 + t.toNat * 4, none⟩), i64 u, i64 now] (cohL a s ++ portL a.pa p) (didV (s.doE p t u 9)) (cohL a (s.doS p t u 9) ++ portL a.pa (s.doP p t u 9)) := by
  obtain ⟨h1, h2⟩ := seat_there ht
  have e1 : s.places.length = s.ss.l.length := ho.len
  have e2 : t.toNat < s.places.length := by omega
  obtain ⟨hn, x, hx⟩ := ho.node t ht
  obtain ⟨a1, X, Y, ha1, hfx, hwx, hset, hfit⟩ := locs_at hf.locs hx
  have hpa1 : a1.pa = a.pa := hf.pl _ (List.mem_of_getElem? ha1) _ rfl
  have hpg : a.glob.pa = a.pa := hf.pg
  have hloc : s.loc t = x := by simp [CS.loc, List.getD_eq_getElem?_getD, hx]
  have hsame := hset x
  rw [locs_same hx] at hsame
  have hset' := hset
  simp only [CS.pl, List.getD_eq_getElem?_getD] at hset'
  have hset'' := hset
  simp only [CS.pl, List.getD_eq_getElem?_getD, List.getElem?_eq_getElem e2, Option.getD_some] at hset''
  have hcell : ∀ P0 : List Value, P0.length = 5 → ∀ Z : List Value, (P0 ++ (a.locs.map optV ++ Z))[5 + (s.pl t).node.toNat]? = some a1.v := fun P0 h5 Z => coCell ha1 h5
  intro w0 S w B H
  simp only [cohL, hsame, List.cons_append, List.append_assoc] at H
  have hst := liStep hf.glob hf.gwf hp (s.pl t).node u now
  rw [hpg] at hst
  refine callsCohortLock_leave _ _ _ _ _ _ _ ?_
  unfold preCohortLock_leave
  (repeat (first | refine PtrSome_at ?_ | refine andOne ?_ | ((first | apply exSlice | apply exInt | apply exBool | apply exPtr | apply exVal | apply andCell | apply andBd | apply andCan | apply andThere); · exact tC_Le) | (refine toSet ?_; refine tS_Le H (fun w H => ?_)) | (refine toSets ?_; refine tG_Le H (fun w H => ?_)) | refine H.drewK (fun w H => ?_) | refine H.allocK (fun w H => ?_)))
  refine exVal (H.cell 1 rfl rfl) ?_
  (repeat (first | refine PtrSome_at ?_ | refine andOne ?_ | ((first | apply exSlice | apply exInt | apply exBool | apply exPtr | apply exVal | apply andCell | apply andBd | apply andCan | apply andThere); · exact tC_Le) | (refine toSet ?_; refine tS_Le H (fun w H => ?_)) | (refine toSets ?_; refine tG_Le H (fun w H => ?_)) | refine H.drewK (fun w H => ?_) | refine H.allocK (fun w H => ?_)))
  refine rawIf_v (fun ty iv e => ?_)
  rw [← e]
  refine coGS hst H (fun w H => ⟨_, _, _, _, rfl, ?_⟩)
  by_cases c : (s.glob.stepE p (s.pl t).node u).ev = 3
  · refine Br_eq c ?_
    refine (cohAway a { s with glob := s.glob.stepS p (s.pl t).node u } (s.glob.stepP p (s.pl t).node u) ⟨LI.fits_stepS hf.glob _ _ _, LI.stepS_wf hf.gwf _ _ _, hf.locs, hf.pg, hf.pl⟩ ⟨ho.len, ho.eight, ho.node⟩ t ht).go H [_] B (by simp only [cohL, hsame, List.cons_append, List.nil_append, List.append_assoc]; rfl) (fun w H => ⟨_, _, _, _, rfl, ?_⟩)
    simp only [List.cons_append, List.nil_append] at H
    (repeat (first | refine PtrSome_at ?_ | refine andOne ?_ | ((first | apply exSlice | apply exInt | apply exBool | apply exPtr | apply exVal | apply andCell | apply andBd | apply andCan | apply andThere); · exact tC_Le) | (refine toSet ?_; refine tS_Le H (fun w H => ?_)) | (refine toSets ?_; refine tG_Le H (fun w H => ?_)) | refine H.drewK (fun w H => ?_) | refine H.allocK (fun w H => ?_)))
    refine ⟨rfl, H.tail.to ?_⟩
    simp only [CS.doS, CS.doP, if_pos c]
  · refine Br_neq c ?_
    (repeat (first | refine PtrSome_at ?_ | refine andOne ?_ | ((first | apply exSlice | apply exInt | apply exBool | apply exPtr | apply exVal | apply andCell | apply andBd | apply andCan | apply andThere); · exact tC_Le) | (refine toSet ?_; refine tS_Le H (fun w H => ?_)) | (refine toSets ?_; refine tG_Le H (fun w H => ?_)) | refine H.drewK (fun w H => ?_) | refine H.allocK (fun w H => ?_)))
    refine ⟨rfl, H.tail.to ?_⟩
    simp only [CS.doS, CS.doP, if_neg c]
    simp [cohL, hsame]
theorem cohCount (a : CA) (s : CS) (p : PS) (hf : s.fits a) (ho : s.ok) (hp : p.wf) (t u now : Int) (ht : s.ss.there t = true) :
    Sp Tryz.prog 177 #[ptr a.l, .pointer (some ⟨a.rb, 0 + t.toNat * 4, none⟩), i64 u, i64 now] (cohL a s ++ portL a.pa p) (didV (s.doE p t u 5)) (cohL a (s.doS p t u 5) ++ portL a.pa (s.doP p t u 5)) := by
  obtain ⟨h1, h2⟩ := seat_there ht
  have e1 : s.places.length = s.ss.l.length := ho.len
  have e2 : t.toNat < s.places.length := by omega
  obtain ⟨hn, x, hx⟩ := ho.node t ht
  obtain ⟨a1, X, Y, ha1, hfx, hwx, hset, hfit⟩ := locs_at hf.locs hx
  have hpa1 : a1.pa = a.pa := hf.pl _ (List.mem_of_getElem? ha1) _ rfl
  have hpg : a.glob.pa = a.pa := hf.pg
  have hloc : s.loc t = x := by simp [CS.loc, List.getD_eq_getElem?_getD, hx]
  have hsame := hset x
  rw [locs_same hx] at hsame
  have hset' := hset
  simp only [CS.pl, List.getD_eq_getElem?_getD] at hset'
  have hset'' := hset
  simp only [CS.pl, List.getD_eq_getElem?_getD, List.getElem?_eq_getElem e2, Option.getD_some] at hset''
  have hcell : ∀ P0 : List Value, P0.length = 5 → ∀ Z : List Value, (P0 ++ (a.locs.map optV ++ Z))[5 + (s.pl t).node.toNat]? = some a1.v := fun P0 h5 Z => coCell ha1 h5
  intro w0 S w B H
  simp only [cohL, hsame, List.cons_append, List.append_assoc] at H
  refine callsCohortLock_count _ _ _ _ _ _ _ ?_
  unfold preCohortLock_count
  (repeat (first | refine PtrSome_at ?_ | refine andOne ?_ | ((first | apply exSlice | apply exInt | apply exBool | apply exPtr | apply exVal | apply andCell | apply andBd | apply andCan | apply andThere); · exact tC_Le) | (refine toSet ?_; refine tS_Le H (fun w H => ?_)) | (refine toSets ?_; refine tG_Le H (fun w H => ?_)) | refine H.drewK (fun w H => ?_) | refine H.allocK (fun w H => ?_)))
  refine coP (portLoad a.pa p hp u (s.at_ t)) H (fun w H => ⟨_, rfl, ?_⟩)
  (repeat (first | refine PtrSome_at ?_ | refine andOne ?_ | ((first | apply exSlice | apply exInt | apply exBool | apply exPtr | apply exVal | apply andCell | apply andBd | apply andCan | apply andThere); · exact tC_Le) | (refine toSet ?_; refine tS_Le H (fun w H => ?_)) | (refine toSets ?_; refine tG_Le H (fun w H => ?_)) | refine H.drewK (fun w H => ?_) | refine H.allocK (fun w H => ?_)))
  simp only [List.set_set, getD_set_self e2] at H ⊢
  by_cases c : p.loadV u (s.at_ t) < s.budget
  · refine Br_t c ?_
    (repeat (first | refine PtrSome_at ?_ | refine andOne ?_ | ((first | apply exSlice | apply exInt | apply exBool | apply exPtr | apply exVal | apply andCell | apply andBd | apply andCan | apply andThere); · exact tC_Le) | (refine toSet ?_; refine tS_Le H (fun w H => ?_)) | (refine toSets ?_; refine tG_Le H (fun w H => ?_)) | refine H.drewK (fun w H => ?_) | refine H.allocK (fun w H => ?_)))
    simp only [getD_set_self e2]
    refine ⟨hn, exVal (H.cell 1 rfl (hcell [_, _, _, _, _] rfl _)) ?_⟩
    (repeat (first | refine PtrSome_at ?_ | refine andOne ?_ | ((first | apply exSlice | apply exInt | apply exBool | apply exPtr | apply exVal | apply andCell | apply andBd | apply andCan | apply andThere); · exact tC_Le) | (refine toSet ?_; refine tS_Le H (fun w H => ?_)) | (refine toSets ?_; refine tG_Le H (fun w H => ?_)) | refine H.drewK (fun w H => ?_) | refine H.allocK (fun w H => ?_)))
    refine rawIf_v (fun ty iv e => ?_)
    rw [← e]
    simp only [getD_set_self e2]
    refine coL (liProbe hfx (s.pl t).inner) H (fun w H => ⟨_, rfl, ?_⟩)
    (repeat (first | refine PtrSome_at ?_ | refine andOne ?_ | ((first | apply exSlice | apply exInt | apply exBool | apply exPtr | apply exVal | apply andCell | apply andBd | apply andCan | apply andThere); · exact tC_Le) | (refine toSet ?_; refine tS_Le H (fun w H => ?_)) | (refine toSets ?_; refine tG_Le H (fun w H => ?_)) | refine H.drewK (fun w H => ?_) | refine H.allocK (fun w H => ?_)))
    refine ⟨rfl, H.tail.to ?_⟩
    simp only [CS.doS, CS.doP, hloc, if_pos c]
    simp [cohL, CS.setLoc, hset'', CS.todo, CS.put, CS.pl, e2]
  · refine Br_f c ?_
    (repeat (first | refine PtrSome_at ?_ | refine andOne ?_ | ((first | apply exSlice | apply exInt | apply exBool | apply exPtr | apply exVal | apply andCell | apply andBd | apply andCan | apply andThere); · exact tC_Le) | (refine toSet ?_; refine tS_Le H (fun w H => ?_)) | (refine toSets ?_; refine tG_Le H (fun w H => ?_)) | refine H.drewK (fun w H => ?_) | refine H.allocK (fun w H => ?_)))
    refine ⟨rfl, H.tail.to ?_⟩
    simp only [CS.doS, CS.doP, hloc, if_neg c]
    simp [cohL, hsame, CS.todo, CS.put, CS.pl, e2]
end Go.Proofs.YtollfjfcdofbaaaGreat
