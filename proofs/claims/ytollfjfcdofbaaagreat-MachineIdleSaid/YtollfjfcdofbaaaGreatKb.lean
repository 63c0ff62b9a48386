/- Contracts: the unlock of the lock that can be given up. -/
import Derived.Test.YtollfjfcdofbaaaGreatKa
namespace Go.Proofs.YtollfjfcdofbaaaGreat
open Go Go.Proofs
set_option linter.unusedSimpArgs false
set_option linter.unusedVariables false
set_option maxRecDepth 100000
set_option maxHeartbeats 4000000
-- NB 5
-- NORM aboL
-- ROW abRow 4

namespace BS
def nx (s : BS) (p : PS) (t u : Int) : Int := IntKind.i64.wrap (p.loadV u (IntKind.i64.wrap (s.at' t + 1)))
def unE (s : BS) (t : Int) : Int := if s.step t = 5 then 3 else 0
def unS (s : BS) (p : PS) (t u : Int) : BS :=
  if s.step t = 0 then s.put t (if s.nx p t u = 0 then 1 else 3, s.tried t, s.node t, s.nx p t u)
  else if s.step t = 2 then s.put t (if s.nx p t u = 0 then s.step t else 3, s.tried t, s.node t, s.nx p t u)
  else if s.step t = 1 then s.pS t (if p.casV u s.tail (IntKind.u32.wrap (s.node t)) = true then 5 else 2)
  else if s.step t = 3 then s.pS t (if p.casV u (s.at_ (s.other t)) 0 = true then 5 else 4)
  else if s.step t = 4 then s.put t (0, 0, s.other t, 0) else s
def unP (s : BS) (p : PS) (t u : Int) : PS :=
  if s.step t = 0 then p.load u (IntKind.i64.wrap (s.at' t + 1)) else if s.step t = 2 then p.load u (IntKind.i64.wrap (s.at' t + 1))
  else if s.step t = 1 then p.cas u s.tail (IntKind.u32.wrap (s.node t)) 0
  else if s.step t = 3 then p.cas u (s.at_ (s.other t)) 0 1
  else if s.step t = 4 then p.store u (IntKind.i64.wrap (s.at' t + 2)) 0
  else if s.step t = 5 then p.store u (IntKind.i64.wrap (s.at' t + 2)) 0 else p
end BS
theorem tC_Kb {P : Prop} (h : P := by (first | ((first | refine bkCell (H.bkAt 0 rfl) ?_ | refine bkCell (H.bkAt 1 rfl) ?_ | refine bkCell (H.bkAt 2 rfl) ?_ | refine bkCell (H.bkAt 3 rfl) ?_ | refine bkCell (H.bkAt 4 rfl) ?_); (first | rfl | ((first | refine ints_at0 ?_ | refine bools_at0 ?_ | refine rows_at1 (f := accRow) (s := 2) (fun _ => rfl) (by decide) ?_ rfl | refine rows_at0 (f := accRow) (s := 2) (fun _ => rfl) (by decide) ?_ rfl | refine rows_at1 (f := abRow) (s := 4) (fun _ => rfl) (by decide) ?_ rfl | refine rows_at0 (f := abRow) (s := 4) (fun _ => rfl) (by decide) ?_ rfl); first | omega | assumption | (simp only [List.length_set, List.length_append, List.length_cons, List.length_nil, List.length_map, List.length_replicate, List.length_drop, List.length_take]; omega)))) | ((first | refine bkCan (H.bkAt 0 rfl) ?_ | refine bkCan (H.bkAt 1 rfl) ?_ | refine bkCan (H.bkAt 2 rfl) ?_ | refine bkCan (H.bkAt 3 rfl) ?_ | refine bkCan (H.bkAt 4 rfl) ?_); (first | decide | ((first | refine ints_lt ?_ | refine bools_lt ?_ | refine rows_lt1 (f := accRow) (s := 2) (fun _ => rfl) (by decide) ?_ | refine rows_lt0 (f := accRow) (s := 2) (fun _ => rfl) (by decide) ?_ | refine rows_lt1 (f := abRow) (s := 4) (fun _ => rfl) (by decide) ?_ | refine rows_lt0 (f := abRow) (s := 4) (fun _ => rfl) (by decide) ?_); first | omega | assumption | (simp only [List.length_set, List.length_append, List.length_cons, List.length_nil, List.length_map, List.length_replicate, List.length_drop, List.length_take]; omega)) | (simp only [List.length_cons, List.length_nil]; omega))) | ((first | refine bkThere (H.bkAt 0 rfl) ?_ | refine bkThere (H.bkAt 1 rfl) ?_ | refine bkThere (H.bkAt 2 rfl) ?_ | refine bkThere (H.bkAt 3 rfl) ?_ | refine bkThere (H.bkAt 4 rfl) ?_); (first | decide | (simp only [List.length_cons, List.length_nil]; omega) | (refine rows_le (f := accRow) (s := 2) (fun _ => rfl) ?_; first | omega | assumption | (simp only [List.length_set, List.length_append, List.length_cons, List.length_nil, List.length_map, List.length_replicate, List.length_drop, List.length_take]; omega)) | (refine rows_le (f := abRow) (s := 4) (fun _ => rfl) ?_; first | omega | assumption | (simp only [List.length_set, List.length_append, List.length_cons, List.length_nil, List.length_map, List.length_replicate, List.length_drop, List.length_take]; omega)))) | exact ⟨by omega, by omega⟩)) : P := h
theorem tS_Kb {w0 w : World} {S : List Nat} {L L' : Blocks} {b o : Nat} {v : Value} {K : World → Prop} (H : St w0 S w L) (k : ∀ w', St w0 S w' L' → K w') (h : SetG w b o v (fun w' => St w0 S w' L') := by ((first | refine bkSet H 0 rfl (fun w H => ?_) | refine bkSet H 1 rfl (fun w H => ?_) | refine bkSet H 2 rfl (fun w H => ?_) | refine bkSet H 3 rfl (fun w H => ?_) | refine bkSet H 4 rfl (fun w H => ?_)); (try simp only [List.set_cons_succ, List.set_cons_zero, ints_set0, bools_set0, pair_set0, pair_set1, abRow_set0, abRow_set1, abRow_set2, abRow_set3] at H); exact H)) : SetG w b o v K := k _ h
theorem tG_Kb {w0 w : World} {S : List Nat} {L L' : Blocks} {b o : Nat} {vs : List Value} {K : World → Prop} (H : St w0 S w L) (k : ∀ w', St w0 S w' L' → K w') (h : SetsG w b o vs (fun w' => St w0 S w' L') := by ((first | refine bkSetsF H 0 rfl rfl (fun w H => ?_) | refine bkSetsF H 1 rfl rfl (fun w H => ?_) | refine bkSetsF H 2 rfl rfl (fun w H => ?_) | refine bkSetsF H 3 rfl rfl (fun w H => ?_) | refine bkSetsF H 4 rfl rfl (fun w H => ?_) | (refine bkSetsP H 0 rfl ?_ (fun w H => ?_); · first | omega | assumption | (simp only [List.length_set, List.length_append, List.length_cons, List.length_nil, List.length_map, List.length_replicate, List.length_drop, List.length_take]; omega)) | (refine bkSetsP H 1 rfl ?_ (fun w H => ?_); · first | omega | assumption | (simp only [List.length_set, List.length_append, List.length_cons, List.length_nil, List.length_map, List.length_replicate, List.length_drop, List.length_take]; omega)) | (refine bkSetsP H 2 rfl ?_ (fun w H => ?_); · first | omega | assumption | (simp only [List.length_set, List.length_append, List.length_cons, List.length_nil, List.length_map, List.length_replicate, List.length_drop, List.length_take]; omega)) | (refine bkSetsP H 3 rfl ?_ (fun w H => ?_); · first | omega | assumption | (simp only [List.length_set, List.length_append, List.length_cons, List.length_nil, List.length_map, List.length_replicate, List.length_drop, List.length_take]; omega)) | (refine bkSetsP H 4 rfl ?_ (fun w H => ?_); · first | omega | assumption | (simp only [List.length_set, List.length_append, List.length_cons, List.length_nil, List.length_map, List.length_replicate, List.length_drop, List.length_take]; omega)) | (refine bkSets_abRow H 0 rfl ?_ (fun w H => ?_); · first | omega | assumption | (simp only [List.length_set, List.length_append, List.length_cons, List.length_nil, List.length_map, List.length_replicate, List.length_drop, List.length_take]; omega)) | (refine bkSets_abRow H 1 rfl ?_ (fun w H => ?_); · first | omega | assumption | (simp only [List.length_set, List.length_append, List.length_cons, List.length_nil, List.length_map, List.length_replicate, List.length_drop, List.length_take]; omega)) | (refine bkSets_abRow H 2 rfl ?_ (fun w H => ?_); · first | omega | assumption | (simp only [List.length_set, List.length_append, List.length_cons, List.length_nil, List.length_map, List.length_replicate, List.length_drop, List.length_take]; omega)) | (refine bkSets_abRow H 3 rfl ?_ (fun w H => ?_); · first | omega | assumption | (simp only [List.length_set, List.length_append, List.length_cons, List.length_nil, List.length_map, List.length_replicate, List.length_drop, List.length_take]; omega)) | (refine bkSets_abRow H 4 rfl ?_ (fun w H => ?_); · first | omega | assumption | (simp only [List.length_set, List.length_append, List.length_cons, List.length_nil, List.length_map, List.length_replicate, List.length_drop, List.length_take]; omega))); (try simp only [List.set_cons_succ, List.set_cons_zero, ints_set0, bools_set0, pair_set0, pair_set1, abRow_set0, abRow_set1, abRow_set2, abRow_set3] at H); exact H)) : SetsG w b o vs K := k _ h
theorem aboUn (a : BA) (s : BS) (p : PS) (hs : s.wf) (hp : p.wf) (t u : Int) (ht : s.ss.there t = true) :
    Sp Tryz.prog 321 #[ptr a.l, .pointer (some ⟨a.rb, 0 + t.toNat * 4, none⟩), i64 u] (aboL a s ++ portL a.pa p) (i64 (s.unE t)) (aboL a (s.unS p t u) ++ portL a.pa (s.unP p t u)) := by
  intro w0 S w B H
  obtain ⟨h1, h2⟩ := seat_there ht
  have e1 : s.places.length = s.ss.l.length := hs
  have e2 : t.toNat < s.places.length := by omega
  (try simp only [List.cons_append, List.nil_append, List.append_assoc, aboL] at H ⊢)
  refine callsAbortLock_unlock _ _ _ _ _ _ ?_
  unfold preAbortLock_unlock
  (repeat (first | refine PtrSome_at ?_ | refine andOne ?_ | ((first | apply exSlice | apply exInt | apply exBool | apply exPtr | apply exVal | apply andCell | apply andBd | apply andCan | apply andThere); · exact tC_Kb) | (refine toSet ?_; refine tS_Kb H (fun w H => ?_)) | (refine toSets ?_; refine tG_Kb H (fun w H => ?_)) | refine H.drewK (fun w H => ?_) | refine H.allocK (fun w H => ?_)))
  (refine (aboState a s (s.node t)).go H [] _ rfl (fun w H => ?_); (try simp only [List.cons_append, List.nil_append, List.append_assoc] at H); (first | refine ⟨_, rfl, ?_⟩ | refine ⟨rfl, ?_⟩ | refine ⟨_, _, _, _, rfl, ?_⟩ | refine ⟨_, _, rfl, ?_⟩))
  (try simp only [List.cons_append, List.nil_append, List.append_assoc, aboL] at H ⊢)
  (repeat (first | refine PtrSome_at ?_ | refine andOne ?_ | ((first | apply exSlice | apply exInt | apply exBool | apply exPtr | apply exVal | apply andCell | apply andBd | apply andCan | apply andThere); · exact tC_Kb) | (refine toSet ?_; refine tS_Kb H (fun w H => ?_)) | (refine toSets ?_; refine tG_Kb H (fun w H => ?_)) | refine H.drewK (fun w H => ?_) | refine H.allocK (fun w H => ?_)))
  by_cases c0 : s.step t = 0
  · refine Br_eq c0 (Br_eq c0 ?_)
    (repeat (first | refine PtrSome_at ?_ | refine andOne ?_ | ((first | apply exSlice | apply exInt | apply exBool | apply exPtr | apply exVal | apply andCell | apply andBd | apply andCan | apply andThere); · exact tC_Kb) | (refine toSet ?_; refine tS_Kb H (fun w H => ?_)) | (refine toSets ?_; refine tG_Kb H (fun w H => ?_)) | refine H.drewK (fun w H => ?_) | refine H.allocK (fun w H => ?_)))
    (refine (portLoad a.pa p hp u (IntKind.i64.wrap (s.at' t + 1))).go H (_ :: _ :: seatL _ _) _ rfl (fun w H => ?_); (try simp only [List.cons_append, List.nil_append, List.append_assoc] at H); (first | refine ⟨_, rfl, ?_⟩ | refine ⟨rfl, ?_⟩ | refine ⟨_, _, _, _, rfl, ?_⟩ | refine ⟨_, _, rfl, ?_⟩))
    (repeat (first | refine PtrSome_at ?_ | refine andOne ?_ | ((first | apply exSlice | apply exInt | apply exBool | apply exPtr | apply exVal | apply andCell | apply andBd | apply andCan | apply andThere); · exact tC_Kb) | (refine toSet ?_; refine tS_Kb H (fun w H => ?_)) | (refine toSets ?_; refine tG_Kb H (fun w H => ?_)) | refine H.drewK (fun w H => ?_) | refine H.allocK (fun w H => ?_)))
    simp only [getD_set_self e2]
    by_cases d1 : s.nx p t u = 0
    · refine Br_nne d1 ?_
      (repeat (first | refine PtrSome_at ?_ | refine andOne ?_ | ((first | apply exSlice | apply exInt | apply exBool | apply exPtr | apply exVal | apply andCell | apply andBd | apply andCan | apply andThere); · exact tC_Kb) | (refine toSet ?_; refine tS_Kb H (fun w H => ?_)) | (refine toSets ?_; refine tG_Kb H (fun w H => ?_)) | refine H.drewK (fun w H => ?_) | refine H.allocK (fun w H => ?_)))
      simp only [getD_set_self e2]
      refine Br_eq c0 ?_
      (repeat (first | refine PtrSome_at ?_ | refine andOne ?_ | ((first | apply exSlice | apply exInt | apply exBool | apply exPtr | apply exVal | apply andCell | apply andBd | apply andCan | apply andThere); · exact tC_Kb) | (refine toSet ?_; refine tS_Kb H (fun w H => ?_)) | (refine toSets ?_; refine tG_Kb H (fun w H => ?_)) | refine H.drewK (fun w H => ?_) | refine H.allocK (fun w H => ?_)))
      refine ⟨?_, H.to ?_⟩
      · simp [BS.unE, c0]
      · simp only [BS.unS, BS.unP, if_pos c0, if_pos d1]
        all_goals simp [aboL, BS.put, BS.up, BS.pS, BS.step, BS.tried, BS.node, BS.other, BS.pl, e2]
        all_goals rfl
    · refine Br_ne d1 ?_
      (repeat (first | refine PtrSome_at ?_ | refine andOne ?_ | ((first | apply exSlice | apply exInt | apply exBool | apply exPtr | apply exVal | apply andCell | apply andBd | apply andCan | apply andThere); · exact tC_Kb) | (refine toSet ?_; refine tS_Kb H (fun w H => ?_)) | (refine toSets ?_; refine tG_Kb H (fun w H => ?_)) | refine H.drewK (fun w H => ?_) | refine H.allocK (fun w H => ?_)))
      refine ⟨?_, H.to ?_⟩
      · simp [BS.unE, c0]
      · simp only [BS.unS, BS.unP, if_pos c0, if_neg d1]
        all_goals simp [aboL, BS.put, BS.up, BS.pS, BS.step, BS.tried, BS.node, BS.other, BS.pl, e2]
        all_goals rfl
  · refine Br_neq c0 ?_
    by_cases c2 : s.step t = 2
    · refine Br_eq c2 ?_
      (repeat (first | refine PtrSome_at ?_ | refine andOne ?_ | ((first | apply exSlice | apply exInt | apply exBool | apply exPtr | apply exVal | apply andCell | apply andBd | apply andCan | apply andThere); · exact tC_Kb) | (refine toSet ?_; refine tS_Kb H (fun w H => ?_)) | (refine toSets ?_; refine tG_Kb H (fun w H => ?_)) | refine H.drewK (fun w H => ?_) | refine H.allocK (fun w H => ?_)))
      (refine (portLoad a.pa p hp u (IntKind.i64.wrap (s.at' t + 1))).go H (_ :: _ :: seatL _ _) _ rfl (fun w H => ?_); (try simp only [List.cons_append, List.nil_append, List.append_assoc] at H); (first | refine ⟨_, rfl, ?_⟩ | refine ⟨rfl, ?_⟩ | refine ⟨_, _, _, _, rfl, ?_⟩ | refine ⟨_, _, rfl, ?_⟩))
      (repeat (first | refine PtrSome_at ?_ | refine andOne ?_ | ((first | apply exSlice | apply exInt | apply exBool | apply exPtr | apply exVal | apply andCell | apply andBd | apply andCan | apply andThere); · exact tC_Kb) | (refine toSet ?_; refine tS_Kb H (fun w H => ?_)) | (refine toSets ?_; refine tG_Kb H (fun w H => ?_)) | refine H.drewK (fun w H => ?_) | refine H.allocK (fun w H => ?_)))
      simp only [getD_set_self e2]
      by_cases d1 : s.nx p t u = 0
      · refine Br_nne d1 ?_
        (repeat (first | refine PtrSome_at ?_ | refine andOne ?_ | ((first | apply exSlice | apply exInt | apply exBool | apply exPtr | apply exVal | apply andCell | apply andBd | apply andCan | apply andThere); · exact tC_Kb) | (refine toSet ?_; refine tS_Kb H (fun w H => ?_)) | (refine toSets ?_; refine tG_Kb H (fun w H => ?_)) | refine H.drewK (fun w H => ?_) | refine H.allocK (fun w H => ?_)))
        simp only [getD_set_self e2]
        refine Br_neq c0 ?_
        refine ⟨?_, H.to ?_⟩
        · simp [BS.unE, c2]
        · simp only [BS.unS, BS.unP, if_neg c0, if_pos c2, if_pos d1]
          all_goals simp [aboL, BS.put, BS.up, BS.pS, BS.step, BS.tried, BS.node, BS.other, BS.pl, e2]
          all_goals rfl
      · refine Br_ne d1 ?_
        (repeat (first | refine PtrSome_at ?_ | refine andOne ?_ | ((first | apply exSlice | apply exInt | apply exBool | apply exPtr | apply exVal | apply andCell | apply andBd | apply andCan | apply andThere); · exact tC_Kb) | (refine toSet ?_; refine tS_Kb H (fun w H => ?_)) | (refine toSets ?_; refine tG_Kb H (fun w H => ?_)) | refine H.drewK (fun w H => ?_) | refine H.allocK (fun w H => ?_)))
        refine ⟨?_, H.to ?_⟩
        · simp [BS.unE, c2]
        · simp only [BS.unS, BS.unP, if_neg c0, if_pos c2, if_neg d1]
          all_goals simp [aboL, BS.put, BS.up, BS.pS, BS.step, BS.tried, BS.node, BS.other, BS.pl, e2]
          all_goals rfl
    · refine Br_neq c2 ?_
      by_cases c1 : s.step t = 1
      · refine Br_eq c1 ?_
        (repeat (first | refine PtrSome_at ?_ | refine andOne ?_ | ((first | apply exSlice | apply exInt | apply exBool | apply exPtr | apply exVal | apply andCell | apply andBd | apply andCan | apply andThere); · exact tC_Kb) | (refine toSet ?_; refine tS_Kb H (fun w H => ?_)) | (refine toSets ?_; refine tG_Kb H (fun w H => ?_)) | refine H.drewK (fun w H => ?_) | refine H.allocK (fun w H => ?_)))
        simp only [getD_set_self e2]
        (refine (portCas a.pa p hp u s.tail (IntKind.u32.wrap (s.node t)) 0).go H (_ :: _ :: seatL _ _) _ rfl (fun w H => ?_); (try simp only [List.cons_append, List.nil_append, List.append_assoc] at H); (first | refine ⟨_, rfl, ?_⟩ | refine ⟨rfl, ?_⟩ | refine ⟨_, _, _, _, rfl, ?_⟩ | refine ⟨_, _, rfl, ?_⟩))
        cases d1 : p.casV u s.tail (IntKind.u32.wrap (s.node t))
        · simp only [Br_false]
          refine ⟨?_, H.to ?_⟩
          · simp [BS.unE, c1]
          · simp only [BS.unS, BS.unP, if_neg c0, if_neg c2, if_pos c1, d1, Bool.false_eq_true, if_false]
            all_goals simp [aboL, BS.put, BS.up, BS.pS, BS.step, BS.tried, BS.node, BS.other, BS.pl, e2]
        · simp only [Br_true]
          (repeat (first | refine PtrSome_at ?_ | refine andOne ?_ | ((first | apply exSlice | apply exInt | apply exBool | apply exPtr | apply exVal | apply andCell | apply andBd | apply andCan | apply andThere); · exact tC_Kb) | (refine toSet ?_; refine tS_Kb H (fun w H => ?_)) | (refine toSets ?_; refine tG_Kb H (fun w H => ?_)) | refine H.drewK (fun w H => ?_) | refine H.allocK (fun w H => ?_)))
          refine ⟨?_, H.to ?_⟩
          · simp [BS.unE, c1]
          · simp only [BS.unS, BS.unP, if_neg c0, if_neg c2, if_pos c1, d1, if_true]
            all_goals simp [aboL, BS.put, BS.up, BS.pS, BS.step, BS.tried, BS.node, BS.other, BS.pl, e2]
      · refine Br_neq c1 ?_
        by_cases c3 : s.step t = 3
        · refine Br_eq c3 ?_
          (repeat (first | refine PtrSome_at ?_ | refine andOne ?_ | ((first | apply exSlice | apply exInt | apply exBool | apply exPtr | apply exVal | apply andCell | apply andBd | apply andCan | apply andThere); · exact tC_Kb) | (refine toSet ?_; refine tS_Kb H (fun w H => ?_)) | (refine toSets ?_; refine tG_Kb H (fun w H => ?_)) | refine H.drewK (fun w H => ?_) | refine H.allocK (fun w H => ?_)))
          simp only [getD_set_self e2]
          (refine (aboState a (s.pS t 4) (s.other t)).go H [] _ rfl (fun w H => ?_); (try simp only [List.cons_append, List.nil_append, List.append_assoc] at H); (first | refine ⟨_, rfl, ?_⟩ | refine ⟨rfl, ?_⟩ | refine ⟨_, _, _, _, rfl, ?_⟩ | refine ⟨_, _, rfl, ?_⟩))
          (try simp only [List.cons_append, List.nil_append, List.append_assoc, aboL] at H ⊢)
          (repeat (first | refine PtrSome_at ?_ | refine andOne ?_ | ((first | apply exSlice | apply exInt | apply exBool | apply exPtr | apply exVal | apply andCell | apply andBd | apply andCan | apply andThere); · exact tC_Kb) | (refine toSet ?_; refine tS_Kb H (fun w H => ?_)) | (refine toSets ?_; refine tG_Kb H (fun w H => ?_)) | refine H.drewK (fun w H => ?_) | refine H.allocK (fun w H => ?_)))
          (refine (portCas a.pa p hp u (s.at_ (s.other t)) 0 1).go H (_ :: _ :: seatL _ _) _ rfl (fun w H => ?_); (try simp only [List.cons_append, List.nil_append, List.append_assoc] at H); (first | refine ⟨_, rfl, ?_⟩ | refine ⟨rfl, ?_⟩ | refine ⟨_, _, _, _, rfl, ?_⟩ | refine ⟨_, _, rfl, ?_⟩))
          cases d1 : p.casV u (s.at_ (s.other t)) 0
          · simp only [Br_false]
            refine ⟨?_, H.to ?_⟩
            · simp [BS.unE, c3]
            · simp only [BS.unS, BS.unP, if_neg c0, if_neg c1, if_neg c2, if_pos c3, d1, Bool.false_eq_true, if_false]
              all_goals simp [aboL, BS.put, BS.up, BS.pS, BS.step, BS.tried, BS.node, BS.other, BS.pl, e2]
          · simp only [Br_true]
            have e4 : t.toNat < (s.pS t 4).places.length := by simp [BS.pS, BS.put, e2]
            (repeat (first | refine PtrSome_at ?_ | refine andOne ?_ | ((first | apply exSlice | apply exInt | apply exBool | apply exPtr | apply exVal | apply andCell | apply andBd | apply andCan | apply andThere); · exact tC_Kb) | (refine toSet ?_; refine tS_Kb H (fun w H => ?_)) | (refine toSets ?_; refine tG_Kb H (fun w H => ?_)) | refine H.drewK (fun w H => ?_) | refine H.allocK (fun w H => ?_)))
            refine ⟨?_, H.to ?_⟩
            · simp [BS.unE, c3]
            · simp only [BS.unS, BS.unP, if_neg c0, if_neg c1, if_neg c2, if_pos c3, d1, if_true]
              all_goals simp [aboL, BS.put, BS.up, BS.pS, BS.step, BS.tried, BS.node, BS.other, BS.pl, e2]
        · refine Br_neq c3 ?_
          by_cases c4 : s.step t = 4
          · refine Br_eq c4 ?_
            (repeat (first | refine PtrSome_at ?_ | refine andOne ?_ | ((first | apply exSlice | apply exInt | apply exBool | apply exPtr | apply exVal | apply andCell | apply andBd | apply andCan | apply andThere); · exact tC_Kb) | (refine toSet ?_; refine tS_Kb H (fun w H => ?_)) | (refine toSets ?_; refine tG_Kb H (fun w H => ?_)) | refine H.drewK (fun w H => ?_) | refine H.allocK (fun w H => ?_)))
            (refine (portStore a.pa p hp u (IntKind.i64.wrap (s.at' t + 2)) 0).go H (_ :: _ :: seatL _ _) _ rfl (fun w H => ?_); (try simp only [List.cons_append, List.nil_append, List.append_assoc] at H); (first | refine ⟨_, rfl, ?_⟩ | refine ⟨rfl, ?_⟩ | refine ⟨_, _, _, _, rfl, ?_⟩ | refine ⟨_, _, rfl, ?_⟩))
            (repeat (first | refine PtrSome_at ?_ | refine andOne ?_ | ((first | apply exSlice | apply exInt | apply exBool | apply exPtr | apply exVal | apply andCell | apply andBd | apply andCan | apply andThere); · exact tC_Kb) | (refine toSet ?_; refine tS_Kb H (fun w H => ?_)) | (refine toSets ?_; refine tG_Kb H (fun w H => ?_)) | refine H.drewK (fun w H => ?_) | refine H.allocK (fun w H => ?_)))
            refine ⟨?_, H.to ?_⟩
            · simp [BS.unE, c4]
            · simp only [BS.unS, BS.unP, if_neg c0, if_neg c1, if_neg c2, if_neg c3, if_pos c4]
              all_goals simp [aboL, BS.put, BS.up, BS.pS, BS.step, BS.tried, BS.node, BS.other, BS.pl, e2]
          · refine Br_neq c4 ?_
            by_cases c5 : s.step t = 5
            · refine Br_eq c5 ?_
              (repeat (first | refine PtrSome_at ?_ | refine andOne ?_ | ((first | apply exSlice | apply exInt | apply exBool | apply exPtr | apply exVal | apply andCell | apply andBd | apply andCan | apply andThere); · exact tC_Kb) | (refine toSet ?_; refine tS_Kb H (fun w H => ?_)) | (refine toSets ?_; refine tG_Kb H (fun w H => ?_)) | refine H.drewK (fun w H => ?_) | refine H.allocK (fun w H => ?_)))
              (refine (portStore a.pa p hp u (IntKind.i64.wrap (s.at' t + 2)) 0).go H (_ :: _ :: seatL _ _) _ rfl (fun w H => ?_); (try simp only [List.cons_append, List.nil_append, List.append_assoc] at H); (first | refine ⟨_, rfl, ?_⟩ | refine ⟨rfl, ?_⟩ | refine ⟨_, _, _, _, rfl, ?_⟩ | refine ⟨_, _, rfl, ?_⟩))
              (repeat (first | refine PtrSome_at ?_ | refine andOne ?_ | ((first | apply exSlice | apply exInt | apply exBool | apply exPtr | apply exVal | apply andCell | apply andBd | apply andCan | apply andThere); · exact tC_Kb) | (refine toSet ?_; refine tS_Kb H (fun w H => ?_)) | (refine toSets ?_; refine tG_Kb H (fun w H => ?_)) | refine H.drewK (fun w H => ?_) | refine H.allocK (fun w H => ?_)))
              refine ⟨?_, H.to ?_⟩
              · simp [BS.unE, c5]
              · simp only [BS.unS, BS.unP, if_neg c0, if_neg c1, if_neg c2, if_neg c3, if_neg c4, if_pos c5]
                all_goals simp [aboL]
            · refine Br_neq c5 ?_
              (repeat (first | refine PtrSome_at ?_ | refine andOne ?_ | ((first | apply exSlice | apply exInt | apply exBool | apply exPtr | apply exVal | apply andCell | apply andBd | apply andCan | apply andThere); · exact tC_Kb) | (refine toSet ?_; refine tS_Kb H (fun w H => ?_)) | (refine toSets ?_; refine tG_Kb H (fun w H => ?_)) | refine H.drewK (fun w H => ?_) | refine H.allocK (fun w H => ?_)))
              refine ⟨?_, H.to ?_⟩
              · simp [BS.unE, c5]
              · simp only [BS.unS, BS.unP, if_neg c0, if_neg c1, if_neg c2, if_neg c3, if_neg c4, if_neg c5]
                all_goals simp [aboL]
end Go.Proofs.YtollfjfcdofbaaaGreat
