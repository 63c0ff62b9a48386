/- Contracts: seats made, plans. -/
import Derived.Test.YtollfjfcdofbaaaGreatKj
import Derived.Test.YtollfjfcdofbaaaGreatAp
namespace Go.Proofs.YtollfjfcdofbaaaGreat
open Go Go.Proofs
set_option linter.unusedSimpArgs false
set_option linter.unusedVariables false
set_option maxRecDepth 100000
set_option maxHeartbeats 4000000
-- NB 5
-- NORM seatL

/-! ## Loops that fill -/
theorem fill_set {α : Type} (y : α) (xs : List α) (i : Nat) (h : i < xs.length) : (List.replicate i y ++ xs.drop i).set i y = List.replicate (i + 1) y ++ xs.drop (i + 1) := by
  rw [List.set_append_right _ _ (by simp), List.length_replicate, Nat.sub_self]
  have e : xs.drop i = xs[i] :: xs.drop (i + 1) := by rw [List.drop_eq_getElem_cons h]
  rw [e, List.set_cons_zero, List.replicate_succ', List.append_assoc]
  rfl
theorem wrap_succ {i : Int} (h0 : 0 ≤ i) (h1 : i < 281474976710656) : IntKind.i64.wrap (i + 1) = i + 1 := wrap_i64 (by omega) (by omega)
theorem made_pairs (n : Nat) (x y : Int) : (madeCells #[.int .i64 x, .int .i64 y] (n * 2)).toList = rows accRow (List.replicate n (x, y)) := by
  have := madeCells_rows accRow (x, y) n (by simp)
  have e : (accRow (x, y)).toArray = #[.int .i64 x, .int .i64 y] := rfl
  rw [e] at this
  rw [show n * 2 = n * (accRow (x, y)).length from rfl, this]
  simp [rowsA, rows]
theorem made_ints (k : IntKind) (x : Int) (n : Nat) : (madeCells #[.int k x] n).toList = ints k (List.replicate n x) := by rw [madeCells_one]; simp [ints]
theorem made_bools (x : Bool) (n : Nat) : (madeCells #[.bool x] n).toList = bools (List.replicate n x) := by rw [madeCells_one]; simp [bools]

theorem tC_Kn {P : Prop} (h : P := by (first | ((first | refine bkCell (H.bkAt 0 rfl) ?_ | refine bkCell (H.bkAt 1 rfl) ?_ | refine bkCell (H.bkAt 2 rfl) ?_ | refine bkCell (H.bkAt 3 rfl) ?_ | refine bkCell (H.bkAt 4 rfl) ?_); (first | rfl | ((first | refine ints_at0 ?_ | refine bools_at0 ?_ | refine rows_at1 (f := accRow) (s := 2) (fun _ => rfl) (by decide) ?_ rfl | refine rows_at0 (f := accRow) (s := 2) (fun _ => rfl) (by decide) ?_ rfl); first | omega | assumption | (simp only [List.length_set, List.length_append, List.length_cons, List.length_nil, List.length_map, List.length_replicate, List.length_drop, List.length_take]; omega)))) | ((first | refine bkCan (H.bkAt 0 rfl) ?_ | refine bkCan (H.bkAt 1 rfl) ?_ | refine bkCan (H.bkAt 2 rfl) ?_ | refine bkCan (H.bkAt 3 rfl) ?_ | refine bkCan (H.bkAt 4 rfl) ?_); (first | decide | ((first | refine ints_lt ?_ | refine bools_lt ?_ | refine rows_lt1 (f := accRow) (s := 2) (fun _ => rfl) (by decide) ?_ | refine rows_lt0 (f := accRow) (s := 2) (fun _ => rfl) (by decide) ?_); first | omega | assumption | (simp only [List.length_set, List.length_append, List.length_cons, List.length_nil, List.length_map, List.length_replicate, List.length_drop, List.length_take]; omega)) | (simp only [List.length_cons, List.length_nil]; omega))) | ((first | refine bkThere (H.bkAt 0 rfl) ?_ | refine bkThere (H.bkAt 1 rfl) ?_ | refine bkThere (H.bkAt 2 rfl) ?_ | refine bkThere (H.bkAt 3 rfl) ?_ | refine bkThere (H.bkAt 4 rfl) ?_); (first | decide | (simp only [List.length_cons, List.length_nil]; omega) | (refine rows_le (f := accRow) (s := 2) (fun _ => rfl) ?_; first | omega | assumption | (simp only [List.length_set, List.length_append, List.length_cons, List.length_nil, List.length_map, List.length_replicate, List.length_drop, List.length_take]; omega)))) | exact ⟨by omega, by omega⟩)) : P := h
theorem tS_Kn {w0 w : World} {S : List Nat} {L L' : Blocks} {b o : Nat} {v : Value} {K : World → Prop} (H : St w0 S w L) (k : ∀ w', St w0 S w' L' → K w') (h : SetG w b o v (fun w' => St w0 S w' L') := by ((first | refine bkSet H 0 rfl (fun w H => ?_) | refine bkSet H 1 rfl (fun w H => ?_) | refine bkSet H 2 rfl (fun w H => ?_) | refine bkSet H 3 rfl (fun w H => ?_) | refine bkSet H 4 rfl (fun w H => ?_)); (try simp only [List.set_cons_succ, List.set_cons_zero, ints_set0, bools_set0, pair_set0, pair_set1] at H); exact H)) : SetG w b o v K := k _ h
theorem tG_Kn {w0 w : World} {S : List Nat} {L L' : Blocks} {b o : Nat} {vs : List Value} {K : World → Prop} (H : St w0 S w L) (k : ∀ w', St w0 S w' L' → K w') (h : SetsG w b o vs (fun w' => St w0 S w' L') := by ((first | refine bkSetsF H 0 rfl rfl (fun w H => ?_) | refine bkSetsF H 1 rfl rfl (fun w H => ?_) | refine bkSetsF H 2 rfl rfl (fun w H => ?_) | refine bkSetsF H 3 rfl rfl (fun w H => ?_) | refine bkSetsF H 4 rfl rfl (fun w H => ?_) | (refine bkSetsP H 0 rfl ?_ (fun w H => ?_); · first | omega | assumption | (simp only [List.length_set, List.length_append, List.length_cons, List.length_nil, List.length_map, List.length_replicate, List.length_drop, List.length_take]; omega)) | (refine bkSetsP H 1 rfl ?_ (fun w H => ?_); · first | omega | assumption | (simp only [List.length_set, List.length_append, List.length_cons, List.length_nil, List.length_map, List.length_replicate, List.length_drop, List.length_take]; omega)) | (refine bkSetsP H 2 rfl ?_ (fun w H => ?_); · first | omega | assumption | (simp only [List.length_set, List.length_append, List.length_cons, List.length_nil, List.length_map, List.length_replicate, List.length_drop, List.length_take]; omega)) | (refine bkSetsP H 3 rfl ?_ (fun w H => ?_); · first | omega | assumption | (simp only [List.length_set, List.length_append, List.length_cons, List.length_nil, List.length_map, List.length_replicate, List.length_drop, List.length_take]; omega)) | (refine bkSetsP H 4 rfl ?_ (fun w H => ?_); · first | omega | assumption | (simp only [List.length_set, List.length_append, List.length_cons, List.length_nil, List.length_map, List.length_replicate, List.length_drop, List.length_take]; omega)) ); (try simp only [List.set_cons_succ, List.set_cons_zero, ints_set0, bools_set0, pair_set0, pair_set1] at H); exact H)) : SetsG w b o vs K := k _ h
theorem seatNew (n : Int) (timed probed : Bool) : SpE Tryz.prog 86 #[i64 n, .bool timed, .bool probed] [] (fun r A =>
    (¬ (1 ≤ n ∧ n ≤ 64) ∧ r = .tuple #[.pointer none, i64 1] ∧ A = []) ∨
    ((1 ≤ n ∧ n ≤ 64) ∧ ∃ a : SA, r = .tuple #[ptr a.s, i64 0] ∧ A = seatL a ⟨List.replicate n.toNat (0, -1), timed, probed⟩)) := by
  intro w0 S w B H
  (try simp only [List.cons_append, List.nil_append, List.append_assoc, seatL] at H ⊢)
  refine callsSeatNew _ _ _ _ _ ?_
  unfold preSeatNew
  by_cases c1 : n < 1
  · exact Br_t c1 ⟨_, [], rfl, Or.inl ⟨by omega, rfl, rfl⟩, H⟩
  · refine Br_f c1 ?_
    by_cases c2 : n > 64
    · exact Br_t c2 ⟨_, [], rfl, Or.inl ⟨by omega, rfl, rfl⟩, H⟩
    · refine Br_f c2 ⟨⟨by omega, by omega, by omega, by omega⟩, ?_⟩
      refine H.allocK (fun w1 H1 => H1.allocK (fun w2 H2 => ?_))
      have H := H2
      rw [made_pairs] at H
      simp only [List.cons_append, List.nil_append] at H
      (repeat (first | refine PtrSome_at ?_ | refine andOne ?_ | ((first | apply exSlice | apply exInt | apply exBool | apply exPtr | apply exVal | apply andCell | apply andBd | apply andCan | apply andThere); · exact tC_Kn) | (refine toSet ?_; refine tS_Kn H (fun w H => ?_)) | (refine toSets ?_; refine tG_Kn H (fun w H => ?_)) | refine H.drewK (fun w H => ?_) | refine H.allocK (fun w H => ?_)))
      generalize hb1 : w1.heap.size = b1 at H ⊢
      generalize hb0 : w.heap.size = b0 at H ⊢
      refine ⟨fun i w' => 0 ≤ i ∧ i ≤ n ∧ St w0 S w' ((b1, [slv b0 n.toNat, .bool timed, .bool probed]) :: (b0, rows accRow (List.replicate i.toNat (0, -1) ++ (List.replicate n.toNat ((0 : Int), (0 : Int))).drop i.toNat)) :: B),
        fun i _ => (n - i).toNat, ⟨by omega, by omega, H.to (by simp)⟩, ?_⟩
      rintro _g w i ⟨h0, h1, H⟩
      by_cases c3 : i < n
      · refine Br_t (by omega) ?_
        (repeat (first | refine PtrSome_at ?_ | refine andOne ?_ | ((first | apply exSlice | apply exInt | apply exBool | apply exPtr | apply exVal | apply andCell | apply andBd | apply andCan | apply andThere); · exact tC_Kn) | (refine toSet ?_; refine tS_Kn H (fun w H => ?_)) | (refine toSets ?_; refine tG_Kn H (fun w H => ?_)) | refine H.drewK (fun w H => ?_) | refine H.allocK (fun w H => ?_)))
        rw [wrap_succ h0 (by omega)]
        refine ⟨⟨by omega, by omega, H.to ?_⟩, show (n - (i + 1)).toNat < (n - i).toNat by omega⟩
        have e1 : i.toNat < (List.replicate n.toNat ((0 : Int), (0 : Int))).length := by simp; omega
        have e2 : ((List.replicate i.toNat ((0 : Int), (-1 : Int)) ++ (List.replicate n.toNat ((0 : Int), (0 : Int))).drop i.toNat).getD i.toNat default).1 = 0 := by
          have : i.toNat < n.toNat := by omega
          rw [List.getD_eq_getElem?_getD, List.getElem?_append_right (by simp)]
          rw [List.length_replicate, Nat.sub_self, List.drop_replicate, List.getElem?_replicate, if_pos (by omega)]
          rfl
        rw [e2, fill_set _ _ _ e1]
        congr 3
        rw [show (i + 1).toNat = i.toNat + 1 by omega]
      · have e : i = n := by omega
        subst e
        refine Br_f (by omega) ⟨_, seatL ⟨b1, b0⟩ ⟨List.replicate i.toNat (0, -1), timed, probed⟩, rfl, Or.inr ⟨⟨by omega, by omega⟩, ⟨b1, b0⟩, rfl, rfl⟩, H.to ?_⟩
        simp [seatL]

/-! ## Plans -/
abbrev iRow (x : Int) : List Value := [.int .i64 x]
abbrev wRow (x : Int) : List Value := [.int .u32 x]
structure LA where
  p : Nat
  hp : Option Nat
  wp : Option Nat
structure LS where
  threads : Int
  n : Nat
  hall : List Int
  wall : List Int
structure LS.ok (a : LA) (s : LS) : Prop where
  h : s.n ≤ s.hall.length
  w : s.n ≤ s.wall.length
  hn : a.hp = none → s.hall = []
  wn : a.wp = none → s.wall = []
def LS.homes (s : LS) : List Int := s.hall.take s.n
def LS.words (s : LS) : List Int := s.wall.take s.n
def planL (a : LA) (s : LS) : Blocks := (a.p, [i64 s.threads, .slice (slA a.hp) s.n s.hall.length, .slice (slA a.wp) s.n s.wall.length]) :: (slB iRow a.hp s.hall ++ slB wRow a.wp s.wall)
theorem planNew (t : Int) : SpE Tryz.prog 23 #[i64 t] [] (fun r A => ∃ p : Nat, r = ptr p ∧ A = planL ⟨p, none, none⟩ ⟨t, 0, [], []⟩) := by
  intro w0 S w B H
  refine callsPlanNew _ _ _ ?_
  unfold prePlanNew
  refine H.allocK (fun w' H => ⟨_, planL ⟨w.heap.size, none, none⟩ ⟨t, 0, [], []⟩, rfl, ⟨_, rfl, rfl⟩, H.to ?_⟩)
  simp [planL, slB, slA]
theorem planLen (a : LA) (s : LS) : Sp Tryz.prog 27 #[ptr a.p] (planL a s) (i64 s.n) (planL a s) := by
  intro w0 S w B H
  refine callsPlanPlanLen _ _ _ ?_
  unfold prePlanPlanLen
  exact exSlice (H.cell 0 rfl rfl) ⟨rfl, H⟩
/-- how many words a row has -/
def rowN (k : Int) : Int := minI (maxI k 0) 4097
theorem planRow (a : LA) (s : LS) (hs : s.ok a) (k home v : Int) (hb : s.n ≤ 1000000000) : SpE Tryz.prog 24 #[ptr a.p, i64 k, i64 home, u32 v] (planL a s) (fun r A =>
    r = i64 s.n ∧ ∃ a' s', A = planL a' s' ∧ a'.p = a.p ∧ s'.ok a' ∧ s'.threads = s.threads ∧ s'.n = s.n + (rowN k).toNat ∧
      s'.homes = s.homes ++ List.replicate (rowN k).toNat home ∧ s'.words = s.words ++ List.replicate (rowN k).toNat v) := by
  intro w0 S w B H
  refine callsPlanPlanRow _ _ _ _ _ _ ?_
  unfold prePlanPlanRow
  refine exSlice (H.cell 0 rfl rfl) ?_
  have r0 : 0 ≤ rowN k ∧ rowN k ≤ 4097 := by unfold rowN minI maxI; split <;> split <;> omega
  refine ⟨fun i w' => (0 ≤ i ∧ i ≤ rowN k) ∧ ∃ a' s', a'.p = a.p ∧ s'.ok a' ∧ s'.threads = s.threads ∧ s'.n = s.n + i.toNat ∧
      s'.homes = s.homes ++ List.replicate i.toNat home ∧ s'.words = s.words ++ List.replicate i.toNat v ∧ St w0 S w' (planL a' s' ++ B),
    fun i _ => (rowN k - i).toNat, ⟨⟨by omega, r0.1⟩, a, s, rfl, hs, rfl, by simp, by simp, by simp, H⟩, ?_⟩
  rintro _g w i ⟨⟨h0, h1⟩, a', s', ea, ok, et, en, eh, ew, H⟩
  by_cases c : i < rowN k
  · refine Br_t c ?_
    rw [← ea]
    refine exSlice (H.cell 0 rfl rfl) ?_
    refine H.allocK (fun w1 H => ?_)
    have hk := H.bkAt 0 rfl
    refine app1' iRow 1 8 0 22 22 3 (.int .i64 0) (by kernel_rfl) (by kernel_rfl) (by decide) (fun _ => rfl) rfl (by intro x u hu; simp at hu; subst hu; rfl) H
      [(w.heap.size, [i64 home]), (a'.p, [i64 s'.threads, .slice (slA a'.hp) s'.n s'.hall.length, .slice (slA a'.wp) s'.n s'.wall.length])] (slB wRow a'.wp s'.wall ++ B) a'.hp s'.hall s'.n home (by simp [planL]) ok.h ok.hn 0 rfl (by omega) (by decide) ?_
    intro p1 all1 w2 t1 l1 H
    simp only [List.cons_append, List.nil_append] at H
    (first | refine PtrSome_at ?_ | refine andOne ?_ | ((first | apply exSlice | apply exInt | apply exBool | apply exPtr | apply exVal | apply andCell | apply andBd | apply andCan | apply andThere); · exact tC_Kn) | (refine toSet ?_; refine tS_Kn H (fun w H => ?_)) | (refine toSets ?_; refine tG_Kn H (fun w H => ?_)) | refine H.drewK (fun w H => ?_) | refine H.allocK (fun w H => ?_))
    (first | refine PtrSome_at ?_ | refine andOne ?_ | ((first | apply exSlice | apply exInt | apply exBool | apply exPtr | apply exVal | apply andCell | apply andBd | apply andCan | apply andThere); · exact tC_Kn) | (refine toSet ?_; refine tS_Kn H (fun w H => ?_)) | (refine toSets ?_; refine tG_Kn H (fun w H => ?_)) | refine H.drewK (fun w H => ?_) | refine H.allocK (fun w H => ?_))
    (first | refine PtrSome_at ?_ | refine andOne ?_ | ((first | apply exSlice | apply exInt | apply exBool | apply exPtr | apply exVal | apply andCell | apply andBd | apply andCan | apply andThere); · exact tC_Kn) | (refine toSet ?_; refine tS_Kn H (fun w H => ?_)) | (refine toSets ?_; refine tG_Kn H (fun w H => ?_)) | refine H.drewK (fun w H => ?_) | refine H.allocK (fun w H => ?_))
    refine H.allocK (fun w4 H => ?_)
    refine app1' wRow 1 4 0 71 71 29 (.int .u32 0) (by kernel_rfl) (by kernel_rfl) (by decide) (fun _ => rfl) rfl (by intro x u hu; simp at hu; subst hu; rfl) H
      [_, _, _, (p1, rows iRow all1)] B a'.wp s'.wall s'.n v (by simp [slB]; exact ⟨rfl, rfl, rfl⟩) ok.w ok.wn 0 rfl (by omega) (by decide) ?_
    intro p2 all2 w5 t2 l2 H
    simp only [List.cons_append, List.nil_append] at H
    simp only [slB, List.cons_append, List.nil_append] at H
    (first | refine PtrSome_at ?_ | refine andOne ?_ | ((first | apply exSlice | apply exInt | apply exBool | apply exPtr | apply exVal | apply andCell | apply andBd | apply andCan | apply andThere); · exact tC_Kn) | (refine toSet ?_; refine tS_Kn H (fun w H => ?_)) | (refine toSets ?_; refine tG_Kn H (fun w H => ?_)) | refine H.drewK (fun w H => ?_) | refine H.allocK (fun w H => ?_))
    (first | refine PtrSome_at ?_ | refine andOne ?_ | ((first | apply exSlice | apply exInt | apply exBool | apply exPtr | apply exVal | apply andCell | apply andBd | apply andCan | apply andThere); · exact tC_Kn) | (refine toSet ?_; refine tS_Kn H (fun w H => ?_)) | (refine toSets ?_; refine tG_Kn H (fun w H => ?_)) | refine H.drewK (fun w H => ?_) | refine H.allocK (fun w H => ?_))
    rw [wrap_succ h0 (by omega)]
    refine ⟨⟨⟨by omega, by omega⟩, ⟨a'.p, some p1, some p2⟩, ⟨s'.threads, s'.n + 1, all1, all2⟩, rfl, ⟨l1, l2, by simp, by simp⟩, et, ?_, ?_, ?_, H.tail.tail.to ?_⟩, show (rowN k - (i + 1)).toNat < (rowN k - i).toNat by omega⟩
    · simp only [en]; omega
    · simp only [LS.homes] at eh ⊢
      rw [t1, eh, show (i + 1).toNat = i.toNat + 1 by omega, List.replicate_succ', List.append_assoc]
    · simp only [LS.words] at ew ⊢
      rw [t2, ew, show (i + 1).toNat = i.toNat + 1 by omega, List.replicate_succ', List.append_assoc]
    · simp [planL, slB, slA]
  · have e : i = rowN k := by omega
    subst e
    refine Br_f c ⟨_, planL a' s', rfl, ⟨rfl, a', s', rfl, ea, ok, et, en, eh, ew⟩, H⟩
theorem planWord (a : LA) (s : LS) (hs : s.ok a) (home v : Int) (hb : s.n ≤ 1000000000) : SpE Tryz.prog 90 #[ptr a.p, i64 home, u32 v] (planL a s) (fun r A =>
    r = i64 s.n ∧ ∃ a' s', A = planL a' s' ∧ a'.p = a.p ∧ s'.ok a' ∧ s'.threads = s.threads ∧ s'.n = s.n + 1 ∧ s'.homes = s.homes ++ [home] ∧ s'.words = s.words ++ [v]) := by
  intro w0 S w B H
  refine callsPlanPlanWord _ _ _ _ _ ?_
  unfold prePlanPlanWord
  refine (planRow a s hs 1 home v hb).go H [] B rfl (fun r A w' hq H => ?_)
  obtain ⟨rfl, a', s', rfl, h1, h2, h3, h4, h5, h6⟩ := hq
  exact ⟨_, rfl, _, _, rfl, ⟨rfl, a', s', rfl, h1, h2, h3, h4, h5, h6⟩, H⟩
end Go.Proofs.YtollfjfcdofbaaaGreat
