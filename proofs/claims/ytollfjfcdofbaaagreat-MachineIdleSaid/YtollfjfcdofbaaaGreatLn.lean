/- The lock of locks, made: the contract. -/
import Derived.Test.YtollfjfcdofbaaaGreatLm
namespace Go.Proofs.YtollfjfcdofbaaaGreat
open Go Go.Proofs
set_option linter.unusedSimpArgs false
set_option linter.unusedVariables false
set_option maxRecDepth 100000
set_option maxHeartbeats 4000000
-- NB 4

theorem St.sub {w0 w : World} {S : List Nat} {L L' : Blocks} (H : St w0 S w L) (h : L'.Sublist L) : St w0 S w L' :=
  ⟨H.nd.sublist (h.map _), fun p hp => H.bk p (h.subset hp), H.upd, fun p hp => H.own p (h.subset hp)⟩
theorem getD_lt {xs : List Int} {i : Nat} (h : i < xs.length) : xs[i]? = some (xs.getD i 0) := by rw [List.getD_eq_getElem?_getD, List.getElem?_eq_getElem h]; rfl
theorem take_one {xs : List Int} {i : Nat} (h : i < xs.length) : xs.take (i + 1) = xs.take i ++ [xs.getD i 0] := by rw [List.take_add_one, getD_lt h]; rfl
theorem own_mem {own : List Own} {c : Nat} {p : Nat} {all : List Int} {n : Nat} (h : own[c]? = some (some p, all, n)) : (p, rows iRow all) ∈ ownL own :=
  List.mem_flatMap.2 ⟨_, List.mem_of_getElem? h, by simp [slB]⟩
theorem own_same {own : List Own} {c : Nat} {x : Own} (h : own[c]? = some x) : own.set c x = own := by
  obtain ⟨h1, h2⟩ := List.getElem?_eq_some_iff.1 h
  rw [← h2]; exact List.set_getElem_self h1
theorem iRow_get {all xs : List Int} {n : Nat} (h : all.take n = xs) : ∀ j v, (xs.map (Value.int .i64))[j]? = some v → (rows iRow all)[0 + j]? = some v := by
  intro j v hv
  rw [rows_iRow, Nat.zero_add, ints]
  subst h
  rw [List.map_take, List.getElem?_take] at hv
  split at hv
  · exact hv
  · cases hv
theorem St.notin2 {w0 w : World} {S : List Nat} {X A Y : Blocks} (H : St w0 S w (X ++ (A ++ Y))) {p : Nat × List Value} (hm : p ∈ X) : p.1 ∉ A.map (·.1) := by
  intro h
  have hnd := H.nd
  simp only [List.map_append] at hnd
  have d1 := List.nodup_append.1 hnd
  exact d1.2.2 p.1 (List.mem_map_of_mem hm) p.1 (List.mem_append_left _ h) rfl
def coHead (sa : SA) (at_ b : Int) (rb n : Nat) (v : Value) (locs : List Value) : List Value := ptr sa.s :: .pointer none :: i64 at_ :: u32 b :: v :: (locs ++ [slv rb n])
theorem coHead_set (sa : SA) (at_ b : Int) (rb n : Nat) (v y : Value) (A : List Value) (k : Nat) : (coHead sa at_ b rb n v (A ++ List.replicate (k + 1) .nilIface)).set (5 + A.length) y = coHead sa at_ b rb n v (A ++ y :: List.replicate k .nilIface) := by
  unfold coHead
  rw [show 5 + A.length = A.length + 1 + 1 + 1 + 1 + 1 by omega]
  simp only [List.set_cons_succ, List.append_assoc]
  rw [List.set_append_right _ _ (Nat.le_refl _), Nat.sub_self]
  rfl
theorem coHead_len (sa : SA) (at_ b : Int) (rb n : Nat) (v : Value) (A : List Value) : (coHead sa at_ b rb n v A).length = A.length + 6 := by simp [coHead]
theorem one4 (a b c : Int) : oneCells [i64 a, i64 b, .nilFunc, u32 c] := ⟨rfl, rfl, rfl, rfl, trivial⟩
theorem oneV (a : LIA) : oneCells [a.v] := by cases a <;> exact ⟨rfl, trivial⟩
theorem len8 {α : Type} {l : List α} (h : l.length = 8) : ∃ a b c d e f g k, l = [a, b, c, d, e, f, g, k] := by
  match l, h with
  | [a, b, c, d, e, f, g, k], _ => exact ⟨a, b, c, d, e, f, g, k, rfl⟩
theorem own8 (x0 x1 x2 x3 x4 x5 x6 x7 : Own) (i : Nat) (h : i < 8) :
    Array.getD #[Value.slice (slA x0.1) x0.2.2 x0.2.1.length, .slice (slA x1.1) x1.2.2 x1.2.1.length, .slice (slA x2.1) x2.2.2 x2.2.1.length, .slice (slA x3.1) x3.2.2 x3.2.1.length, .slice (slA x4.1) x4.2.2 x4.2.1.length, .slice (slA x5.1) x5.2.2 x5.2.1.length, .slice (slA x6.1) x6.2.2 x6.2.1.length, .slice (slA x7.1) x7.2.2 x7.2.1.length] i undef = ownV ([x0, x1, x2, x3, x4, x5, x6, x7][i]'(by simpa using h)) := by
  match i, h with
  | 0, _ => rfl
  | 1, _ => rfl
  | 2, _ => rfl
  | 3, _ => rfl
  | 4, _ => rfl
  | 5, _ => rfl
  | 6, _ => rfl
  | 7, _ => rfl
theorem own_map {own : List Own} {c : Nat} {x : Own} (h : own[c]? = some x) : (own.map ownV)[0 + c]? = some (ownV x) := by rw [Nat.zero_add, List.getElem?_map, h]; rfl
theorem own_setV (own : List Own) (c : Nat) (y : Own) : (own.map ownV).set (0 + c) (ownV y) = (own.set c y).map ownV := by rw [Nat.zero_add, List.map_set]
theorem pl_set (xs : List Int) (i : Nat) (h : i < xs.length) (y : CPl) : (coPl xs i ++ List.replicate (xs.length - i) default).set i y = coPl xs i ++ y :: List.replicate (xs.length - (i + 1)) default := by
  rw [List.set_append_right _ _ (by simp [coPl])]
  rw [show xs.length - i = (xs.length - (i + 1)) + 1 by omega, List.replicate_succ]
  simp [coPl]
theorem locF_no (kind : Int) (xs : List Int) (base : Int) {k : Nat} (h : xs.count ((k : Nat) : Int) = 0) : (locF kind xs base (k + 1)).1 = (locF kind xs base k).1 ++ [none] := by simp [locF, h]
theorem locF_yes (kind : Int) (xs : List Int) (base : Int) {k : Nat} (h : ¬ xs.count ((k : Nat) : Int) = 0) : (locF kind xs base (k + 1)).1 = (locF kind xs base k).1 ++ [some (LI.first kind (xs.count ((k : Nat) : Int)) (locF kind xs base k).2)] := by
  rw [locF, if_neg h]
theorem locH_no (kind : Int) (xs : List Int) {k : Nat} (h : xs.count ((k : Nat) : Int) = 0) : locH kind xs (k + 1) = locH kind xs k := by simp [locH, h]
theorem locH_yes (kind : Int) (xs : List Int) {k : Nat} (h : ¬ xs.count ((k : Nat) : Int) = 0) : locH kind xs (k + 1) = locH kind xs k ++ innerH kind (List.replicate (xs.count ((k : Nat) : Int)) ((k : Nat) : Int)) := by rw [locH, if_neg h]
theorem locW_no (kind : Int) (xs : List Int) {k : Nat} (h : xs.count ((k : Nat) : Int) = 0) : locW kind xs (k + 1) = locW kind xs k := by simp [locW, h]
theorem locW_yes (kind : Int) (xs : List Int) {k : Nat} (h : ¬ xs.count ((k : Nat) : Int) = 0) : locW kind xs (k + 1) = locW kind xs k ++ innerW kind (xs.count ((k : Nat) : Int)) := by rw [locW, if_neg h]
def dummyPA : PA := ⟨0, 0, 0, 0, 0, 0, [], 0, 0, 0⟩
theorem cohNew (a : LA) (s : LS) (hs : s.ok a) (hb : s.n ≤ 10000) (p : Option Addr) (xs : List Int) (c : Nat) (gk lk bd : Int) (hl : xs.length ≤ 1000000) :
    SpR Tryz.prog 25 #[ptr a.p, .slice p xs.length c, i64 gk, i64 lk, i64 bd] (fun w S => ROi w S p xs) (planL a s) (fun r A =>
      (¬ newOk xs ∧ r = .tuple #[.pointer none, i64 1] ∧ ∃ X, A = X ++ planL a s) ∨
      (newOk xs ∧ ¬ cohOk gk lk bd ∧ r = .tuple #[.pointer none, i64 7] ∧ ∃ X, A = X ++ planL a s) ∨
      (newOk xs ∧ cohOk gk lk bd ∧ ∃ (ca : CA) (a' : LA) (s' : LS), r = .tuple #[ptr ca.l, i64 0] ∧ LI.fits ca.glob (CS.first xs gk lk bd s.n).glob ∧ fitsL ca.locs (CS.first xs gk lk bd s.n).locs ∧
        Grew a s a' s' (cohH xs gk lk) (cohW xs gk lk) ∧ A = cohLC (.pointer none) ca (CS.first xs gk lk bd s.n) ++ planL a' s')) := by
  intro w0 S w B hr H
  refine callsCohortNew _ _ _ _ _ _ _ _ _ ?_
  unfold preCohortNew
  refine (seatNew xs.length false false).go H [] (planL a s ++ B) rfl (fun r A w hq H => ?_)
  rcases hq with ⟨hno, rfl, rfl⟩ | ⟨h64, sa, rfl, rfl⟩
  · exact ⟨_, _, rfl, Br_ne (by decide) ⟨_, planL a s, rfl, Or.inl ⟨fun h => hno ⟨by have := h.1.1; omega, by have := h.1.2; omega⟩, rfl, [], rfl⟩, H⟩⟩
  refine ⟨_, _, rfl, Br_nne rfl ?_⟩
  simp only [List.nil_append] at H
  refine (containsFunc p xs c _ _ cohTells hl).go H [] _ rfl (hr.sub H (by simp)) (fun r A w hq H => ?_)
  obtain ⟨rfl, rfl⟩ := hq
  refine ⟨_, rfl, ?_⟩
  simp only [List.nil_append] at H
  by_cases hbad : xs.any badHome = true
  · rw [hbad]
    exact ⟨_, _, rfl, Or.inl ⟨fun h => absurd (hbad.symm.trans h.2) (by decide), rfl, seatL sa ⟨List.replicate (((xs.length : Nat) : Int)).toNat (0, -1), false, false⟩, rfl⟩, H.to (by first | (simp [seatL]; done) | rfl | (simp; rfl))⟩
  rw [Bool.not_eq_true] at hbad
  rw [hbad]
  simp only [Br_false]
  have hgood : newOk xs := ⟨⟨by omega, by omega⟩, hbad⟩
  have hpos : 0 < xs.length := by omega
  rw [Int.toNat_natCast] at H
  change St w0 S w (seatL sa (seats0 xs.length false false) ++ (planL a s ++ B)) at H
  have fail : ∀ {w : World}, St w0 S w (seatL sa (seats0 xs.length false false) ++ (planL a s ++ B)) → ¬ cohOk gk lk bd → ∃ (r : Value) (A' : Blocks), Ending.returned (.tuple #[.pointer none, i64 7]) = .returned r ∧
      ((¬ newOk xs ∧ r = .tuple #[.pointer none, i64 1] ∧ ∃ X, A' = X ++ planL a s) ∨ (newOk xs ∧ ¬ cohOk gk lk bd ∧ r = .tuple #[.pointer none, i64 7] ∧ ∃ X, A' = X ++ planL a s) ∨
      (newOk xs ∧ cohOk gk lk bd ∧ ∃ (ca : CA) (a' : LA) (s' : LS), r = .tuple #[ptr ca.l, i64 0] ∧ LI.fits ca.glob (CS.first xs gk lk bd s.n).glob ∧ fitsL ca.locs (CS.first xs gk lk bd s.n).locs ∧
        Grew a s a' s' (cohH xs gk lk) (cohW xs gk lk) ∧ A' = cohLC (.pointer none) ca (CS.first xs gk lk bd s.n) ++ planL a' s')) ∧ St w0 S w (A' ++ B) :=
    fun H h => ⟨_, _, rfl, Or.inr (Or.inl ⟨hgood, h, rfl, seatL sa (seats0 xs.length false false), rfl⟩), H.to (by simp)⟩
  refine H.allocK (fun w1 H => ?_)
  refine (containsInt (some ⟨w.heap.size, 0, none⟩) [1, 4] 2 gk (by decide)).go H [] _ rfl (RO.own H 0 rfl (by simp) (fun j v hv => by simpa using hv)) (fun r A w2 hq H => ?_)
  obtain ⟨rfl, rfl⟩ := hq
  refine ⟨_, rfl, ?_⟩
  simp only [List.nil_append] at H
  replace H := H.tail
  by_cases hg : ¬ (gk = 1 ∨ gk = 4)
  · have e : (List.any [1, 4] fun x => gk == x) = false := by simp; omega
    rw [e]
    exact fail H (fun h => hg h.1)
  rw [Decidable.not_not] at hg
  have e : (List.any [1, 4] fun x => gk == x) = true := by simp; omega
  rw [e]
  simp only [Bool.not_true, Br_false]
  refine H.allocK (fun w3 H => ?_)
  refine (containsInt (some ⟨w2.heap.size, 0, none⟩) [1, 3, 4] 3 lk (by decide)).go H [] _ rfl (RO.own H 0 rfl (by simp) (fun j v hv => by simpa using hv)) (fun r A w4 hq H => ?_)
  obtain ⟨rfl, rfl⟩ := hq
  refine ⟨_, rfl, ?_⟩
  simp only [List.nil_append] at H
  replace H := H.tail
  by_cases hk : ¬ (lk = 1 ∨ lk = 3 ∨ lk = 4)
  · have e : (List.any [1, 3, 4] fun x => lk == x) = false := by simp; omega
    rw [e]
    exact fail H (fun h => hk h.2.1)
  rw [Decidable.not_not] at hk
  have e : (List.any [1, 3, 4] fun x => lk == x) = true := by simp; omega
  rw [e]
  simp only [Bool.not_true, Br_false]
  by_cases hb1 : bd < 1
  · exact Br_t hb1 (fail H (fun h => by have := h.2.2.1; omega))
  refine Br_f hb1 ?_
  by_cases hb2 : bd > 1000
  · exact Br_t hb2 (fail H (fun h => by have := h.2.2.2; omega))
  refine Br_f hb2 (H.drewK (fun w5 H => ?_))
  have hok : cohOk gk lk bd := ⟨hg, hk, by omega, by omega⟩
  refine ⟨?_, ⟨by omega, by omega, by omega, by omega⟩, H.allocK (fun w6 H => ?_)⟩
  · refine (planLen a s).go H (seatL sa (seats0 xs.length false false)) B rfl (fun w6 H => ⟨_, rfl, ⟨by omega, by omega, by omega, by omega⟩, H.allocK (fun w7 H => H.allocK (fun w8 H => H.allocK (fun w9 H => ?_)))⟩)
    rw [Int.toNat_natCast, made_coRow] at H
    simp only [Int.toNat_natCast] at H ⊢
    generalize hob : w8.heap.size = ob at H ⊢
    generalize hlb : w7.heap.size = lb at H ⊢
    generalize hrb : w6.heap.size = rb at H ⊢
    refine ⟨fun p l c i w' => (0 ≤ i ∧ i ≤ 8) ∧ ∃ np all a' s', (p = slA np ∧ l = i.toNat ∧ c = all.length) ∧ all.take i.toNat = upTo i.toNat ∧ i.toNat ≤ all.length ∧ (np = none → all = []) ∧ Grew a s a' s' (upTo i.toNat) (List.replicate i.toNat 0) ∧
        St w0 S w' ((ob, List.replicate 8 (Value.slice none 0 0)) :: (lb, coHead sa s.n (IntKind.u32.wrap bd) rb xs.length .nilIface (List.replicate 8 .nilIface)) :: (rb, rows coRow (List.replicate xs.length default)) :: (slB iRow np all ++ (seatL sa (seats0 xs.length false false) ++ (planL a' s' ++ B)))),
      fun _ _ _ i _ => (8 - i).toNat, ⟨⟨by omega, by omega⟩, none, [], a, s, ⟨rfl, rfl, rfl⟩, rfl, by simp, fun _ => rfl, ⟨rfl, hs, rfl, by simp [upTo], by simp [upTo], by simp⟩, H.to (by simp [slB, coHead, List.replicate]; try rfl)⟩, ?_⟩
    rintro _g w _ _ _ i ⟨⟨h0, h1⟩, np, all, a', s', ⟨rfl, rfl, rfl⟩, ht, hle, hn, g, H⟩
    by_cases c1 : i < 8
    · refine Br_t c1 ?_
      have gn := g.n
      have gl : (upTo i.toNat).length = i.toNat := by simp [upTo]
      rw [gl] at gn
      rw [← g.p]
      refine (planWordG a' s' g.ok i 0 (by omega)).go H (_ :: _ :: _ :: (slB iRow np all ++ seatL sa (seats0 xs.length false false))) B (by simp; exact ⟨rfl, rfl, rfl⟩) (fun r A w5 hq H => ?_)
      obtain ⟨rfl, a2, s2, rfl, g2⟩ := hq
      refine ⟨_, rfl, H.allocK (fun w6 H => ?_)⟩
      refine app1' iRow 1 8 0 22 22 3 (.int .i64 0) (by kernel_rfl) (by kernel_rfl) (by decide) (fun _ => rfl) rfl (by intro x u hu; simp at hu; subst hu; rfl) H
        [_, _, _, _] (seatL sa (seats0 xs.length false false) ++ (planL a2 s2 ++ B)) np all i.toNat i (by simp; exact ⟨rfl, rfl, rfl, rfl⟩) hle hn 0 rfl (by omega) (by decide) ?_
      intro p1 all1 w3 t1 l1 H
      rw [wrap_succ h0 (by omega)]
      have e1 : (i + 1).toNat = i.toNat + 1 := by omega
      refine ⟨⟨⟨by omega, by omega⟩, some p1, all1, a2, s2, ⟨rfl, e1.symm, rfl⟩, ?_, by omega, fun e => (by cases e), ?_, H.tail⟩, show (8 - (i + 1)).toNat < (8 - i).toNat by omega⟩
      · rw [e1, t1, ht, upTo_succ, Int.toNat_of_nonneg h0]
      · have g3 := g.trans g2
        rw [e1, upTo_succ, List.replicate_succ', Int.toNat_of_nonneg h0]
        exact g3
    · have e8 : i.toNat = 8 := by omega
      refine Br_f c1 ?_
      rw [e8] at ht hle g ⊢
      cases np with
      | none => have := hn rfl; subst this; simp at hle
      | some nb =>
      have gn := g.n
      have gl : (upTo 8).length = 8 := rfl
      rw [gl] at gn
      have hin := cohInner a' s' g.ok (by omega) gk (slA (some nb)) (upTo 8) all.length (by decide) newOk_up
      rw [gl] at hin
      rw [← g.p]
      have H' := H.to (L' := (_ :: _ :: _ :: (nb, rows iRow all) :: seatL sa (seats0 xs.length false false)) ++ (planL a' s' ++ B)) (by simp [slB]; exact ⟨rfl, rfl, rfl⟩)
      refine hin.go H' (_ :: _ :: _ :: _ :: seatL sa (seats0 xs.length false false)) B rfl (RO.mem H' (b := nb) (cs := rows iRow all) (by simp) (St.notin2 H' (p := (nb, rows iRow all)) (by simp)) (iRow_get ht)) (fun r A w5 hq H => ?_)
      obtain ⟨lg, a2, s2, rfl, hfg, g2, rfl⟩ := hq
      have n2 := g2.n
      have hi8 := innerH_few gk (upTo 8)
      rw [gl] at hi8
      generalize hG : LI.blkC (Value.pointer none) lg (LI.first gk 8 s'.n) = G at H
      simp only [List.cons_append, List.append_assoc] at H
      refine ⟨_, rfl, oneV lg, H.can 1 rfl (by rw [coHead_len]; omega), H.setK 1 rfl (fun w H => ?_)⟩
      simp only [List.set_cons_succ, List.set_cons_zero] at H
      refine ⟨fun i w' => (0 ≤ i ∧ i ≤ xs.length) ∧ ∃ own, OwnI (xs.take i.toNat) own ∧ St w0 S w' ((ob, own.map ownV) :: (lb, coHead sa s.n (IntKind.u32.wrap bd) rb xs.length lg.v (List.replicate 8 .nilIface)) :: (rb, rows coRow (coPl xs i.toNat ++ List.replicate (xs.length - i.toNat) default)) ::
          (ownL own ++ ((nb, rows iRow all) :: (seatL sa (seats0 xs.length false false) ++ (G ++ (planL a2 s2 ++ B)))))),
        fun i _ => (xs.length - i).toNat, ⟨⟨by omega, by omega⟩, _, OwnI.start, H.to (by simp [coPl, ownL, slB]; exact ⟨rfl, rfl⟩)⟩, ?_⟩
      rintro _g w i ⟨⟨h0, h1⟩, own, hown, H⟩
      by_cases c2 : i < xs.length
      · refine Br_t c2 ⟨⟨h0, c2⟩, ?_⟩
        have hi : i.toNat < xs.length := by omega
        obtain ⟨b, o, ee, hc⟩ := hr.read H (j := i.toNat) hi
        cases ee
        obtain ⟨k0, k8⟩ := anyBad_get hbad hi
        obtain ⟨C, hC⟩ := Int.eq_ofNat_of_zero_le k0
        have hCl : C < own.length := by rw [hown.len]; omega
        obtain ⟨x, hx⟩ : ∃ x, own[C]? = some x := ⟨_, List.getElem?_eq_getElem hCl⟩
        obtain ⟨X, Y, hXY⟩ := own_at hx
        have hown2 := hXY x
        rw [own_same hx] at hown2
        obtain ⟨j1, j2, j3, j4⟩ := hown.at_ C x hx
        have hcnt := List.count_le_length (a := ((C : Nat) : Int)) (l := xs.take i.toNat)
        rw [List.length_take] at hcnt
        refine PtrSome_at (exInt hc ?_)
        rw [hC, wrap_succ h0 (by omega)]
        simp only [Int.toNat_natCast]
        refine H.drewK (fun w H => exSlice (H.cell 1 rfl rfl) ⟨⟨by omega, by omega⟩, exSlice (H.cell 0 rfl (own_map hx)) ⟨⟨h0, by omega⟩, PtrSome_at ⟨one4 _ _ _, ?_, ?_⟩⟩⟩)
        · exact St.thereR (f := coRow) (s := 4) (fun _ => rfl) H 2 rfl (by simp [coPl]; omega)
        · refine St.setsR (f := coRow) (s := 4) (fun _ => rfl) H 2 rfl ⟨((C : Nat) : Int), ((x.2.2 : Nat) : Int), 0, 0⟩ (by simp [coPl]; omega) rfl (fun w H => ?_)
          simp only [List.set_cons_succ, List.set_cons_zero] at H
          rw [pl_set xs i.toNat hi] at H
          refine ⟨⟨by omega, by omega⟩, exSlice (H.cell 0 rfl (own_map hx)) (H.allocK (fun w6 H => ?_))⟩
          rw [hown2] at H
          refine app1' iRow 1 8 0 22 22 3 (.int .i64 0) (by kernel_rfl) (by kernel_rfl) (by decide) (fun _ => rfl) rfl (by intro x u hu; simp at hu; subst hu; rfl) H
            (_ :: _ :: _ :: _ :: X) (Y ++ ((nb, rows iRow all) :: (seatL sa (seats0 xs.length false false) ++ (G ++ (planL a2 s2 ++ B))))) x.1 x.2.1 x.2.2 ((C : Nat) : Int) (by simp; exact ⟨rfl, rfl, rfl, rfl⟩) j2 j3 0 rfl (by omega) (by decide) ?_
          intro p1 all1 w3 t1 l1 H
          simp only [List.cons_append] at H
          replace H := H.tail
          refine ⟨⟨by omega, by omega⟩, H.can 0 rfl (by simpa using hCl), H.setK 0 rfl (fun w H => ?_)⟩
          simp only [List.set_cons_zero] at H
          have hst := hown.step hx (p' := p1) t1 l1
          have e1 : (i + 1).toNat = i.toNat + 1 := by omega
          refine ⟨⟨⟨by omega, by omega⟩, _, (by rw [e1, take_one hi, hC]; exact hst), H.to ?_⟩, show (xs.length - (i + 1)).toNat < (xs.length - i).toNat by omega⟩
          have hsv := own_setV own C (some p1, all1, x.2.2 + 1)
          have hol := hXY (some p1, all1, x.2.2 + 1)
          rw [← hsv, hol, e1, coPl_succ, hC]
          simp only [slB, slA, Option.map_some, List.append_assoc, List.cons_append, List.nil_append, j1]
          rfl
      · have ei : i.toNat = xs.length := by omega
        refine Br_f c2 ?_
        rw [ei, List.take_length] at hown
        rw [ei, Nat.sub_self, List.replicate_zero, List.append_nil] at H
        obtain ⟨x0, x1, x2, x3, x4, x5, x6, x7, rfl⟩ := len8 hown.len
        refine exSlice (H.cell 0 rfl rfl) (exSlice (H.cell 0 rfl rfl) (exSlice (H.cell 0 rfl rfl) (exSlice (H.cell 0 rfl rfl) ?_)))
        refine exSlice (H.cell 0 rfl rfl) (exSlice (H.cell 0 rfl rfl) (exSlice (H.cell 0 rfl rfl) (exSlice (H.cell 0 rfl rfl) ?_)))
        generalize hO : [x0, x1, x2, x3, x4, x5, x6, x7] = own at *
        have hlH := locH_few lk xs (by omega)
        refine ⟨fun i w' => (0 ≤ i ∧ i ≤ 8) ∧ ∃ LA a3 s3, fitsL LA (locF lk xs (s.n + 8 + (innerH gk (upTo 8)).length) i.toNat).1 ∧ Grew a s a3 s3 (upTo 8 ++ innerH gk (upTo 8) ++ locH lk xs i.toNat) (List.replicate 8 0 ++ innerW gk 8 ++ locW lk xs i.toNat) ∧
            St w0 S w' ((ob, own.map ownV) :: (lb, coHead sa s.n (IntKind.u32.wrap bd) rb xs.length lg.v (LA.map optV ++ List.replicate (8 - i.toNat) .nilIface)) :: (rb, rows coRow (coPl xs xs.length)) ::
              (ownL own ++ ((nb, rows iRow all) :: (seatL sa (seats0 xs.length false false) ++ (G ++ (locsLC (.pointer none) LA (locF lk xs (s.n + 8 + (innerH gk (upTo 8)).length) i.toNat).1 ++ (planL a3 s3 ++ B))))))),
          fun i _ => (8 - i).toNat, ⟨⟨by omega, by omega⟩, [], a2, s2, trivial, by simpa [locH, locW, locF] using g.trans g2, H.to (by simp [locF, locsLC])⟩, ?_⟩
        rintro _g w i ⟨⟨h0, h1⟩, LA, a3, s3, hfl, g3, H⟩
        by_cases c3 : i < 8
        · refine Br_t c3 ⟨⟨h0, c3⟩, ?_⟩
          have hi : i.toNat < 8 := by omega
          have hil : i.toNat < own.length := by rw [hown.len]; exact hi
          have hLA : LA.length = i.toNat := (fitsL_len hfl).trans (locF_len _ _ _ _)
          have hx : own[i.toNat]? = some (own[i.toNat]'hil) := List.getElem?_eq_getElem hil
          have hv : Array.getD #[Value.slice (slA x0.1) x0.2.2 x0.2.1.length, .slice (slA x1.1) x1.2.2 x1.2.1.length, .slice (slA x2.1) x2.2.2 x2.2.1.length, .slice (slA x3.1) x3.2.2 x3.2.1.length, .slice (slA x4.1) x4.2.2 x4.2.1.length, .slice (slA x5.1) x5.2.2 x5.2.1.length, .slice (slA x6.1) x6.2.2 x6.2.1.length, .slice (slA x7.1) x7.2.2 x7.2.1.length] i.toNat undef = ownV (own[i.toNat]'hil) := by
            subst hO; exact own8 x0 x1 x2 x3 x4 x5 x6 x7 i.toNat hi
          obtain ⟨j1, j2, j3, j4⟩ := hown.at_ _ _ hx
          generalize own[i.toNat]'hil = y at hv hx j1 j2 j3 j4
          obtain ⟨yp, yall, yn⟩ := y
          simp only at j1 j2 j3 j4
          refine ⟨_, _, _, hv, ?_⟩
          rw [wrap_succ h0 (by omega)]
          have e1 : (i + 1).toNat = i.toNat + 1 := by omega
          have gn3 := g3.n
          simp only [List.length_append, gl] at gn3
          have hlHi := hlH i.toNat
          have hat : (locF lk xs (s.n + 8 + (innerH gk (upTo 8)).length) i.toNat).2 = ((s3.n : Nat) : Int) := by rw [locF_at]; omega
          by_cases c4 : (((yn : Nat) : Int)) > 0
          · refine Br_t c4 (H.drewK (fun w H => ?_))
            cases yp with
            | none => have := j3 rfl; subst this; simp at j2; omega
            | some yb =>
            have hcl := List.count_le_length (a := ((i.toNat : Nat) : Int)) (l := xs)
            have hin3 := cohInner a3 s3 g3.ok (by omega) lk (slA (some yb)) (List.replicate yn ((i.toNat : Nat) : Int)) yall.length (by simp; omega) (newOk_rep hi (by omega) (by omega))
            rw [List.length_replicate] at hin3
            rw [g.p, ← g3.p]
            have H' := H.to (L' := (_ :: _ :: _ :: (ownL own ++ ((nb, rows iRow all) :: (seatL sa (seats0 xs.length false false) ++ (G ++ locsLC (.pointer none) LA (locF lk xs (s.n + 8 + (innerH gk (upTo 8)).length) i.toNat).1))))) ++ (planL a3 s3 ++ B)) (by simp; exact ⟨rfl, rfl, rfl⟩)
            refine hin3.go H' _ B rfl (RO.mem H' (b := yb) (cs := rows iRow yall) (by simp [own_mem hx]) (St.notin2 H' (p := (yb, rows iRow yall)) (by simp [own_mem hx])) (iRow_get j4)) (fun r A w5 hq H => ?_)
            obtain ⟨lx, a4, s4, rfl, hfx, g4, rfl⟩ := hq
            have hne : ¬ xs.count ((i.toNat : Nat) : Int) = 0 := by omega
            simp only [List.cons_append, List.append_assoc] at H
            refine ⟨_, rfl, ⟨h0, c3⟩, oneV lx, H.can 1 rfl (by rw [coHead_len]; simp; omega), H.setK 1 rfl (fun w H => ?_)⟩
            simp only [List.set_cons_succ, List.set_cons_zero] at H
            have hset := coHead_set sa s.n (IntKind.u32.wrap bd) rb xs.length lg.v lx.v (LA.map optV) (8 - (i.toNat + 1))
            rw [List.length_map, hLA, show 8 - (i.toNat + 1) + 1 = 8 - i.toNat by omega] at hset
            rw [hset] at H
            refine ⟨⟨⟨by omega, by omega⟩, LA ++ [some lx], a4, s4, ?_, ?_, H.to ?_⟩, show (8 - (i + 1)).toNat < (8 - i).toNat by omega⟩
            · rw [e1, locF_yes lk xs _ hne]
              refine fitsL_app hfl ?_
              rw [hat, ← j1]
              exact ⟨⟨hfx, LI.first_wf _ _ _⟩, trivial⟩
            · rw [e1, locH_yes lk xs hne, locW_yes lk xs hne, ← j1]
              have := g3.trans g4
              simpa only [List.append_assoc] using this
            · rw [e1, locF_yes lk xs _ hne]
              rw [locsLC_app (fitsL_len hfl), hat, ← j1]
              simp [locsLC, optV]
          · refine Br_f c4 ?_
            have hne : xs.count ((i.toNat : Nat) : Int) = 0 := by omega
            refine ⟨⟨⟨by omega, by omega⟩, LA ++ [none], a3, s3, ?_, ?_, H.to ?_⟩, show (8 - (i + 1)).toNat < (8 - i).toNat by omega⟩
            · rw [e1, locF_no lk xs _ hne]
              exact fitsL_app hfl trivial
            · rw [e1, locH_no lk xs hne, locW_no lk xs hne]; exact g3
            · rw [e1, locF_no lk xs _ hne]
              rw [locsLC_app (fitsL_len hfl), show 8 - i.toNat = (8 - (i.toNat + 1)) + 1 by omega, List.replicate_succ]
              simp [locsLC, optV]
        · have e8 : i.toNat = 8 := by omega
          rw [e8] at hfl g3 H
          simp only [Nat.sub_self, List.replicate_zero, List.append_nil] at H
          subst hG
          have hs'n : ((s'.n : Nat) : Int) = s.n + 8 := by omega
          refine Br_f c3 ⟨_, _, rfl, Or.inr (Or.inr ⟨hgood, hok, ⟨lb, rb, sa, dummyPA, lg, LA⟩, a3, s3, rfl, ?_, hfl, g3, rfl⟩), ?_⟩
          · simp only [CS.first]; rw [← hs'n]; exact hfg
          · have H2 := H.sub (L' := (lb, coHead sa s.n (IntKind.u32.wrap bd) rb xs.length lg.v (LA.map optV)) :: (rb, rows coRow (coPl xs xs.length)) :: (seatL sa (seats0 xs.length false false) ++ (LI.blkC (.pointer none) lg (LI.first gk 8 s'.n) ++ (locsLC (.pointer none) LA (locF lk xs (s.n + 8 + (innerH gk (upTo 8)).length) 8).1 ++ (planL a3 s3 ++ B)))))
              (.cons _ (.cons_cons _ (.cons_cons _ ((List.Sublist.cons _ (List.Sublist.refl _)).trans (List.sublist_append_right _ _)))))
            refine H2.to ?_
            simp only [cohLC, CS.first, coHead, seats0, List.length_replicate, hs'n, List.cons_append, List.append_assoc]
  · refine (planLen a s).go H (_ :: seatL sa (seats0 xs.length false false)) B rfl (fun w7 H => ⟨_, rfl, H.allocK (fun w8 H => H.allocK (fun w9 H => ?_))⟩)
    rw [Int.toNat_natCast, made_coRow] at H
    simp only [Int.toNat_natCast] at H ⊢
    generalize hob : w8.heap.size = ob at H ⊢
    generalize hlb : w7.heap.size = lb at H ⊢
    generalize hrb : w5.heap.size = rb at H ⊢
    refine ⟨fun p l c i w' => (0 ≤ i ∧ i ≤ 8) ∧ ∃ np all a' s', (p = slA np ∧ l = i.toNat ∧ c = all.length) ∧ all.take i.toNat = upTo i.toNat ∧ i.toNat ≤ all.length ∧ (np = none → all = []) ∧ Grew a s a' s' (upTo i.toNat) (List.replicate i.toNat 0) ∧
        St w0 S w' ((ob, List.replicate 8 (Value.slice none 0 0)) :: (lb, coHead sa s.n (IntKind.u32.wrap bd) rb xs.length .nilIface (List.replicate 8 .nilIface)) :: (rb, rows coRow (List.replicate xs.length default)) :: (slB iRow np all ++ (seatL sa (seats0 xs.length false false) ++ (planL a' s' ++ B)))),
      fun _ _ _ i _ => (8 - i).toNat, ⟨⟨by omega, by omega⟩, none, [], a, s, ⟨rfl, rfl, rfl⟩, rfl, by simp, fun _ => rfl, ⟨rfl, hs, rfl, by simp [upTo], by simp [upTo], by simp⟩, H.to (by simp [slB, coHead, List.replicate]; try rfl)⟩, ?_⟩
    rintro _g w _ _ _ i ⟨⟨h0, h1⟩, np, all, a', s', ⟨rfl, rfl, rfl⟩, ht, hle, hn, g, H⟩
    by_cases c1 : i < 8
    · refine Br_t c1 ?_
      have gn := g.n
      have gl : (upTo i.toNat).length = i.toNat := by simp [upTo]
      rw [gl] at gn
      rw [← g.p]
      refine (planWordG a' s' g.ok i 0 (by omega)).go H (_ :: _ :: _ :: (slB iRow np all ++ seatL sa (seats0 xs.length false false))) B (by simp; exact ⟨rfl, rfl, rfl⟩) (fun r A w5 hq H => ?_)
      obtain ⟨rfl, a2, s2, rfl, g2⟩ := hq
      refine ⟨_, rfl, H.allocK (fun w6 H => ?_)⟩
      refine app1' iRow 1 8 0 22 22 3 (.int .i64 0) (by kernel_rfl) (by kernel_rfl) (by decide) (fun _ => rfl) rfl (by intro x u hu; simp at hu; subst hu; rfl) H
        [_, _, _, _] (seatL sa (seats0 xs.length false false) ++ (planL a2 s2 ++ B)) np all i.toNat i (by simp; exact ⟨rfl, rfl, rfl, rfl⟩) hle hn 0 rfl (by omega) (by decide) ?_
      intro p1 all1 w3 t1 l1 H
      rw [wrap_succ h0 (by omega)]
      have e1 : (i + 1).toNat = i.toNat + 1 := by omega
      refine ⟨⟨⟨by omega, by omega⟩, some p1, all1, a2, s2, ⟨rfl, e1.symm, rfl⟩, ?_, by omega, fun e => (by cases e), ?_, H.tail⟩, show (8 - (i + 1)).toNat < (8 - i).toNat by omega⟩
      · rw [e1, t1, ht, upTo_succ, Int.toNat_of_nonneg h0]
      · have g3 := g.trans g2
        rw [e1, upTo_succ, List.replicate_succ', Int.toNat_of_nonneg h0]
        exact g3
    · have e8 : i.toNat = 8 := by omega
      refine Br_f c1 ?_
      rw [e8] at ht hle g ⊢
      cases np with
      | none => have := hn rfl; subst this; simp at hle
      | some nb =>
      have gn := g.n
      have gl : (upTo 8).length = 8 := rfl
      rw [gl] at gn
      have hin := cohInner a' s' g.ok (by omega) gk (slA (some nb)) (upTo 8) all.length (by decide) newOk_up
      rw [gl] at hin
      rw [← g.p]
      have H' := H.to (L' := (_ :: _ :: _ :: (nb, rows iRow all) :: seatL sa (seats0 xs.length false false)) ++ (planL a' s' ++ B)) (by simp [slB]; exact ⟨rfl, rfl, rfl⟩)
      refine hin.go H' (_ :: _ :: _ :: _ :: seatL sa (seats0 xs.length false false)) B rfl (RO.mem H' (b := nb) (cs := rows iRow all) (by simp) (St.notin2 H' (p := (nb, rows iRow all)) (by simp)) (iRow_get ht)) (fun r A w5 hq H => ?_)
      obtain ⟨lg, a2, s2, rfl, hfg, g2, rfl⟩ := hq
      have n2 := g2.n
      have hi8 := innerH_few gk (upTo 8)
      rw [gl] at hi8
      generalize hG : LI.blkC (Value.pointer none) lg (LI.first gk 8 s'.n) = G at H
      simp only [List.cons_append, List.append_assoc] at H
      refine ⟨_, rfl, oneV lg, H.can 1 rfl (by rw [coHead_len]; omega), H.setK 1 rfl (fun w H => ?_)⟩
      simp only [List.set_cons_succ, List.set_cons_zero] at H
      refine ⟨fun i w' => (0 ≤ i ∧ i ≤ xs.length) ∧ ∃ own, OwnI (xs.take i.toNat) own ∧ St w0 S w' ((ob, own.map ownV) :: (lb, coHead sa s.n (IntKind.u32.wrap bd) rb xs.length lg.v (List.replicate 8 .nilIface)) :: (rb, rows coRow (coPl xs i.toNat ++ List.replicate (xs.length - i.toNat) default)) ::
          (ownL own ++ ((nb, rows iRow all) :: (seatL sa (seats0 xs.length false false) ++ (G ++ (planL a2 s2 ++ B)))))),
        fun i _ => (xs.length - i).toNat, ⟨⟨by omega, by omega⟩, _, OwnI.start, H.to (by simp [coPl, ownL, slB]; exact ⟨rfl, rfl⟩)⟩, ?_⟩
      rintro _g w i ⟨⟨h0, h1⟩, own, hown, H⟩
      by_cases c2 : i < xs.length
      · refine Br_t c2 ⟨⟨h0, c2⟩, ?_⟩
        have hi : i.toNat < xs.length := by omega
        obtain ⟨b, o, ee, hc⟩ := hr.read H (j := i.toNat) hi
        cases ee
        obtain ⟨k0, k8⟩ := anyBad_get hbad hi
        obtain ⟨C, hC⟩ := Int.eq_ofNat_of_zero_le k0
        have hCl : C < own.length := by rw [hown.len]; omega
        obtain ⟨x, hx⟩ : ∃ x, own[C]? = some x := ⟨_, List.getElem?_eq_getElem hCl⟩
        obtain ⟨X, Y, hXY⟩ := own_at hx
        have hown2 := hXY x
        rw [own_same hx] at hown2
        obtain ⟨j1, j2, j3, j4⟩ := hown.at_ C x hx
        have hcnt := List.count_le_length (a := ((C : Nat) : Int)) (l := xs.take i.toNat)
        rw [List.length_take] at hcnt
        refine PtrSome_at (exInt hc ?_)
        rw [hC, wrap_succ h0 (by omega)]
        simp only [Int.toNat_natCast]
        refine H.drewK (fun w H => exSlice (H.cell 1 rfl rfl) ⟨⟨by omega, by omega⟩, exSlice (H.cell 0 rfl (own_map hx)) ⟨⟨h0, by omega⟩, PtrSome_at ⟨one4 _ _ _, ?_, ?_⟩⟩⟩)
        · exact St.thereR (f := coRow) (s := 4) (fun _ => rfl) H 2 rfl (by simp [coPl]; omega)
        · refine St.setsR (f := coRow) (s := 4) (fun _ => rfl) H 2 rfl ⟨((C : Nat) : Int), ((x.2.2 : Nat) : Int), 0, 0⟩ (by simp [coPl]; omega) rfl (fun w H => ?_)
          simp only [List.set_cons_succ, List.set_cons_zero] at H
          rw [pl_set xs i.toNat hi] at H
          refine ⟨⟨by omega, by omega⟩, exSlice (H.cell 0 rfl (own_map hx)) (H.allocK (fun w6 H => ?_))⟩
          rw [hown2] at H
          refine app1' iRow 1 8 0 22 22 3 (.int .i64 0) (by kernel_rfl) (by kernel_rfl) (by decide) (fun _ => rfl) rfl (by intro x u hu; simp at hu; subst hu; rfl) H
            (_ :: _ :: _ :: _ :: X) (Y ++ ((nb, rows iRow all) :: (seatL sa (seats0 xs.length false false) ++ (G ++ (planL a2 s2 ++ B))))) x.1 x.2.1 x.2.2 ((C : Nat) : Int) (by simp; exact ⟨rfl, rfl, rfl, rfl⟩) j2 j3 0 rfl (by omega) (by decide) ?_
          intro p1 all1 w3 t1 l1 H
          simp only [List.cons_append] at H
          replace H := H.tail
          refine ⟨⟨by omega, by omega⟩, H.can 0 rfl (by simpa using hCl), H.setK 0 rfl (fun w H => ?_)⟩
          simp only [List.set_cons_zero] at H
          have hst := hown.step hx (p' := p1) t1 l1
          have e1 : (i + 1).toNat = i.toNat + 1 := by omega
          refine ⟨⟨⟨by omega, by omega⟩, _, (by rw [e1, take_one hi, hC]; exact hst), H.to ?_⟩, show (xs.length - (i + 1)).toNat < (xs.length - i).toNat by omega⟩
          have hsv := own_setV own C (some p1, all1, x.2.2 + 1)
          have hol := hXY (some p1, all1, x.2.2 + 1)
          rw [← hsv, hol, e1, coPl_succ, hC]
          simp only [slB, slA, Option.map_some, List.append_assoc, List.cons_append, List.nil_append, j1]
          rfl
      · have ei : i.toNat = xs.length := by omega
        refine Br_f c2 ?_
        rw [ei, List.take_length] at hown
        rw [ei, Nat.sub_self, List.replicate_zero, List.append_nil] at H
        obtain ⟨x0, x1, x2, x3, x4, x5, x6, x7, rfl⟩ := len8 hown.len
        refine exSlice (H.cell 0 rfl rfl) (exSlice (H.cell 0 rfl rfl) (exSlice (H.cell 0 rfl rfl) (exSlice (H.cell 0 rfl rfl) ?_)))
        refine exSlice (H.cell 0 rfl rfl) (exSlice (H.cell 0 rfl rfl) (exSlice (H.cell 0 rfl rfl) (exSlice (H.cell 0 rfl rfl) ?_)))
        generalize hO : [x0, x1, x2, x3, x4, x5, x6, x7] = own at *
        have hlH := locH_few lk xs (by omega)
        refine ⟨fun i w' => (0 ≤ i ∧ i ≤ 8) ∧ ∃ LA a3 s3, fitsL LA (locF lk xs (s.n + 8 + (innerH gk (upTo 8)).length) i.toNat).1 ∧ Grew a s a3 s3 (upTo 8 ++ innerH gk (upTo 8) ++ locH lk xs i.toNat) (List.replicate 8 0 ++ innerW gk 8 ++ locW lk xs i.toNat) ∧
            St w0 S w' ((ob, own.map ownV) :: (lb, coHead sa s.n (IntKind.u32.wrap bd) rb xs.length lg.v (LA.map optV ++ List.replicate (8 - i.toNat) .nilIface)) :: (rb, rows coRow (coPl xs xs.length)) ::
              (ownL own ++ ((nb, rows iRow all) :: (seatL sa (seats0 xs.length false false) ++ (G ++ (locsLC (.pointer none) LA (locF lk xs (s.n + 8 + (innerH gk (upTo 8)).length) i.toNat).1 ++ (planL a3 s3 ++ B))))))),
          fun i _ => (8 - i).toNat, ⟨⟨by omega, by omega⟩, [], a2, s2, trivial, by simpa [locH, locW, locF] using g.trans g2, H.to (by simp [locF, locsLC])⟩, ?_⟩
        rintro _g w i ⟨⟨h0, h1⟩, LA, a3, s3, hfl, g3, H⟩
        by_cases c3 : i < 8
        · refine Br_t c3 ⟨⟨h0, c3⟩, ?_⟩
          have hi : i.toNat < 8 := by omega
          have hil : i.toNat < own.length := by rw [hown.len]; exact hi
          have hLA : LA.length = i.toNat := (fitsL_len hfl).trans (locF_len _ _ _ _)
          have hx : own[i.toNat]? = some (own[i.toNat]'hil) := List.getElem?_eq_getElem hil
          have hv : Array.getD #[Value.slice (slA x0.1) x0.2.2 x0.2.1.length, .slice (slA x1.1) x1.2.2 x1.2.1.length, .slice (slA x2.1) x2.2.2 x2.2.1.length, .slice (slA x3.1) x3.2.2 x3.2.1.length, .slice (slA x4.1) x4.2.2 x4.2.1.length, .slice (slA x5.1) x5.2.2 x5.2.1.length, .slice (slA x6.1) x6.2.2 x6.2.1.length, .slice (slA x7.1) x7.2.2 x7.2.1.length] i.toNat undef = ownV (own[i.toNat]'hil) := by
            subst hO; exact own8 x0 x1 x2 x3 x4 x5 x6 x7 i.toNat hi
          obtain ⟨j1, j2, j3, j4⟩ := hown.at_ _ _ hx
          generalize own[i.toNat]'hil = y at hv hx j1 j2 j3 j4
          obtain ⟨yp, yall, yn⟩ := y
          simp only at j1 j2 j3 j4
          refine ⟨_, _, _, hv, ?_⟩
          rw [wrap_succ h0 (by omega)]
          have e1 : (i + 1).toNat = i.toNat + 1 := by omega
          have gn3 := g3.n
          simp only [List.length_append, gl] at gn3
          have hlHi := hlH i.toNat
          have hat : (locF lk xs (s.n + 8 + (innerH gk (upTo 8)).length) i.toNat).2 = ((s3.n : Nat) : Int) := by rw [locF_at]; omega
          by_cases c4 : (((yn : Nat) : Int)) > 0
          · refine Br_t c4 (H.drewK (fun w H => ?_))
            cases yp with
            | none => have := j3 rfl; subst this; simp at j2; omega
            | some yb =>
            have hcl := List.count_le_length (a := ((i.toNat : Nat) : Int)) (l := xs)
            have hin3 := cohInner a3 s3 g3.ok (by omega) lk (slA (some yb)) (List.replicate yn ((i.toNat : Nat) : Int)) yall.length (by simp; omega) (newOk_rep hi (by omega) (by omega))
            rw [List.length_replicate] at hin3
            rw [g.p, ← g3.p]
            have H' := H.to (L' := (_ :: _ :: _ :: (ownL own ++ ((nb, rows iRow all) :: (seatL sa (seats0 xs.length false false) ++ (G ++ locsLC (.pointer none) LA (locF lk xs (s.n + 8 + (innerH gk (upTo 8)).length) i.toNat).1))))) ++ (planL a3 s3 ++ B)) (by simp; exact ⟨rfl, rfl, rfl⟩)
            refine hin3.go H' _ B rfl (RO.mem H' (b := yb) (cs := rows iRow yall) (by simp [own_mem hx]) (St.notin2 H' (p := (yb, rows iRow yall)) (by simp [own_mem hx])) (iRow_get j4)) (fun r A w5 hq H => ?_)
            obtain ⟨lx, a4, s4, rfl, hfx, g4, rfl⟩ := hq
            have hne : ¬ xs.count ((i.toNat : Nat) : Int) = 0 := by omega
            simp only [List.cons_append, List.append_assoc] at H
            refine ⟨_, rfl, ⟨h0, c3⟩, oneV lx, H.can 1 rfl (by rw [coHead_len]; simp; omega), H.setK 1 rfl (fun w H => ?_)⟩
            simp only [List.set_cons_succ, List.set_cons_zero] at H
            have hset := coHead_set sa s.n (IntKind.u32.wrap bd) rb xs.length lg.v lx.v (LA.map optV) (8 - (i.toNat + 1))
            rw [List.length_map, hLA, show 8 - (i.toNat + 1) + 1 = 8 - i.toNat by omega] at hset
            rw [hset] at H
            refine ⟨⟨⟨by omega, by omega⟩, LA ++ [some lx], a4, s4, ?_, ?_, H.to ?_⟩, show (8 - (i + 1)).toNat < (8 - i).toNat by omega⟩
            · rw [e1, locF_yes lk xs _ hne]
              refine fitsL_app hfl ?_
              rw [hat, ← j1]
              exact ⟨⟨hfx, LI.first_wf _ _ _⟩, trivial⟩
            · rw [e1, locH_yes lk xs hne, locW_yes lk xs hne, ← j1]
              have := g3.trans g4
              simpa only [List.append_assoc] using this
            · rw [e1, locF_yes lk xs _ hne]
              rw [locsLC_app (fitsL_len hfl), hat, ← j1]
              simp [locsLC, optV]
          · refine Br_f c4 ?_
            have hne : xs.count ((i.toNat : Nat) : Int) = 0 := by omega
            refine ⟨⟨⟨by omega, by omega⟩, LA ++ [none], a3, s3, ?_, ?_, H.to ?_⟩, show (8 - (i + 1)).toNat < (8 - i).toNat by omega⟩
            · rw [e1, locF_no lk xs _ hne]
              exact fitsL_app hfl trivial
            · rw [e1, locH_no lk xs hne, locW_no lk xs hne]; exact g3
            · rw [e1, locF_no lk xs _ hne]
              rw [locsLC_app (fitsL_len hfl), show 8 - i.toNat = (8 - (i.toNat + 1)) + 1 by omega, List.replicate_succ]
              simp [locsLC, optV]
        · have e8 : i.toNat = 8 := by omega
          rw [e8] at hfl g3 H
          simp only [Nat.sub_self, List.replicate_zero, List.append_nil] at H
          subst hG
          have hs'n : ((s'.n : Nat) : Int) = s.n + 8 := by omega
          refine Br_f c3 ⟨_, _, rfl, Or.inr (Or.inr ⟨hgood, hok, ⟨lb, rb, sa, dummyPA, lg, LA⟩, a3, s3, rfl, ?_, hfl, g3, rfl⟩), ?_⟩
          · simp only [CS.first]; rw [← hs'n]; exact hfg
          · have H2 := H.sub (L' := (lb, coHead sa s.n (IntKind.u32.wrap bd) rb xs.length lg.v (LA.map optV)) :: (rb, rows coRow (coPl xs xs.length)) :: (seatL sa (seats0 xs.length false false) ++ (LI.blkC (.pointer none) lg (LI.first gk 8 s'.n) ++ (locsLC (.pointer none) LA (locF lk xs (s.n + 8 + (innerH gk (upTo 8)).length) 8).1 ++ (planL a3 s3 ++ B)))))
              (.cons _ (.cons_cons _ (.cons_cons _ ((List.Sublist.cons _ (List.Sublist.refl _)).trans (List.sublist_append_right _ _)))))
            refine H2.to ?_
            simp only [cohLC, CS.first, coHead, seats0, List.length_replicate, hs'n, List.cons_append, List.append_assoc]
end Go.Proofs.YtollfjfcdofbaaaGreat
