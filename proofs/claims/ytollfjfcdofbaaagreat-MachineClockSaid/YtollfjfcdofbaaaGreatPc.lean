/- The machine's clock: every event moves it as its kind says, and what is entered bears its time. -/
import Derived.Test.YtollfjfcdofbaaaGreatNa
import Derived.Test.YtollfjfcdofbaaaGreatSymF
namespace Go.Proofs.YtollfjfcdofbaaaGreat
open Go Go.Proofs
set_option linter.unusedSimpArgs false
set_option linter.unusedVariables false
set_option maxRecDepth 100000
set_option maxHeartbeats 4000000
-- NB 3

namespace MS
theorem evs_at (d : Dd) (t now : Int) : ∀ x ∈ evs d t now, x.2.2.1 = now := by
  intro x hx
  unfold evs at hx
  simp only [List.mem_append] at hx
  rcases hx with (hx | hx) | hx
  all_goals
    revert hx
    repeat' split
    all_goals
      intro hx
      simp at hx
      try (subst hx; rfl)
theorem do1_tr (s : MS) (e : Ev) : ∃ more, (s.do1 e).tr = s.tr ++ more ∧ (∀ x ∈ more, x.2.2.1 = s.now) ∧ (e.1 = 2 → more = []) := by
  unfold do1
  by_cases c1 : e.1 = 1
  · rw [if_pos c1]; unfold step; split
    · exact ⟨_, rfl, evs_at _ _ _, fun h => by omega⟩
    · exact ⟨[], by simp, by simp, fun _ => rfl⟩
  rw [if_neg c1]
  by_cases c2 : e.1 = 2
  · rw [if_pos c2]; unfold tick; split <;> exact ⟨[], by simp, by simp, fun _ => rfl⟩
  rw [if_neg c2]
  by_cases c3 : e.1 = 3
  · rw [if_pos c3]; unfold call; split
    · exact ⟨_, rfl, by simp [enter], fun h => by omega⟩
    · exact ⟨[], by simp, by simp, fun _ => rfl⟩
  rw [if_neg c3]
  by_cases c4 : e.1 = 4
  · rw [if_pos c4]; unfold fin; split
    · exact ⟨_, rfl, by simp [enter], fun h => by omega⟩
    · exact ⟨[], by simp, by simp, fun _ => rfl⟩
  rw [if_neg c4]
  exact ⟨[], by simp, by simp, fun _ => rfl⟩
theorem do_tr (s : MS) (e : Ev) : ∃ more, (s.do_ e).tr = s.tr ++ more ∧ (∀ x ∈ more, x.2.2.1 = s.now) ∧ (e.1 = 2 → more = []) := by
  unfold do_; split <;> exact do1_tr s e
theorem do1_now (s : MS) (e : Ev) : (s.do1 e).now = if e.1 = 2 then s.tick.now else s.now := by
  unfold do1
  by_cases c1 : e.1 = 1
  · rw [if_pos c1, if_neg (by omega)]; unfold step; split <;> rfl
  rw [if_neg c1]
  by_cases c2 : e.1 = 2
  · rw [if_pos c2, if_pos c2]
  rw [if_neg c2, if_neg c2]
  by_cases c3 : e.1 = 3
  · rw [if_pos c3]; unfold call; split <;> rfl
  rw [if_neg c3]
  by_cases c4 : e.1 = 4
  · rw [if_pos c4]; unfold fin; split <;> rfl
  rw [if_neg c4]
theorem do_now (s : MS) (e : Ev) : (s.do_ e).now = if e.1 = 2 then s.tick.now else s.now := by
  unfold do_; split <;> exact do1_now s e
theorem tick_now (s : MS) (h : s.now < 1000000) (h0 : 0 ≤ s.now) : s.tick.now = s.now + 1 := by
  unfold tick
  rw [if_pos (by simp [tickB]; omega)]
  exact wrap_i64 (by omega) (by omega)
end MS
/-- what the laws of the machine ask of their input -/
def fineB (c : Cf) (n : Nat) (most : Int) : Bool := decide (((c.homes.length : Nat) : Int) ≤ 8) && (c.err == 0 && decide (((n : Nat) : Int) ≤ most))
theorem fine18 (c : Cf) (p : Option Addr) (cap : Nat) (q : Option Addr) (n k : Nat) (most : Int) :
    SpR Tryz.prog 49 #[c.val p cap, .slice q n k, i64 most] (fun w S => ROi w S p c.homes) [] (fun r A => r = .bool (fineB c n most) ∧ A = []) := by
  intro w0 S w B hr H
  refine callsWeighlocklaw18Fine _ _ _ _ _ _ _ _ _ _ _ _ _ _ _ _ ?_
  unfold preWeighlocklaw18Fine
  refine H.allocK (fun w1 H => exSlice (H.cell 0 rfl rfl) ?_)
  by_cases h8 : ((c.homes.length : Nat) : Int) ≤ 8
  · refine Br_t h8 ?_
    refine exInt (H.cell 0 rfl rfl) (exSlice (H.cell 0 rfl rfl) (exInt (H.cell 0 rfl rfl) (exInt (H.cell 0 rfl rfl) (exInt (H.cell 0 rfl rfl) (exInt (H.cell 0 rfl rfl) (exInt (H.cell 0 rfl rfl) (exInt (H.cell 0 rfl rfl) ?_)))))))
    refine (law17Ref c p cap []).go H [] _ rfl (fun w3 H => ⟨_, _, _, _, _, _, _, _, _, _, rfl, ?_⟩)
    refine (refCheck c p cap (by omega)).go H [] _ rfl (hr.sub H (by simp)) (fun r A w4 hq H => ?_)
    obtain ⟨rfl, rfl⟩ := hq
    refine ⟨_, rfl, ?_⟩
    by_cases he : c.err = 0
    · refine Br_eq he ⟨_, [], rfl, ⟨?_, rfl⟩, H.tail⟩
      simp [fineB, h8, he]
    · refine Br_neq he ⟨_, [], rfl, ⟨?_, rfl⟩, H.tail⟩
      simp [fineB, he]
  · refine Br_f h8 ⟨_, [], rfl, ⟨?_, rfl⟩, H.tail⟩
    simp [fineB]; intro h; omega
theorem fineB_t {c : Cf} {n : Nat} {most : Int} (h : fineB c n most = true) : c.homes.length ≤ 8 ∧ c.err = 0 ∧ ((n : Nat) : Int) ≤ most := by
  unfold fineB at h
  simp only [Bool.and_eq_true, decide_eq_true_eq, beq_iff_eq] at h
  exact ⟨by omega, h.2.1, h.2.2⟩
/-- the state before the k-th event of a run that is followed event by event -/
def MS.at_ (c : Cf) (l : List MS.Ev) (k : Nat) : MS := (MS.first c).run (l.take k)
theorem MS.at_succ (c : Cf) (l : List MS.Ev) (k : Nat) (e : MS.Ev) (hk : k < l.length) (he : l.getD k default = e) : MS.at_ c l (k + 1) = (MS.at_ c l k).do_ e := by
  have htk : l.take (k + 1) = l.take k ++ [e] := by
    rw [List.take_add_one, List.getElem?_eq_getElem hk, ← he, List.getD_eq_getElem?_getD, List.getElem?_eq_getElem hk]; rfl
  unfold MS.at_; rw [htk, MS.run_snoc]
theorem MS.at_len (c : Cf) (l : List MS.Ev) (k : Nat) : (MS.at_ c l k).tr.length ≤ 3 * k := by
  have h := MS.run_len (MS.first c) (l.take k)
  rw [List.length_take] at h
  have h0 : (MS.first c).tr.length = 0 := by simp [MS.first]
  unfold MS.at_; omega
theorem MS.at_ok {la : LkA} {c : Cf} (h : MS.ok1 la (MS.first c)) (l : List MS.Ev) (k : Nat) : MS.ok1 la (MS.at_ c l k) := MS.ok1_run h _
/-- the n-th tick's time -/
theorem MS.at_now (c : Cf) (l : List MS.Ev) (k : Nat) (hk : k ≤ 1000) (hl : k ≤ l.length) : 0 ≤ (MS.at_ c l k).now ∧ (MS.at_ c l k).now ≤ k := by
  induction k with
  | zero => simp [MS.at_, MS.run, MS.first]
  | succ k ih =>
    have ih := ih (by omega) (by omega)
    rw [MS.at_succ c l k _ (by omega) rfl, MS.do_now]
    split
    · rw [MS.tick_now _ (by omega) ih.1]; omega
    · omega
theorem en_at (xs : List En) (k j : Nat) (ad more : List En) (v : Value) (hk : k < ad.length) (hj : j < 4) (hv : (enRow (ad.getD k default))[j]? = some v) :
    (((xs ++ ad) ++ more).flatMap enRow)[(xs.length + k) * 4 + j]? = some v := by
  rw [← hv]
  have e : ((xs ++ ad) ++ more).getD (xs.length + k) default = ad.getD k default := by
    rw [List.getD_eq_getElem?_getD, List.getD_eq_getElem?_getD, List.getElem?_append_left (show xs.length + k < (xs ++ ad).length by simp; omega), List.getElem?_append_right (show xs.length ≤ xs.length + k by omega), show xs.length + k - xs.length = k by omega]
  rw [← e]
  exact rowsA_getL (f := enRow) (s := 4) (fun _ => rfl) _ (xs.length + k) j _ (by rw [List.getD_eq_getElem?_getD, List.getElem?_eq_getElem (by simp only [List.length_append]; omega)]; rfl) hj
theorem awake_true {W w : World} {L : Blocks} (H : St W [] w L) : Calls Tryz.prog 50 #[] w fun e4 w5 => ∃ b6, e4 = Ending.returned (.bool b6) ∧ True_ W (.returned (.bool b6)) w5 :=
  awake18.go H [] L (by simp) (fun w H => ⟨_, rfl, rfl, H.upd⟩)
theorem machineClock (c : Cf) (p : Option Addr) (cap : Nat) (q : Option Addr) (l : List MS.Ev) (qc : Nat) (W : World) (hr : ROi W [] p c.homes) (hq : RO W [] q (l.flatMap evRow)) :
    Calls Tryz.prog 9 #[c.val p cap, .slice q l.length qc] W (True_ W) := by
  have H : St W [] W [] := St.start (L := []) (by simp) (by simp)
  refine callsWeighlocklaw18MachineClock _ _ _ _ _ _ _ _ _ _ _ _ _ _ _ ?_
  unfold preWeighlocklaw18MachineClock
  refine H.allocK (fun w1 H => ?_)
  refine exInt (H.cell 0 rfl rfl) (exSlice (H.cell 0 rfl rfl) (exInt (H.cell 0 rfl rfl) (exInt (H.cell 0 rfl rfl) (exInt (H.cell 0 rfl rfl) (exInt (H.cell 0 rfl rfl) (exInt (H.cell 0 rfl rfl) (exInt (H.cell 0 rfl rfl) ?_)))))))
  refine (fine18 c p cap q l.length qc 300).go H [_] [] rfl (hr.sub H (by simp)) (fun r A w2 hq2 H => ?_)
  obtain ⟨rfl, rfl⟩ := hq2
  refine ⟨_, rfl, ?_⟩
  cases hf : fineB c l.length 300
  · exact Br_pos rfl (awake_true H)
  refine Br_neg rfl ?_
  obtain ⟨h8, herr, hlen⟩ := fineB_t hf
  refine exInt (H.cell 0 rfl rfl) (exSlice (H.cell 0 rfl rfl) (exInt (H.cell 0 rfl rfl) (exInt (H.cell 0 rfl rfl) (exInt (H.cell 0 rfl rfl) (exInt (H.cell 0 rfl rfl) (exInt (H.cell 0 rfl rfl) (exInt (H.cell 0 rfl rfl) ?_)))))))
  refine (machNew c p cap (by omega)).go H [_] [] rfl (hr.sub H (by simp)) (fun r A w3 hq3 H => ?_)
  rcases hq3 with ⟨he, _⟩ | ⟨he, a, rfl, htp, htm, hok, rfl⟩
  · exact absurd herr he
  refine ⟨_, _, rfl, Br_nne rfl (Br_neg rfl ?_)⟩
  have H0 : St W [] w3 (machL (a.at_ a.tp a.tm) (MS.at_ c l (0 : Int).toNat) ++ []) := H.sub (by
    show (machL a (MS.first c) ++ []).Sublist _
    exact List.sublist_append_right _ _)
  refine ⟨fun _ n i w' => (0 ≤ i ∧ i ≤ l.length) ∧ n = (MS.at_ c l i.toNat).now ∧ ∃ tp tm, (tp = none → (MS.at_ c l i.toNat).tr ++ tm = []) ∧ St W [] w' (machL (a.at_ tp tm) (MS.at_ c l i.toNat) ++ []),
    fun _ _ i _ => (l.length - i).toNat, ⟨⟨by omega, by omega⟩, rfl, a.tp, a.tm, fun _ => by rw [htm]; rfl, H0⟩, ?_⟩
  rintro _g w b n i ⟨⟨h0, h1⟩, rfl, tp, tm, htn, H⟩
  by_cases c1 : i < l.length
  · have hi : i.toNat < l.length := by omega
    generalize he : l.getD i.toNat default = e
    have hrd : ∀ j v, j < 3 → (evRow e)[j]? = some v → ∃ b o, q = some ⟨b, o, none⟩ ∧ w.cell? ⟨b, o + (i.toNat * 3 + j), none⟩ = some v := fun j v hj hv => RO.read hq H (evs_get l i.toNat j hi v hj (by rw [he]; exact hv))
    obtain ⟨b, o, rfl, k0⟩ := hrd 0 _ (by decide) rfl
    obtain ⟨_, _, e1, k1⟩ := hrd 1 _ (by decide) rfl
    cases e1
    obtain ⟨_, _, e2, k2⟩ := hrd 2 _ (by decide) rfl
    cases e2
    have hnext : MS.at_ c l (i + 1).toNat = (MS.at_ c l i.toNat).do_ e := by
      rw [show (i + 1).toNat = i.toNat + 1 by omega]; exact MS.at_succ c l _ e hi he
    have hs1 := MS.at_ok hok l i.toNat
    have hl3 := MS.at_len c l i.toNat
    have hnow := MS.at_now c l i.toNat (by omega) (by omega)
    generalize hs : MS.at_ c l i.toNat = s at htn H hnext hs1 hl3 hnow
    have hok2 : s.ok (a.at_ tp tm) := MS.ok1.ok (a := a.at_ tp tm) hs1 htn
    refine Br_t c1 ⟨⟨h0, c1⟩, PtrSome_at (exInt (by simpa [Nat.add_assoc] using k0) (exInt (by simpa [Nat.add_assoc] using k1) (exInt (by simpa [Nat.add_assoc] using k2) ?_)))⟩
    refine H.allocK (fun w H => ⟨H.thereF 0 rfl rfl, H.setsF 0 rfl rfl (fun w H => ?_)⟩)
    refine (machTrace (a.at_ tp tm) s hok2 (by omega)).go H [_] [] rfl (fun r A w4 hq4 H => ?_)
    obtain ⟨bp, more, rfl, _, rfl⟩ := hq4
    refine ⟨_, _, _, rfl, ?_⟩
    have H := H.sub (L' := [_] ++ (machL (a.at_ tp tm) s ++ [])) ((List.Sublist.refl _).append ((List.sublist_append_right _ _).append (List.Sublist.refl _)))
    refine exInt (H.cell 0 rfl rfl) (exInt (H.cell 0 rfl rfl) (exInt (H.cell 0 rfl rfl) ?_))
    refine (machDo (a.at_ tp tm) s hok2 (by omega) e).go H [_] [] rfl (fun r A w5 hq5 H => ?_)
    obtain ⟨rfl, tp', tm', rfl, htn'⟩ := hq5
    have H : St W [] w5 ([_] ++ (machL (a.at_ tp' tm') (s.do_ e) ++ [])) := H
    have hok3 : (s.do_ e).ok (a.at_ tp' tm') := MS.ok1.ok (a := a.at_ tp' tm') (MS.ok1_do hs1 e) htn'
    obtain ⟨ad, had, hat, htick⟩ := MS.do_tr s e
    have hl4 := MS.do_len s e
    have hlen2 : (s.do_ e).tr.length = s.tr.length + ad.length := by rw [had, List.length_append]
    refine ⟨_, rfl, exInt (H.cell 0 rfl rfl) ?_⟩
    by_cases ck : e.1 = 2
    · refine Br_eq ck ?_
      have hn : (s.do_ e).now = IntKind.i64.wrap (s.now + 1) := by
        rw [MS.do_now, if_pos ck, MS.tick_now _ (by omega) hnow.1]
        exact (wrap_i64 (by omega) (by omega)).symm
      refine (machTrace (a.at_ tp' tm') (s.do_ e) hok3 (by omega)).go H [_] [] rfl (fun r A w6 hq6 H => ?_)
      obtain ⟨bp2, more2, rfl, hbn2, rfl⟩ := hq6
      refine ⟨_, _, _, rfl, ?_⟩
      refine (machNow (a.at_ tp' tm') (s.do_ e)).go H (_ :: slB enRow bp2 ((s.do_ e).tr ++ more2)) [] (by simp; rfl) (fun w7 H => ⟨_, rfl, ?_⟩)
      have had0 := htick ck
      rw [had0] at hlen2
      simp only [List.length_nil, Nat.add_zero] at hlen2
      refine Br_nne hn (Br_f (by omega) ⟨⟨by omega, by omega⟩, ?_⟩)
      have H := H.sub (L' := machL (a.at_ tp' tm') (s.do_ e) ++ []) (List.sublist_append_right _ _)
      refine ⟨fun _ k w' => k = 0 ∧ St W [] w' (machL (a.at_ tp' tm') (s.do_ e) ++ []), fun _ _ _ => 0, ⟨rfl, H⟩, ?_⟩
      rintro _g2 w8 b2 k ⟨rfl, H⟩
      refine Br_f (by rw [Int.toNat_natCast]; omega) ?_
      rw [wrap_succ h0 (by omega)]
      refine ⟨⟨⟨by omega, by omega⟩, by rw [hnext]; exact hn.symm, tp', tm', ?_, ?_⟩, show (l.length - (i + 1)).toNat < (l.length - i).toNat by omega⟩
      · rw [hnext]; exact htn'
      · rw [hnext]; exact H
    · refine Br_neq ck ?_
      have hn : (s.do_ e).now = s.now := by rw [MS.do_now, if_neg ck]
      refine (machTrace (a.at_ tp' tm') (s.do_ e) hok3 (by omega)).go H [_] [] rfl (fun r A w6 hq6 H => ?_)
      obtain ⟨bp2, more2, rfl, hbn2, rfl⟩ := hq6
      refine ⟨_, _, _, rfl, ?_⟩
      refine (machNow (a.at_ tp' tm') (s.do_ e)).go H (_ :: slB enRow bp2 ((s.do_ e).tr ++ more2)) [] (by simp; rfl) (fun w7 H => ⟨_, rfl, ?_⟩)
      refine Br_nne hn (Br_f (by omega) ⟨⟨by omega, by omega⟩, ?_⟩)
      have H := H.sub (L' := slB enRow bp2 ((s.do_ e).tr ++ more2) ++ (machL (a.at_ tp' tm') (s.do_ e) ++ [])) (by simp)
      refine ⟨fun _ k w' => (0 ≤ k ∧ k ≤ ad.length) ∧ St W [] w' (slB enRow bp2 ((s.do_ e).tr ++ more2) ++ (machL (a.at_ tp' tm') (s.do_ e) ++ [])), fun _ k _ => (ad.length - k).toNat, ⟨⟨by omega, by omega⟩, H⟩, ?_⟩
      rintro _g2 w8 b2 k ⟨⟨g0, g1⟩, H⟩
      by_cases ck2 : k < ad.length
      · refine Br_t (by rw [Int.toNat_natCast]; omega) ⟨⟨g0, by rw [Int.toNat_natCast]; omega⟩, ?_⟩
        cases bp2 with
        | none =>
          have := hbn2 rfl
          rw [had, List.append_eq_nil_iff, List.append_eq_nil_iff] at this
          rw [this.1.2] at ck2
          simp at ck2; omega
        | some bb =>
          rw [if_neg (by rw [Int.toNat_natCast, List.length_append]; omega)]
          simp only [slA, Option.map_some, Addr.add_lit, Int.toNat_natCast]
          have hbb : Bk w8 bb (rows enRow ((s.do_ e).tr ++ more2)) := H.bk (bb, _) (by simp [slB])
          have hc : ∀ j v, j < 4 → (enRow (ad.getD k.toNat default))[j]? = some v → w8.cell? ⟨bb, 0 + s.tr.length * 4 + k.toNat * 4 + j, none⟩ = some v := by
            intro j v hj hv
            have h := en_at s.tr k.toNat j ad more2 v (by omega) hj hv
            rw [← had] at h
            have h3 := rows_get (m := []) _ _ h
            rw [List.append_nil] at h3
            have h2 := hbb.cell h3
            rw [show 0 + s.tr.length * 4 + k.toNat * 4 + j = 0 + ((s.tr.length + k.toNat) * 4 + j) by omega]
            exact h2
          refine PtrSome_at (exInt (by simpa [Nat.add_assoc] using hc 0 _ (by decide) rfl) (exInt (hc 1 _ (by decide) rfl) (exInt (hc 2 _ (by decide) rfl) (exBool (hc 3 _ (by decide) rfl) ?_))))
          refine H.allocK (fun w H => ⟨H.thereF 0 rfl rfl, H.setsF 0 rfl rfl (fun w H => exInt (H.cell 0 rfl rfl) ?_)⟩)
          have hx : (ad.getD k.toNat default).2.2.1 = s.now := hat _ (by
            rw [List.getD_eq_getElem?_getD, List.getElem?_eq_getElem (by omega)]
            exact List.getElem_mem _)
          rw [wrap_succ g0 (by omega)]
          exact Br_nne hx ⟨⟨⟨by omega, by omega⟩, H.tail⟩, show (ad.length - (k + 1)).toNat < (ad.length - k).toNat by omega⟩
      · refine Br_f (by rw [Int.toNat_natCast]; omega) ?_
        rw [wrap_succ h0 (by omega)]
        have H := H.sub (L' := machL (a.at_ tp' tm') (s.do_ e) ++ []) (List.sublist_append_right _ _)
        refine ⟨⟨⟨by omega, by omega⟩, by rw [hnext]; exact hn.symm, tp', tm', ?_, ?_⟩, show (l.length - (i + 1)).toNat < (l.length - i).toNat by omega⟩
        · rw [hnext]; exact htn'
        · rw [hnext]; exact H
  · exact Br_f c1 (awake_true H)
end Go.Proofs.YtollfjfcdofbaaaGreat
