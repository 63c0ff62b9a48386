/- All locks as one type: where they lie, what they hold, what their methods do. -/
import Derived.Test.YtollfjfcdofbaaaGreatLn
namespace Go.Proofs.YtollfjfcdofbaaaGreat
open Go Go.Proofs
set_option linter.unusedSimpArgs false
set_option linter.unusedVariables false
set_option maxRecDepth 100000
set_option maxHeartbeats 4000000
-- NB 4

/-! ## states of seats -/
namespace SS
theorem put_there (s : SS) (t t' : Int) (x : Int × Int) : (s.put t x).there t' = s.there t' := by simp [there, put]
theorem put_at (s : SS) (t t' : Int) (x : Int × Int) : (s.put t x).at_ t' = if t.toNat = t'.toNat ∧ t.toNat < s.l.length then x else s.at_ t' := by
  simp only [put, at_, List.getD_eq_getElem?_getD, List.getElem?_set]
  by_cases h1 : t.toNat = t'.toNat
  · by_cases h2 : t.toNat < s.l.length
    · simp [h1, h2, h1 ▸ h2]
    · have : s.l[t'.toNat]? = none := by rw [← h1]; exact List.getElem?_eq_none (by omega)
      simp [h1, h2, this]
      rw [h1] at h2; simp [h2]
  · simp [h1]
theorem put_state (s : SS) (t t' : Int) (x : Int × Int) (ht : s.there t = true) : (s.put t x).state t' = if t' = t then x.1 else s.state t' := by
  obtain ⟨h1, h2⟩ := seat_there ht
  unfold state
  rw [put_there, put_at]
  by_cases h : t' = t
  · subst h
    rw [if_pos ht, if_pos ⟨rfl, by omega⟩, if_pos rfl]
  · rw [if_neg h]
    by_cases h3 : s.there t' = true
    · obtain ⟨h4, h5⟩ := seat_there h3
      rw [if_pos h3, if_pos h3, if_neg (by omega)]
    · rw [if_neg h3, if_neg h3]
theorem lockE_there {s : SS} {t d : Int} (h : s.lockE t d = 0) : s.there t = true ∧ s.state t = 0 := by
  unfold lockE at h
  split at h
  · rename_i ht
    refine ⟨ht, ?_⟩
    rw [state, if_pos ht]
    split at h
    · simp at h
    · split at h
      · simp at h
      · split at h
        · assumption
        · simp at h
  · simp at h
theorem holds_there {s : SS} {t : Int} (h : s.holds t = 0) : s.there t = true ∧ s.state t = 2 := by
  unfold holds at h
  split at h
  · rename_i ht
    refine ⟨ht, ?_⟩
    rw [state, if_pos ht]
    split at h
    · simp at h
    · split at h
      · assumption
      · simp at h
  · simp at h
theorem lock_state (s : SS) (t d t' : Int) : (s.lock t d).state t' = if s.lockE t d = 0 ∧ t' = t then 1 else s.state t' := by
  unfold lock
  by_cases h : s.lockE t d = 0
  · rw [if_pos h, put_state _ _ _ _ (lockE_there h).1]; simp [h]
  · rw [if_neg h, if_neg (by simp [h])]
theorem unlock_state (s : SS) (t t' : Int) : (s.unlock t).state t' = if s.holds t = 0 ∧ t' = t then 3 else s.state t' := by
  unfold unlock
  by_cases h : s.holds t = 0
  · rw [if_pos h, put_state _ _ _ _ (holds_there h).1]; simp [h]
  · rw [if_neg h, if_neg (by simp [h])]
theorem probe_state (s : SS) (t t' : Int) : (s.probe t).state t' = if s.probeE t = 0 ∧ t' = t then 4 else s.state t' := by
  unfold probe
  by_cases h : s.probeE t = 0
  · have h0 : s.holds t = 0 := by unfold probeE at h; split at h; exact h; simp at h
    rw [if_pos h, put_state _ _ _ _ (holds_there h0).1]; simp [h]
  · rw [if_neg h, if_neg (by simp [h])]
theorem end_state (s : SS) (t ev t' : Int) : (s.end_ t ev).state t' = if s.endB t ev = true ∧ t' = t then next (s.state t) ev else s.state t' := by
  unfold end_
  by_cases h : s.endB t ev = true
  · rw [if_pos h, put_state _ _ _ _ (endB_there h)]; simp [h]
  · rw [if_neg h, if_neg (by simp [h])]
theorem state_not {s : SS} {t : Int} (h : ¬ s.there t = true) : s.state t = 0 := by simp [state, h]
end SS

/-! ## the lock that can be given up: what its places keep -/
structure BS.inv1 (s : BS) (e : Nat) (t : Int) : Prop where
  idle : s.ss.state t = 0 → s.step t = 0 ∧ s.tried t = 0
  busy : s.ss.state t = 1 → (0 ≤ s.step t ∧ s.step t ≤ 7) ∧ (0 ≤ s.tried t ∧ s.tried t ≤ e) ∧ (s.step t = 0 → s.tried t < e)
def BS.inv (s : BS) (e : Nat) : Prop := ∀ t, s.ss.there t = true → s.inv1 e t
namespace BS
theorem put_pl (s : BS) (t t' : Int) (x : AbPl) : (s.put t x).pl t' = if t.toNat = t'.toNat ∧ t.toNat < s.places.length then x else s.pl t' := by
  simp only [put, pl, List.getD_eq_getElem?_getD, List.getElem?_set]
  by_cases h1 : t.toNat = t'.toNat
  · by_cases h2 : t.toNat < s.places.length
    · simp [h1, h2, h1 ▸ h2]
    · have : s.places[t'.toNat]? = none := by rw [← h1]; exact List.getElem?_eq_none (by omega)
      simp [h1, h2, this]
      rw [h1] at h2; simp [h2]
  · simp [h1]
/-- only t's place may turn -/
theorem lockS_other (s : BS) (p : PS) (t u t' : Int) (late : Bool) (row : List Int) (h : t.toNat ≠ t'.toNat) : (s.lockS p t u late row).pl t' = s.pl t' := by
  have hp : ∀ x, (s.put t x).pl t' = s.pl t' := fun x => by rw [put_pl, if_neg (by omega)]
  unfold lockS srS up pS
  repeat' split
  all_goals first | exact hp _ | rfl
theorem unS_other (s : BS) (p : PS) (t u t' : Int) (h : t.toNat ≠ t'.toNat) : (s.unS p t u).pl t' = s.pl t' := by
  have hp : ∀ x, (s.put t x).pl t' = s.pl t' := fun x => by rw [put_pl, if_neg (by omega)]
  unfold unS pS
  repeat' split
  all_goals first | exact hp _ | rfl
theorem stepI_other (s : BS) (p : PS) (t u now t' : Int) (row : List Int) (h : t.toNat ≠ t'.toNat) : (s.stepI p t u now row).pl t' = s.pl t' := by
  unfold stepI
  split
  · exact lockS_other _ _ _ _ _ _ _ h
  · split
    · exact unS_other _ _ _ _ _ h
    · rfl
theorem endS_pl (s : BS) (t ev t' : Int) : (s.endS t ev).pl t' = if s.ss.endB t ev = true ∧ t.toNat = t'.toNat ∧ t.toNat < s.places.length then (0, 0, s.node t, 0) else s.pl t' := by
  by_cases h : s.ss.endB t ev = true
  · have := put_pl s t t' (0, 0, s.node t, 0)
    simp only [put, pl] at this
    simp only [endS, h, if_true, pl, true_and]
    exact this
  · simp [endS, h, pl]
theorem endS_ss (s : BS) (t ev : Int) : (s.endS t ev).ss = s.ss.end_ t ev := rfl
theorem inv_step {s : BS} {e : Nat} (he : 0 < e ∧ e ≤ 8) (hw : s.wf) (h : s.inv e) (p : PS) (t u now : Int) (row : List Int) (hr : s.ss.there t = true → row.length = e) : (s.stepS p t u now row).inv e := by
  intro t' ht'
  have hl := abo_stepI s p t u now row
  have hth : s.ss.there t' = true := by
    simp only [stepS, endS_ss, SS.there, end_len, hl.1] at ht'; exact ht'
  obtain ⟨g1, g2⟩ := seat_there hth
  have hw' : s.places.length = s.ss.l.length := hw
  have hold := h t' hth
  by_cases ht : t' = t
  · subst ht
    have hrow := hr hth
    have hst : (s.stepS p t' u now row).ss.state t' = if s.ss.endB t' (s.stepE p t' u now row).ev = true then SS.next (s.ss.state t') (s.stepE p t' u now row).ev else s.ss.state t' := by
      simp only [stepS, endS_ss, hl.1, SS.end_state, and_true]
    have hpl : (s.stepS p t' u now row).pl t' = if s.ss.endB t' (s.stepE p t' u now row).ev = true then (0, 0, (s.stepI p t' u now row).node t', 0) else (s.stepI p t' u now row).pl t' := by
      simp only [stepS, endS_pl, hl.1, hl.2]
      congr 1
      simp; intro _; omega
    by_cases hb : s.ss.endB t' (s.stepE p t' u now row).ev = true
    · rw [if_pos hb] at hst hpl
      refine ⟨fun _ => by simp [step, tried, hpl], fun _ => ?_⟩
      simp [step, tried, hpl]; omega
    · rw [if_neg hb] at hst hpl
      refine ⟨fun h0 => ?_, fun h1 => ?_⟩
      · rw [hst] at h0
        have hI : s.stepI p t' u now row = s := by simp [stepI, h0]
        simp only [step, tried, hpl, hI]
        exact hold.idle h0
      · rw [hst] at h1
        obtain ⟨⟨b1, b2⟩, ⟨b3, b4⟩, b5⟩ := hold.busy h1
        have hI : s.stepI p t' u now row = s.lockS p t' u (s.late t' now) row := by simp [stepI, h1]
        have hE : s.stepE p t' u now row = s.lockD p t' u (s.late t' now) row := by simp [stepE, h1]
        rw [hE] at hb
        have hp : ∀ x, (s.put t' x).pl t' = x := fun x => by rw [put_pl, if_pos ⟨rfl, by omega⟩]
        have wt : IntKind.i64.wrap (s.tried t' + 1) = s.tried t' + 1 := wrap_i64 (by omega) (by omega)
        have ws : IntKind.i64.wrap (s.step t' + 1) = s.step t' + 1 := wrap_i64 (by omega) (by omega)
        have hup : s.step t' ≠ 0 → s.step t' ≠ 7 → (0 ≤ ((s.up t').pl t').1 ∧ ((s.up t').pl t').1 ≤ 7) ∧ (0 ≤ ((s.up t').pl t').2.1 ∧ ((s.up t').pl t').2.1 ≤ e) ∧ (((s.up t').pl t').1 = 0 → ((s.up t').pl t').2.1 < e) := by
          intro n0 n7
          rw [up, pS, hp, ws]
          refine ⟨⟨?_, ?_⟩, ⟨b3, b4⟩, fun hz => ?_⟩ <;> simp only at * <;> omega
        have hsame : (0 ≤ (s.pl t').1 ∧ (s.pl t').1 ≤ 7) ∧ (0 ≤ (s.pl t').2.1 ∧ (s.pl t').2.1 ≤ e) ∧ ((s.pl t').1 = 0 → (s.pl t').2.1 < e) := ⟨⟨b1, b2⟩, ⟨b3, b4⟩, b5⟩
        simp only [step, tried, hpl, hI]
        unfold lockS
        split
        · rename_i c0
          have hlt := b5 c0
          rw [srS, hp, wt]
          have hno : ¬ (p.loadV u (s.srA t' row) ≠ 0 ∧ s.tried t' + 1 = row.length) := by
            rintro ⟨n1, n2⟩
            apply hb
            have : (s.lockD p t' u (s.late t' now) row).ev = 6 := by rw [lockD, if_pos c0, srD, if_neg n1, wt, if_pos n2]
            rw [this]
            simp [SS.endB, h1, SS.next]
          refine ⟨?_, ⟨by simp only; omega, by simp only; omega⟩, ?_⟩
          · simp only; split <;> omega
          · simp only
            split
            · intro hz; omega
            · rename_i hl0
              intro _
              have : ¬ s.tried t' + 1 = row.length := fun h => hno ⟨hl0, h⟩
              omega
        · rename_i c0
          split
          · exact hup c0 (by omega)
          · split
            · exact hup c0 (by omega)
            · split
              · exact hup c0 (by omega)
              · split
                · rename_i c4
                  rw [hp]
                  refine ⟨?_, ⟨b3, b4⟩, ?_⟩
                  · simp only; split <;> omega
                  · simp only; split <;> (intro; omega)
                · split
                  · exact hup c0 (by omega)
                  · split
                    · split
                      · split
                        · exact hup c0 (by omega)
                        · exact hsame
                      · exact hsame
                    · split
                      · exact hsame
                      · exact hup c0 (by omega)
  · have hne : t.toNat ≠ t'.toNat ∨ ¬ s.ss.there t = true := by
      by_cases h3 : s.ss.there t = true
      · have := seat_there h3; left; omega
      · exact Or.inr h3
    have hplI : (s.stepS p t u now row).pl t' = s.pl t' := by
      rcases hne with hne | hne
      · simp only [stepS, endS_pl, hl.1, hl.2]
        rw [if_neg (by rintro ⟨_, h4, _⟩; exact hne h4)]
        exact stepI_other _ _ _ _ _ _ _ hne
      · have h0 : s.ss.state t = 0 := SS.state_not hne
        have hI : s.stepI p t u now row = s := by simp [stepI, h0]
        have hE : s.ss.endB t (s.stepE p t u now row).ev = false := by
          cases hb : s.ss.endB t (s.stepE p t u now row).ev
          · rfl
          · exact absurd (endB_there hb) hne
        simp only [stepS, hI, endS_pl, hE]; simp
    have hst : (s.stepS p t u now row).ss.state t' = s.ss.state t' := by
      simp only [stepS, endS_ss, hl.1, SS.end_state]
      rw [if_neg (by rintro ⟨_, h4⟩; exact ht h4)]
    exact ⟨fun h0 => by simp only [step, tried, hplI]; exact hold.idle (by rw [← hst]; exact h0), fun h1 => by simp only [step, tried, hplI]; exact hold.busy (by rw [← hst]; exact h1)⟩
theorem inv_lock {s : BS} {e : Nat} (he : 0 < e) (h : s.inv e) (t d : Int) : BS.inv { s with ss := s.ss.lock t d } e := by
  intro t' ht'
  have hth : s.ss.there t' = true := by simpa [SS.there] using ht'
  have hold := h t' hth
  by_cases hc : s.ss.lockE t d = 0 ∧ t' = t
  · obtain ⟨h1, rfl⟩ := hc
    have h2 := hold.idle (SS.lockE_there h1).2
    refine ⟨fun h0 => ?_, fun _ => ?_⟩
    · simp only [SS.lock_state] at h0; rw [if_pos (by exact ⟨h1, trivial⟩)] at h0; cases h0
    · show (0 ≤ s.step t' ∧ s.step t' ≤ 7) ∧ (0 ≤ s.tried t' ∧ s.tried t' ≤ e) ∧ (s.step t' = 0 → s.tried t' < e)
      omega
  · refine ⟨fun h0 => ?_, fun h0 => ?_⟩
    · simp only [SS.lock_state] at h0; rw [if_neg hc] at h0; exact hold.idle h0
    · simp only [SS.lock_state] at h0; rw [if_neg hc] at h0; exact hold.busy h0
theorem inv_unlock {s : BS} {e : Nat} (h : s.inv e) (t : Int) : BS.inv { s with ss := s.ss.unlock t } e := by
  intro t' ht'
  have hth : s.ss.there t' = true := by simpa [SS.there] using ht'
  have hold := h t' hth
  refine ⟨fun h0 => ?_, fun h0 => ?_⟩
  · simp only [SS.unlock_state] at h0; split at h0
    · cases h0
    · exact hold.idle h0
  · simp only [SS.unlock_state] at h0; split at h0
    · cases h0
    · exact hold.busy h0
theorem inv_probe {s : BS} {e : Nat} (h : s.inv e) (t : Int) : BS.inv { s with ss := s.ss.probe t } e := by
  intro t' ht'
  have hth : s.ss.there t' = true := by simpa [SS.there] using ht'
  have hold := h t' hth
  refine ⟨fun h0 => ?_, fun h0 => ?_⟩
  · simp only [SS.probe_state] at h0; split at h0
    · cases h0
    · exact hold.idle h0
  · simp only [SS.probe_state] at h0; split at h0
    · cases h0
    · exact hold.busy h0
end BS
end Go.Proofs.YtollfjfcdofbaaaGreat
