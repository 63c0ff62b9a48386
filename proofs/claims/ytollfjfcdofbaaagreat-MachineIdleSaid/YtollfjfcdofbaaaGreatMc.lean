/- The machine: events, runs; what one may ask it. -/
import Derived.Test.YtollfjfcdofbaaaGreatMb
namespace Go.Proofs.YtollfjfcdofbaaaGreat
open Go Go.Proofs
set_option linter.unusedSimpArgs false
set_option linter.unusedVariables false
set_option maxRecDepth 100000
set_option maxHeartbeats 4000000
-- NB 3

namespace MS
theorem evs_len (d : Dd) (t now : Int) : (evs d t now).length ≤ 3 := by
  unfold evs
  simp only [List.length_append]
  have h1 : ∀ (b : Bool) (x : En), (if b = true then [x] else []).length ≤ 1 := by intro b x; cases b <;> simp
  have h2 := h1 d.enq (2, t, now, false)
  have h3 := h1 d.arr (3, t, now, false)
  have h4 : (if d.ev = 1 then [((4 : Int), t, now, d.lead)] else if d.ev = 2 then [(5, t, now, false)] else if d.ev = 6 then [(8, t, now, false)] else if d.ev = 3 then [(7, t, now, false)] else []).length ≤ 1 := by
    repeat' split
    all_goals simp
  omega
theorem do1_len (s : MS) (e : Ev) : (s.do1 e).tr.length ≤ s.tr.length + 3 := by
  unfold do1
  split
  · unfold step; split
    · have := evs_len (s.did e.2.1) e.2.1 s.now
      simp only [List.length_append, stepped_tr]; omega
    · omega
  · split
    · unfold tick; split <;> simp
    · split
      · unfold call; split <;> simp [enter]
      · split
        · unfold fin; split <;> simp [enter]
        · omega
theorem do_len (s : MS) (e : Ev) : (s.do_ e).tr.length ≤ s.tr.length + 3 := by
  unfold do_; split
  · exact do1_len s e
  · exact do1_len s e
/-- what a machine needs that its trace does not tell of -/
structure ok1 (la : LkA) (s : MS) : Prop where
  lk : Lk.good la s.lk
  p : s.p.wf
  steps : s.steps.length = s.lk.ss.l.length
theorem ok1_do1 {la : LkA} {s : MS} (h : ok1 la s) (e : Ev) : ok1 la (s.do1 e) := by
  unfold do1
  split
  · unfold step; split
    · exact ⟨Lk.good_step h.lk _ _ _ _, Lk.stepP_wf h.p _ _ _, by simp only [stepped, List.length_set]; rw [Lk.stepS_ssl h.lk]; exact h.steps⟩
    · exact h
  · split
    · unfold tick; split
      · exact ⟨h.lk, h.p, h.steps⟩
      · exact h
    · split
      · unfold call; split
        · exact ⟨Lk.good_lock h.lk _ _, h.p, by simp [enter, Lk.lock, h.steps]⟩
        · exact h
      · split
        · unfold fin; split
          · exact ⟨Lk.good_unlock h.lk _, h.p, by simp [enter, Lk.unlock, h.steps]⟩
          · exact h
        · exact h
theorem ok1_do {la : LkA} {s : MS} (h : ok1 la s) (e : Ev) : ok1 la (s.do_ e) := by
  unfold do_; split
  · exact ok1_do1 h e
  · have := ok1_do1 h e; exact ⟨this.lk, this.p, this.steps⟩
theorem ok.ok1 {a : MA} {s : MS} (h : s.ok a) : ok1 a.la s := ⟨h.lk, h.p, h.steps⟩
theorem ok1.ok {a : MA} {s : MS} (h : MS.ok1 a.la s) (tn : a.tp = none → s.tr ++ a.tm = []) : s.ok a := ⟨h.lk, h.p, h.steps, tn⟩
/-- a whole run -/
def run (s : MS) (l : List Ev) : MS := l.foldl do_ s
def runN (s : MS) : List Ev → Int
  | [] => 0
  | e :: l => (if s.doB e = true then 1 else 0) + runN (s.do_ e) l
theorem run_snoc (s : MS) (l : List Ev) (e : Ev) : s.run (l ++ [e]) = (s.run l).do_ e := by simp [run]
theorem run_app (s : MS) (l m : List Ev) : s.run (l ++ m) = (s.run l).run m := by simp [run]
theorem runN_app (s : MS) (l m : List Ev) : s.runN (l ++ m) = s.runN l + (s.run l).runN m := by
  induction l generalizing s with
  | nil => simp [runN, run]
  | cons e l ih => simp only [List.cons_append, runN, ih, run, List.foldl_cons]; omega
theorem runN_bd (s : MS) (l : List Ev) : 0 ≤ s.runN l ∧ s.runN l ≤ l.length := by
  induction l generalizing s with
  | nil => simp [runN]
  | cons e l ih => have := ih (s.do_ e); simp only [runN, List.length_cons]; split <;> omega
theorem run_len (s : MS) (l : List Ev) : (s.run l).tr.length ≤ s.tr.length + 3 * l.length := by
  induction l generalizing s with
  | nil => simp [run]
  | cons e l ih =>
    have h1 := ih (s.do_ e)
    have h2 := do_len s e
    simp only [run, List.foldl_cons, List.length_cons] at h1 ⊢
    omega
theorem ok1_run {la : LkA} {s : MS} (h : ok1 la s) (l : List Ev) : ok1 la (s.run l) := by
  induction l generalizing s with
  | nil => exact h
  | cons e l ih => exact ih (ok1_do h e)
end MS
theorem evOfAgg (x : MS.Ev) : True := trivial
section
theorem machDo1 (a : MA) (s : MS) (ho : s.ok a) (hl : s.tr.length ≤ 900000) (e : MS.Ev) :
    SpE Tryz.prog 118 #[ptr a.m, .agg #[i64 e.1, i64 e.2.1, i64 e.2.2]] (machL a s) (fun r A => r = .bool (s.doB e) ∧ MQ a (s.do1 e) A) := by
  obtain ⟨k, t, wt⟩ := e
  intro w0 S w B H
  refine callsMachineMachine_do _ _ _ _ _ _ ?_
  unfold preMachineMachine_do
  refine H.allocK (fun w H => exInt (H.cell 0 rfl rfl) ?_)
  by_cases c1 : k = 1
  · refine Br_eq c1 (exInt (H.cell 0 rfl rfl) ?_)
    refine (machStep a s ho hl t).go H.tail [] B rfl (fun r A w hq H => ?_)
    obtain ⟨rfl, hq⟩ := hq
    exact ⟨_, rfl, _, _, rfl, ⟨by simp [MS.doB, c1], by simpa [MS.do1, c1] using hq⟩, H⟩
  refine Br_neq c1 ?_
  by_cases c2 : k = 2
  · refine Br_eq c2 ?_
    refine (machTick a s).go H.tail [] B rfl (fun w H => ?_)
    refine ⟨_, rfl, _, _, rfl, ⟨by simp [MS.doB, c2], a.tp, a.tm, ?_, ?_⟩, H⟩
    · simp only [MS.do1, c2]; rfl
    · have : s.tick.tr = s.tr := by unfold MS.tick; split <;> rfl
      simp only [MS.do1, c2]
      intro hh; have := ho.tn hh; simp_all
  refine Br_neq c2 ?_
  by_cases c3 : k = 3
  · refine Br_eq c3 (exInt (H.cell 0 rfl rfl) (exInt (H.cell 0 rfl rfl) ?_))
    refine (machCall a s ho (by omega) t wt).go H.tail [] B rfl (fun r A w hq H => ?_)
    obtain ⟨rfl, hq⟩ := hq
    exact ⟨_, rfl, _, _, rfl, ⟨by simp [MS.doB, c3], by simpa [MS.do1, c3] using hq⟩, H⟩
  refine Br_neq c3 ?_
  by_cases c4 : k = 4
  · refine Br_eq c4 (H.drewK (fun w H => exVal ((mach0 (X := [_]) H).cell rfl) (exInt (H.cell 0 rfl rfl) ?_)))
    refine machLk a s (s.lk.unlock t) (lkUnlock ho.lk t) H [_] B rfl (fun w H => ⟨_, rfl, ?_⟩)
    by_cases c : s.lk.ss.holds t = 0
    · refine Br_nne c (exInt (H.cell 0 rfl rfl) ?_)
      refine machEnter a { s with lk := s.lk.unlock t } ho.tn (by show s.tr.length ≤ 1000000; omega) 6 t H.tail [] B rfl (fun tp' tm' w H => ⟨rfl, _, _, rfl, ⟨?_, some tp', tm', ?_, fun e => (by cases e)⟩, H⟩)
      · simp [MS.doB, MS.finB, c4, c]
      · simp [MS.do1, MS.fin, c4, c]
    · refine Br_ne c ⟨_, _, rfl, ⟨?_, a.tp, a.tm, rfl, ?_⟩, H.tail.to ?_⟩
      · simp [MS.doB, MS.finB, c4, c]
      · simp [MS.do1, MS.fin, c4, c]; intro hh; simpa using ho.tn hh
      · have e : s.lk.ss.unlock t = s.lk.ss := by unfold SS.unlock; rw [if_neg c]
        have e2 : s.lk.unlock t = s.lk := by
          unfold Lk.unlock
          rw [e]
          cases h : s.lk with
          | inn x => cases x <;> rfl
          | _ => rfl
        simp [MS.do1, MS.fin, c4, c, e2]
        rfl
  refine Br_neq c4 ⟨_, machL a s, rfl, ⟨by simp [MS.doB, c1, c2, c3, c4], a.tp, a.tm, by simp [MS.do1, c1, c2, c3, c4]; rfl, ?_⟩, H.tail⟩
  simp [MS.do1, c1, c2, c3, c4]; intro hh; simpa using ho.tn hh
theorem machDo (a : MA) (s : MS) (ho : s.ok a) (hl : s.tr.length ≤ 900000) (e : MS.Ev) :
    SpE Tryz.prog 52 #[ptr a.m, .agg #[i64 e.1, i64 e.2.1, i64 e.2.2]] (machL a s) (fun r A => r = .bool (s.doB e) ∧ MQ a (s.do_ e) A) := by
  obtain ⟨k, t, wt⟩ := e
  intro w0 S w B H
  refine callsMachineMachineDo _ _ _ _ _ _ ?_
  unfold preMachineMachineDo
  refine H.allocK (fun w H => exInt (H.cell 0 rfl rfl) (exInt (H.cell 0 rfl rfl) (exInt (H.cell 0 rfl rfl) ?_)))
  refine (machDo1 a s ho hl (k, t, wt)).go H.tail [] B rfl (fun r A w hq H => ?_)
  obtain ⟨rfl, tp', tm', rfl, htn⟩ := hq
  refine ⟨_, rfl, ?_⟩
  cases hb : s.doB (k, t, wt)
  · refine Br_pos rfl (exInt ((mach0 (X := []) H).cell rfl) ?_)
    simp only [machL, List.cons_append, List.nil_append] at H
    have hi : (s.do1 (k, t, wt)).idle = s.idle := by
      unfold MS.do1 MS.step MS.tick MS.call MS.fin
      repeat' split
      all_goals rfl
    refine ⟨H.can 0 rfl (by simp), H.setK 0 rfl (fun w H => ⟨_, machL (a.at_ tp' tm') (s.do_ (k, t, wt)), rfl, ⟨rfl, tp', tm', rfl, ?_⟩, H.to ?_⟩)⟩
    · simp only [MS.do_, hb]; exact htn
    · simp [machL, MS.do_, hb, hi]; rfl
  · refine Br_neg rfl ⟨_, machL (a.at_ tp' tm') (s.do_ (k, t, wt)), rfl, ⟨rfl, tp', tm', rfl, ?_⟩, H.to ?_⟩
    · simp only [MS.do_, hb, if_true]; exact htn
    · simp only [MS.do_, hb, if_true]; rfl
theorem machLen (a : MA) (s : MS) (ho : s.ok a) : Sp Tryz.prog 53 #[ptr a.m] (machL a s) (i64 s.lk.ss.l.length) (machL a s) := by
  intro w0 S w B H
  refine callsMachineMachineLen _ _ _ ?_
  unfold preMachineMachineLen
  exact exVal ((mach0 (X := []) H).cell rfl) (machLk a s s.lk (lkLen ho.lk) H [] B rfl (fun w H => ⟨_, rfl, rfl, H⟩))
theorem machStateS (a : MA) (s : MS) (ho : s.ok a) (t : Int) : Sp Tryz.prog 54 #[ptr a.m, i64 t] (machL a s) (i64 (s.lk.ss.state t)) (machL a s) := by
  intro w0 S w B H
  refine callsMachineMachineState _ _ _ _ ?_
  unfold preMachineMachineState
  exact exVal ((mach0 (X := []) H).cell rfl) (machLk a s s.lk (lkState ho.lk t) H [] B rfl (fun w H => ⟨_, rfl, rfl, H⟩))
theorem machNow (a : MA) (s : MS) : Sp Tryz.prog 56 #[ptr a.m] (machL a s) (i64 s.now) (machL a s) := by
  intro w0 S w B H
  exact callsMachineMachineNow _ _ _ (exInt ((mach0 (X := []) H).cell rfl) ⟨rfl, H⟩)
theorem machIdle (a : MA) (s : MS) : Sp Tryz.prog 57 #[ptr a.m] (machL a s) (i64 s.idle) (machL a s) := by
  intro w0 S w B H
  exact callsMachineMachineIdle _ _ _ (exInt ((mach0 (X := []) H).cell rfl) ⟨rfl, H⟩)
def MS.stepsOf (s : MS) (t : Int) : Int := if 0 ≤ t ∧ t < s.steps.length then s.steps.getD t.toNat 0 else 0
theorem machSteps (a : MA) (s : MS) (t : Int) : Sp Tryz.prog 65 #[ptr a.m, i64 t] (machL a s) (i64 (s.stepsOf t)) (machL a s) := by
  intro w0 S w B H
  refine callsMachineMachineSteps _ _ _ _ ?_
  unfold preMachineMachineSteps MS.stepsOf
  by_cases c1 : t < 0
  · exact Br_t c1 ⟨by rw [if_neg (by omega)], H⟩
  refine Br_f c1 (exSlice ((mach0 (X := []) H).cell rfl) ?_)
  by_cases c2 : t ≥ s.steps.length
  · exact Br_t c2 ⟨by rw [if_neg (by omega)], H⟩
  refine Br_f c2 (exSlice ((mach0 (X := []) H).cell rfl) ⟨⟨by omega, by omega⟩, PtrSome_at (exInt ((mach1 (X := []) H).cell (ints_at0 (by omega))) ⟨by rw [if_pos (by omega)], H⟩)⟩)
/-! ## traces, cloned -/
theorem enRow_oneCell (x : En) : ∀ u ∈ enRow x, u.oneCell' = true := by intro u hu; simp at hu; rcases hu with rfl | rfl | rfl | rfl <;> rfl
theorem cloneEn (p : Option Addr) (xs : List En) (c : Nat) (hn : p = none → xs = []) (hl : xs.length ≤ 1000000) :
    SpR Tryz.prog 119 #[.slice p xs.length c] (fun w S => RO w S p (xs.flatMap enRow)) [] (fun r A =>
      (p = none ∧ r = .slice none 0 0 ∧ A = []) ∨ (p.isSome = true ∧ ∃ (b : Nat) (more : List En), r = .slice (some ⟨b, 0, none⟩) xs.length (xs ++ more).length ∧ A = [(b, rows enRow (xs ++ more))])) := by
  intro w0 S w B hr H
  refine callsSlicesCloneTraceEntryTraceEntry _ _ _ _ _ ?_
  unfold preSlicesCloneTraceEntryTraceEntry
  have hty : Tryz.prog.underlying 110 = some (.slice 113) := by kernel_rfl
  refine sliceNil hty _ _ _ ?_
  cases p with
  | none => exact ⟨_, [], rfl, Or.inl ⟨rfl, rfl, rfl⟩, H⟩
  | some a =>
    simp only [Option.isNone_some, Br_false]
    refine H.allocK (fun w1 H1 => ?_)
    simp only [List.nil_append] at H1
    have Hb : Bk w1 w.heap.size [] := H1.bkAt 0 rfl
    have hread : ∀ j v, (xs.flatMap enRow)[j]? = some v → w1.cell? (a.add j) = some v := by
      intro j v hv
      obtain ⟨b, o, e, hc⟩ := RO.read hr H1 hv
      cases e
      rw [Addr.add_lit]; exact hc
    have hinf : (Tryz.prog.info? 113).map (fun i => (i.zero, i.size, i.bytes)) = some (some (.agg #[.int .i64 0, .int .i64 0, .int .i64 0, .bool false]), 4, 32) := by kernel_rfl
    have hlen : (xs.flatMap enRow).length = xs.length * 4 := rowsA_len (f := enRow) (s := 4) (fun _ => rfl) xs
    cases hi : Tryz.prog.info? 113 with
    | none => rw [hi] at hinf; cases hinf
    | some i =>
      rw [hi] at hinf
      simp only [Option.map_some, Option.some.injEq, Prod.mk.injEq] at hinf
      obtain ⟨hz, hsz, hby⟩ := hinf
      by_cases h0 : xs = []
      · subst h0
        obtain ⟨T, hT⟩ := Hb
        have hrun := run_append_room_any (P := Tryz.prog) w1 110 110 113 T i hty hi w.heap.size 0 0 _ hT a 0 c [] (by simp) (by simp) (by simp) (by omega) (by simp)
        refine ⟨_, _, _, _, hrun, ?_⟩
        have H2 := St.setRow (X := []) H1 []
        refine ⟨_, [(w.heap.size, rows enRow ([] ++ []))], rfl, Or.inr ⟨rfl, w.heap.size, [], rfl, rfl⟩, ?_⟩
        have e0 : rows enRow ([] ++ ([] : List En)) = [] := by simp [rows]
        rw [e0]
        have e1 : ([] : List Value).toArray.toList.take (0 * i.size) ++ [] ++ ([] : List Value).toArray.toList.drop (0 * i.size + ([] : List Value).length) = [] := by simp
        rw [e1]; exact H2
      · have hpos : 0 < xs.length := by cases xs with | nil => exact absurd rfl h0 | cons x xs => simp
        have hrun := run_append_grow (P := Tryz.prog) w1 110 110 113 i _ hty hi hz ⟨w.heap.size, 0, none⟩ 0 0 [] (by simp) (by simp) a xs.length c (xs.flatMap enRow) (by rw [hsz]; exact hlen) hread (by omega) (by omega)
          (by rw [hby]; exact growslice_fits (by omega) (by omega))
        refine ⟨_, _, _, _, hrun, ?_⟩
        have hge := grownCap_ge w1 (0 + xs.length) 0 113
        have H2 := (H1.tail.drew).alloc (([] : List Value).toArray ++ (xs.flatMap enRow).toArray ++ Builtin.zeroCells (Value.agg #[.int .i64 0, .int .i64 0, .int .i64 0, .bool false]).cells (grownCap w1 (0 + xs.length) 0 113 - (0 + xs.length))) 113
        have e3 : (([] : List Value).toArray ++ (xs.flatMap enRow).toArray ++ Builtin.zeroCells (Value.agg #[.int .i64 0, .int .i64 0, .int .i64 0, .bool false]).cells (grownCap w1 (0 + xs.length) 0 113 - (0 + xs.length))).toList = rows enRow (xs ++ List.replicate (grownCap w1 (0 + xs.length) 0 113 - (0 + xs.length)) (0, 0, 0, false)) := by
          have ez := zeroCells_rows enRow (0, 0, 0, false) (Value.agg #[.int .i64 0, .int .i64 0, .int .i64 0, .bool false]).cells rfl (by decide) (grownCap w1 (0 + xs.length) 0 113 - (0 + xs.length))
          rw [Array.toList_append, Array.toList_append, ez, rows, List.flatMap_append]
          rfl
        rw [e3] at H2
        refine ⟨_, [(w1.heap.size, rows enRow (xs ++ List.replicate (grownCap w1 (0 + xs.length) 0 113 - (0 + xs.length)) (0, 0, 0, false)))], rfl, Or.inr ⟨rfl, w1.heap.size, List.replicate (grownCap w1 (0 + xs.length) 0 113 - (0 + xs.length)) (0, 0, 0, false), ?_, rfl⟩, H2⟩
        congr 1
        · omega
        · simp only [List.length_append, List.length_replicate]; omega
theorem rows_get {xs m : List En} : ∀ j v, (xs.flatMap enRow)[j]? = some v → (rows enRow (xs ++ m))[0 + j]? = some v := by
  intro j v hv
  rw [Nat.zero_add, rows, List.flatMap_append, List.getElem?_append_left (List.getElem?_eq_some_iff.1 hv).1]
  exact hv
theorem machTrace (a : MA) (s : MS) (ho : s.ok a) (hl : s.tr.length ≤ 1000000) :
    SpE Tryz.prog 55 #[ptr a.m] (machL a s) (fun r A => ∃ (bp : Option Nat) (more : List En), r = .slice (slA bp) s.tr.length (s.tr ++ more).length ∧ (bp = none → s.tr ++ more = []) ∧ A = slB enRow bp (s.tr ++ more) ++ machL a s) := by
  intro w0 S w B H
  refine callsMachineMachineTrace _ _ _ ?_
  unfold preMachineMachineTrace
  refine exSlice ((mach0 (X := []) H).cell rfl) ?_
  cases htp : a.tp with
  | none =>
    have h0 : s.tr = [] := (List.append_eq_nil_iff.1 (ho.tn htp)).1
    refine (cloneEn none s.tr (s.tr ++ a.tm).length (fun _ => h0) hl).go H [] _ rfl ⟨fun j v hv => by rw [h0] at hv; simp at hv⟩ (fun r A w hq H => ?_)
    rcases hq with ⟨_, rfl, rfl⟩ | ⟨hno, _⟩
    · exact ⟨_, _, _, rfl, _, machL a s, rfl, ⟨none, [], by simp [h0, slA], fun _ => by simp [h0], by simp [slB]⟩, H⟩
    · cases hno
  | some tb =>
    have hm : (tb, rows enRow (s.tr ++ a.tm)) ∈ machL a s ++ B := by simp [machL, htp, slB]
    refine (cloneEn (some ⟨tb, 0, none⟩) s.tr (s.tr ++ a.tm).length (by simp) hl).go H [] _ rfl (RO.mem H hm (by simp) rows_get) (fun r A w hq H => ?_)
    rcases hq with ⟨hno, _⟩ | ⟨_, b, more, rfl, rfl⟩
    · cases hno
    · exact ⟨_, _, _, rfl, _, _, rfl, ⟨some b, more, rfl, fun e => (by cases e), rfl⟩, H⟩
end
end Go.Proofs.YtollfjfcdofbaaaGreat
