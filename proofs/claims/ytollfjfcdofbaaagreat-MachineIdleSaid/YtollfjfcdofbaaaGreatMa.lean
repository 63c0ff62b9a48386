/- The machine: contracts. -/
import Derived.Test.YtollfjfcdofbaaaGreatLr
namespace Go.Proofs.YtollfjfcdofbaaaGreat
open Go Go.Proofs
set_option linter.unusedSimpArgs false
set_option linter.unusedVariables false
set_option maxRecDepth 100000
set_option maxHeartbeats 4000000
-- NB 3

/-- an entry: its kind, its thread, its tick, whether it leads -/
abbrev En := Int × Int × Int × Bool
abbrev enRow (x : Int × Int × Int × Bool) : List Value := [(.int .i64 x.1), (.int .i64 x.2.1), (.int .i64 x.2.2.1), (.bool x.2.2.2)]
theorem enRow_set0 (xs : List (Int × Int × Int × Bool)) (i : Nat) (v : Int) : (rows enRow xs).set (0 + i * 4) (.int .i64 v) = rows enRow (xs.set i (v, (xs.getD i default).2.1, (xs.getD i default).2.2.1, (xs.getD i default).2.2.2)) := rows_set0 (f := enRow) (s := 4) (fun _ => rfl) (by decide) xs i (v, (xs.getD i default).2.1, (xs.getD i default).2.2.1, (xs.getD i default).2.2.2) rfl
theorem enRow_set1 (xs : List (Int × Int × Int × Bool)) (i : Nat) (v : Int) : (rows enRow xs).set (0 + i * 4 + 1) (.int .i64 v) = rows enRow (xs.set i ((xs.getD i default).1, v, (xs.getD i default).2.2.1, (xs.getD i default).2.2.2)) := rows_set1 (f := enRow) (s := 4) (fun _ => rfl) (by decide) xs i ((xs.getD i default).1, v, (xs.getD i default).2.2.1, (xs.getD i default).2.2.2) rfl
theorem enRow_set2 (xs : List (Int × Int × Int × Bool)) (i : Nat) (v : Int) : (rows enRow xs).set (0 + i * 4 + 2) (.int .i64 v) = rows enRow (xs.set i ((xs.getD i default).1, (xs.getD i default).2.1, v, (xs.getD i default).2.2.2)) := rows_set1 (f := enRow) (s := 4) (fun _ => rfl) (by decide) xs i ((xs.getD i default).1, (xs.getD i default).2.1, v, (xs.getD i default).2.2.2) rfl
theorem enRow_set3 (xs : List (Int × Int × Int × Bool)) (i : Nat) (v : Bool) : (rows enRow xs).set (0 + i * 4 + 3) (.bool v) = rows enRow (xs.set i ((xs.getD i default).1, (xs.getD i default).2.1, (xs.getD i default).2.2.1, v)) := rows_set1 (f := enRow) (s := 4) (fun _ => rfl) (by decide) xs i ((xs.getD i default).1, (xs.getD i default).2.1, (xs.getD i default).2.2.1, v) rfl
theorem bkSets_enRow {w0 w : World} {S : List Nat} {L : Blocks} {b : Nat} {K : World → Prop} {xs : List (Int × Int × Int × Bool)} {j : Nat} {v0 : Int} {v1 : Int} {v2 : Int} {v3 : Bool} (H : St w0 S w L) (i : Nat) (h : L[i]? = some (b, rows enRow xs)) (hj : j < xs.length) (k : ∀ w', St w0 S w' (L.set i (b, rows enRow (xs.set j (v0, v1, v2, v3)))) → K w') : SetsG w b (0 + j * 4) [(.int .i64 v0), (.int .i64 v1), (.int .i64 v2), (.bool v3)] K := St.setsR (f := enRow) (s := 4) (fun _ => rfl) H i h (v0, v1, v2, v3) hj rfl (K := fun w' => K w') k _ rfl
structure MA where
  m : Nat
  tp : Option Nat
  tm : List En
  sb : Nat
  la : LkA
structure MS where
  lk : Lk
  p : PS
  tr : List En
  now : Int
  idle : Int
  steps : List Int
def machL (a : MA) (s : MS) : Blocks :=
  (a.m, [ptr a.la.pa.p, a.la.v, .slice (slA a.tp) s.tr.length (s.tr ++ a.tm).length, i64 s.now, i64 s.idle, slv a.sb s.steps.length]) :: (a.sb, ints .i64 s.steps) ::
    (slB enRow a.tp (s.tr ++ a.tm) ++ (Lk.blk a.la s.lk ++ portL a.la.pa s.p))
def MA.at_ (a : MA) (tp : Option Nat) (tm : List En) : MA := { a with tp := tp, tm := tm }
structure MS.ok (a : MA) (s : MS) : Prop where
  lk : Lk.good a.la s.lk
  p : s.p.wf
  steps : s.steps.length = s.lk.ss.l.length
  tn : a.tp = none → s.tr ++ a.tm = []
namespace MS
def enter (s : MS) (kind t : Int) : MS := { s with tr := s.tr ++ [(kind, t, s.now, false)] }
def evs (d : Dd) (t now : Int) : List En :=
  (if d.enq = true then [(2, t, now, false)] else []) ++ (if d.arr = true then [(3, t, now, false)] else []) ++
  (if d.ev = 1 then [(4, t, now, d.lead)] else if d.ev = 2 then [(5, t, now, false)] else if d.ev = 6 then [(8, t, now, false)] else if d.ev = 3 then [(7, t, now, false)] else [])
def did (s : MS) (t : Int) : Dd := s.lk.stepE s.p t t s.now
def busy (s : MS) (t : Int) : Bool := decide (s.lk.ss.state t = 1) || decide (s.lk.ss.state t = 3)
def stepped (s : MS) (t : Int) : MS := { s with steps := s.steps.set t.toNat (IntKind.i64.wrap (s.steps.getD t.toNat 0 + 1)), lk := s.lk.stepS s.p t t s.now, p := s.lk.stepP s.p t t s.now }
def step (s : MS) (t : Int) : MS := if s.busy t = true then { s.stepped t with tr := s.tr ++ evs (s.did t) t s.now } else s
def until_ (s : MS) (wait : Int) : Int := if 0 ≤ wait then IntKind.i64.wrap (s.now + minI wait 1073741824) else -1
def call (s : MS) (t wait : Int) : MS := if s.lk.ss.lockE t (s.until_ wait) = 0 then { s with lk := s.lk.lock t (s.until_ wait) }.enter 1 t else s
def callB (s : MS) (t wait : Int) : Bool := decide (s.lk.ss.lockE t (s.until_ wait) = 0)
def tickB (s : MS) : Bool := decide (s.now < 1099511627776)
def tick (s : MS) : MS := if s.tickB = true then { s with now := IntKind.i64.wrap (s.now + 1) } else s
def fin (s : MS) (t : Int) : MS := if s.lk.ss.holds t = 0 then { s with lk := s.lk.unlock t }.enter 6 t else s
def finB (s : MS) (t : Int) : Bool := decide (s.lk.ss.holds t = 0)
abbrev Ev := Int × Int × Int
def do1 (s : MS) (e : Ev) : MS := if e.1 = 1 then s.step e.2.1 else if e.1 = 2 then s.tick else if e.1 = 3 then s.call e.2.1 e.2.2 else if e.1 = 4 then s.fin e.2.1 else s
def doB (s : MS) (e : Ev) : Bool := if e.1 = 1 then s.busy e.2.1 else if e.1 = 2 then s.tickB else if e.1 = 3 then s.callB e.2.1 e.2.2 else if e.1 = 4 then s.finB e.2.1 else false
def do_ (s : MS) (e : Ev) : MS := if s.doB e = true then s.do1 e else { s.do1 e with idle := IntKind.i64.wrap (s.idle + 1) }
end MS
theorem rawIf_lk {a : LkA} {K : TypeId → Value → Prop} (h : ∀ ty iv, a.v = .iface ty iv → K ty iv) : RawIf a.v K := by
  cases a with
  | inn a => exact rawIf_v h
  | slo a => exact h _ _ rfl
  | abo a q => exact h _ _ rfl
  | hie a m => exact h _ _ rfl
  | coh a => exact h _ _ rfl
section
variable {w0 w : World} {S : List Nat} {L : Blocks} {K : Ending → World → Prop}
theorem machEnter (a : MA) (s : MS) (ht : a.tp = none → s.tr ++ a.tm = []) (hl : s.tr.length ≤ 1000000) (kind t : Int) (H : St w0 S w L) (X B : Blocks) (hL : L = X ++ (machL a s ++ B))
    (k : ∀ tp' tm' w', St w0 S w' (X ++ (machL (a.at_ (some tp') tm') (s.enter kind t) ++ B)) → K (.returned (.tuple #[])) w') : Calls Tryz.prog 165 #[ptr a.m, i64 kind, i64 t] w K := by
  subst hL
  simp only [machL, List.cons_append, List.append_assoc] at H
  have H := H.perm (L' := (a.m, [ptr a.la.pa.p, a.la.v, .slice (slA a.tp) s.tr.length (s.tr ++ a.tm).length, i64 s.now, i64 s.idle, slv a.sb s.steps.length]) :: ((X ++ [(a.sb, ints .i64 s.steps)]) ++ (slB enRow a.tp (s.tr ++ a.tm) ++ (Lk.blk a.la s.lk ++ (portL a.la.pa s.p ++ B))))) (by
    refine List.perm_middle.trans ?_
    simp)
  refine callsMachineMachine_enter _ _ _ _ _ ?_
  unfold preMachineMachine_enter
  refine H.drewK (fun w H => exSlice (H.cell 0 rfl rfl) (exInt (H.cell 0 rfl rfl) (H.allocK (fun w1 H => ⟨H.cell 1 rfl rfl, ?_⟩))))
  refine app1' enRow 4 32 (0, 0, 0, false) 110 110 113 (.agg #[.int .i64 0, .int .i64 0, .int .i64 0, .bool false]) (by kernel_rfl) (by kernel_rfl) (by decide) (fun _ => rfl) rfl (by intro x u hu; simp at hu; rcases hu with rfl | rfl | rfl | rfl <;> rfl) H
    (_ :: _ :: (X ++ [(a.sb, ints .i64 s.steps)])) (Lk.blk a.la s.lk ++ (portL a.la.pa s.p ++ B)) a.tp (s.tr ++ a.tm) s.tr.length (kind, t, s.now, false) (by simp; exact ⟨rfl, rfl⟩) (by simp) ht 0 rfl (by omega) (by decide) ?_
  intro p1 all1 w2 t1 l1 H
  simp only [List.cons_append] at H
  have H := H.tail
  refine ⟨H.can 0 rfl (by simp), H.setK 0 rfl (fun w3 H => ?_)⟩
  simp only [List.set_cons_zero, List.set_cons_succ] at H
  refine k p1 (all1.drop (s.tr.length + 1)) w3 ?_
  have e1 : all1 = (s.tr ++ [(kind, t, s.now, false)]) ++ all1.drop (s.tr.length + 1) := by
    have h0 : (s.tr ++ a.tm).take s.tr.length = s.tr := by simp
    rw [h0] at t1
    rw [← t1, List.take_append_drop]
  have e2 : (s.enter kind t).tr ++ all1.drop (s.tr.length + 1) = all1 := e1.symm
  have e3 : machL (a.at_ (some p1) (all1.drop (s.tr.length + 1))) (s.enter kind t) ++ B = (a.m, [ptr a.la.pa.p, a.la.v, .slice (some ⟨p1, 0, none⟩) (s.tr.length + 1) all1.length, i64 s.now, i64 s.idle, slv a.sb s.steps.length]) :: ((a.sb, ints .i64 s.steps) :: (slB enRow (some p1) all1 ++ (Lk.blk a.la s.lk ++ (portL a.la.pa s.p ++ B)))) := by
    unfold machL
    simp only [MA.at_, e2]
    simp [MS.enter, slA]
  rw [e3]
  exact (H.to (by simp)).perm (List.perm_middle (l₁ := X)).symm
/-- a place of the machine is read -/
theorem machState (a : MA) (s : MS) (hg : Lk.good a.la s.lk) (t : Int) (H : St w0 S w L) (X B : Blocks) (hL : L = X ++ (machL a s ++ B))
    (k : ∀ w', St w0 S w' (X ++ (machL a s ++ B)) → K (.returned (i64 (s.lk.ss.state t))) w') : Invoke Tryz.prog a.la.v "State" #[i64 t] w K := by
  subst hL
  refine (lkState hg t).go H (X ++ (a.m, [ptr a.la.pa.p, a.la.v, .slice (slA a.tp) s.tr.length (s.tr ++ a.tm).length, i64 s.now, i64 s.idle, slv a.sb s.steps.length]) :: (a.sb, ints .i64 s.steps) :: slB enRow a.tp (s.tr ++ a.tm)) (portL a.la.pa s.p ++ B) (by simp [machL]) (fun w' H => k w' (H.to (by simp [machL])))
theorem machLk (a : MA) (s : MS) (lk' : Lk) {name : String} {args : Array Value} {r : Value} (h : SpI a.la.v name args (Lk.blk a.la s.lk) r (Lk.blk a.la lk')) (H : St w0 S w L) (X B : Blocks) (hL : L = X ++ (machL a s ++ B))
    (k : ∀ w', St w0 S w' (X ++ (machL a { s with lk := lk' } ++ B)) → K (.returned r) w') : Invoke Tryz.prog a.la.v name args w K := by
  subst hL
  refine h.go H (X ++ (a.m, [ptr a.la.pa.p, a.la.v, .slice (slA a.tp) s.tr.length (s.tr ++ a.tm).length, i64 s.now, i64 s.idle, slv a.sb s.steps.length]) :: (a.sb, ints .i64 s.steps) :: slB enRow a.tp (s.tr ++ a.tm)) (portL a.la.pa s.p ++ B) (by simp [machL]) (fun w' H => k w' (H.to (by simp [machL])))
theorem machLkP (a : MA) (s : MS) (lk' : Lk) (p' : PS) {name : String} {args : Array Value} {r : Value} (h : SpI a.la.v name args (Lk.blk a.la s.lk ++ portL a.la.pa s.p) r (Lk.blk a.la lk' ++ portL a.la.pa p')) (H : St w0 S w L) (X B : Blocks) (hL : L = X ++ (machL a s ++ B))
    (k : ∀ w', St w0 S w' (X ++ (machL a { s with lk := lk', p := p' } ++ B)) → K (.returned r) w') : Invoke Tryz.prog a.la.v name args w K := by
  subst hL
  refine h.go H (X ++ (a.m, [ptr a.la.pa.p, a.la.v, .slice (slA a.tp) s.tr.length (s.tr ++ a.tm).length, i64 s.now, i64 s.idle, slv a.sb s.steps.length]) :: (a.sb, ints .i64 s.steps) :: slB enRow a.tp (s.tr ++ a.tm)) B (by simp [machL]) (fun w' H => k w' (H.to (by simp [machL])))
/-- what one may read of it -/
theorem mach0 {a : MA} {s : MS} {X B : Blocks} (H : St w0 S w (X ++ (machL a s ++ B))) : Bk w a.m [ptr a.la.pa.p, a.la.v, .slice (slA a.tp) s.tr.length (s.tr ++ a.tm).length, i64 s.now, i64 s.idle, slv a.sb s.steps.length] :=
  H.bk (a.m, _) (by simp [machL])
theorem mach1 {a : MA} {s : MS} {X B : Blocks} (H : St w0 S w (X ++ (machL a s ++ B))) : Bk w a.sb (ints .i64 s.steps) :=
  H.bk (a.sb, _) (by simp [machL])
theorem machTick (a : MA) (s : MS) : Sp Tryz.prog 163 #[ptr a.m] (machL a s) (.bool s.tickB) (machL a s.tick) := by
  intro w0 S w B H
  refine callsMachineMachine_tick _ _ _ ?_
  unfold preMachineMachine_tick
  refine exInt ((mach0 (X := []) H).cell rfl) ?_
  simp only [machL, List.cons_append] at H
  by_cases c : s.now ≥ 1099511627776
  · refine Br_t c ⟨?_, H.to ?_⟩
    · simp [MS.tickB]; exact c
    · have : s.tickB = false := by simp [MS.tickB]; exact c
      simp [MS.tick, this, machL]
  · refine Br_f c (exInt (H.cell 0 rfl rfl) ⟨H.can 0 rfl (by simp), H.setK 0 rfl (fun w H => ⟨?_, H.to ?_⟩)⟩)
    · simp [MS.tickB]; omega
    · have : s.tickB = true := by simp [MS.tickB]; omega
      simp [MS.tick, this, machL]
/-- the results of the machine's calls: its trace may have moved -/
abbrev MQ (a : MA) (s' : MS) (A : Blocks) : Prop := ∃ tp' tm', A = machL (a.at_ tp' tm') s' ∧ (tp' = none → s'.tr ++ tm' = [])
theorem machCall (a : MA) (s : MS) (ho : s.ok a) (hl : s.tr.length ≤ 1000000) (t wait : Int) :
    SpE Tryz.prog 164 #[ptr a.m, i64 t, i64 wait] (machL a s) (fun r A => r = .bool (s.callB t wait) ∧ MQ a (s.call t wait) A) := by
  intro w0 S w B H
  refine callsMachineMachine_call _ _ _ _ _ ?_
  unfold preMachineMachine_call
  have main : ∀ d : Int, d = s.until_ wait → ∀ (K : Ending → World → Prop), (∀ e w', e = .returned (i64 (s.lk.ss.lockE t d)) → St w0 S w' ([] ++ (machL a { s with lk := s.lk.lock t d } ++ B)) → K e w') → Invoke Tryz.prog a.la.v "Lock" #[i64 t, i64 d] w K :=
    fun d _ K k => machLk a s (s.lk.lock t d) (lkLock ho.lk t d) H [] B rfl (fun w' H' => k _ w' rfl H')
  have fin : ∀ d : Int, d = s.until_ wait → ∀ w', St w0 S w' ([] ++ (machL a { s with lk := s.lk.lock t d } ++ B)) →
      Br (s.lk.ss.lockE t d != 0) (∃ r A', Ending.returned (.bool false) = .returned r ∧ (r = .bool (s.callB t wait) ∧ MQ a (s.call t wait) A') ∧ St w0 S w' (A' ++ B))
        (Calls Tryz.prog 165 #[ptr a.m, i64 1, i64 t] w' fun e w'' => e = .returned (.tuple #[]) ∧ ∃ r A', Ending.returned (.bool true) = .returned r ∧ (r = .bool (s.callB t wait) ∧ MQ a (s.call t wait) A') ∧ St w0 S w'' (A' ++ B)) := by
    rintro d rfl w' H
    by_cases c : s.lk.ss.lockE t (s.until_ wait) = 0
    · refine Br_nne c ?_
      refine machEnter a { s with lk := s.lk.lock t (s.until_ wait) } ho.tn hl 1 t H [] B rfl (fun tp' tm' w'' H => ⟨rfl, _, _, rfl, ⟨?_, some tp', tm', ?_, fun e => (by cases e)⟩, H⟩)
      · simp [MS.callB, c]
      · simp only [MS.call, if_pos c]
    · refine Br_ne c ⟨_, _, rfl, ⟨?_, a.tp, a.tm, rfl, ?_⟩, H.to ?_⟩
      · simp [MS.callB, c]
      · simp only [MS.call, if_neg c]; exact ho.tn
      · have e : s.lk.ss.lock t (s.until_ wait) = s.lk.ss := by unfold SS.lock; rw [if_neg c]
        have e2 : s.lk.lock t (s.until_ wait) = s.lk := by
          unfold Lk.lock
          rw [e]
          cases h : s.lk with
          | inn x => cases x <;> rfl
          | _ => rfl
        simp only [MS.call, if_neg c, e2, List.nil_append]
        rfl
  by_cases c : wait ≥ 0
  · refine Br_t c (exInt ((mach0 (X := []) H).cell rfl) (exVal ((mach0 (X := []) H).cell rfl) ?_))
    refine main _ (by unfold MS.until_; rw [if_pos (by omega)]) _ (fun e w' he H => ⟨_, he, fin _ (by unfold MS.until_; rw [if_pos (by omega)]) w' H⟩)
  · refine Br_f c (exVal ((mach0 (X := []) H).cell rfl) ?_)
    refine main _ (by unfold MS.until_; rw [if_neg (by omega)]) _ (fun e w' he H => ⟨_, he, fin _ (by unfold MS.until_; rw [if_neg (by omega)]) w' H⟩)
end
end Go.Proofs.YtollfjfcdofbaaaGreat
