/- The machine: its step, an event. -/
import Derived.Test.YtollfjfcdofbaaaGreatMa
namespace Go.Proofs.YtollfjfcdofbaaaGreat
open Go Go.Proofs
set_option linter.unusedSimpArgs false
set_option linter.unusedVariables false
set_option maxRecDepth 100000
set_option maxHeartbeats 4000000
-- NB 3

theorem en_lead (l : List En) (x : En) (m : List En) (b : Bool) : (rows enRow ((l ++ [x]) ++ m)).set (0 + l.length * 4 + 3) (.bool b) = rows enRow ((l ++ [(x.1, x.2.1, x.2.2.1, b)]) ++ m) := by
  have h := enRow_set3 ((l ++ [x]) ++ m) l.length b
  rw [h]
  congr 1
  have e : ((l ++ [x]) ++ m).getD l.length default = x := by simp
  rw [e]
  simp
theorem en_cell (l : List En) (x : En) (m : List En) : 0 + l.length * 4 + 3 < (rows enRow ((l ++ [x]) ++ m)).length := by
  rw [rows_len (f := enRow) (s := 4) (fun _ => rfl)]
  simp; omega
theorem stepped_tr (s : MS) (t : Int) : (s.stepped t).tr = s.tr := rfl
theorem stepped_now (s : MS) (t : Int) : (s.stepped t).now = s.now := rfl
theorem stepped_idle (s : MS) (t : Int) : (s.stepped t).idle = s.idle := rfl
theorem Br_two {x a b : Int} {A B : Prop} (h1 : x ≠ a → x ≠ b → A) (h2 : (x = a ∨ x = b) → B) : Br (x != a) (Br (x != b) A B) B := by
  by_cases c1 : x = a
  · exact Br_nne c1 (h2 (Or.inl c1))
  · refine Br_ne c1 ?_
    by_cases c2 : x = b
    · exact Br_nne c2 (h2 (Or.inr c2))
    · exact Br_ne c2 (h1 c1 c2)
theorem tO {P : Prop} (h : P := by ((try simp only [MS.enter, List.length_append, List.length_cons, List.length_nil]); omega)) : P := h
theorem fin_ {w0 w : World} {S : List Nat} {B L : Blocks} {a : MA} {s' : MS} {bz b : Bool} (tp2 : Nat) (tm2 : List En) (hb : b = bz) (H : St w0 S w L) (e : L = machL (a.at_ (some tp2) tm2) s' ++ B) :
    ∃ r A', Ending.returned (.bool b) = .returned r ∧ (r = .bool bz ∧ MQ a s' A') ∧ St w0 S w (A' ++ B) :=
  ⟨_, machL (a.at_ (some tp2) tm2) s', rfl, ⟨by rw [hb], some tp2, tm2, rfl, fun e => (by cases e)⟩, H.to e⟩
section
variable {w0 w : World} {S : List Nat} {B : Blocks}
/-- the same machine with another trace -/
abbrev MS.trs (s : MS) (l : List En) : MS := { s with tr := s.tr ++ l }
theorem machStep (a : MA) (s : MS) (ho : s.ok a) (hl : s.tr.length ≤ 900000) (t : Int) :
    SpE Tryz.prog 162 #[ptr a.m, i64 t] (machL a s) (fun r A => r = .bool (s.busy t) ∧ MQ a (s.step t) A) := by
  intro w0 S w B H
  refine callsMachineMachine_step _ _ _ _ ?_
  unfold preMachineMachine_step
  refine exVal ((mach0 (X := []) H).cell rfl) ?_
  refine machState a s ho.lk t H [] B rfl (fun w H => ⟨_, rfl, ?_⟩)
  refine Br_two (fun c1 c3 => ?_) (fun hc => ?_)
  · have hbz : s.busy t = false := by simp [MS.busy, c1, c3]
    refine ⟨_, machL a s, rfl, ⟨by rw [hbz], a.tp, a.tm, by unfold MS.step; rw [hbz]; rfl, ?_⟩, H⟩
    unfold MS.step; rw [hbz]; exact ho.tn
  · have hbz : s.busy t = true := (by rcases hc with h | h <;> simp [MS.busy, h])
    have hstep : s.step t = (s.stepped t).trs (MS.evs (s.did t) t s.now) := by unfold MS.step; rw [if_pos hbz]; rfl
    have ht := hc.elim (fun h => state_there h (by decide)) (fun h => state_there h (by decide))
    obtain ⟨h1, h2⟩ := seat_there ht
    have e2 : t.toNat < s.steps.length := by rw [ho.steps]; omega
    refine exSlice ((mach0 (X := []) H).cell rfl) ⟨⟨h1, by rw [ho.steps]; exact h2⟩, PtrSome_at (exInt ((mach1 (X := []) H).cell (ints_at0 e2)) ⟨⟨h1, by rw [ho.steps]; exact h2⟩, PtrSome_at ⟨(mach1 (X := []) H).can (ints_lt e2), ?_⟩⟩)⟩
    simp only [machL, List.cons_append, List.nil_append] at H
    refine H.setK 1 rfl (fun w H => H.drewK (fun w H => exVal (H.cell 0 rfl rfl) (exInt (H.cell 0 rfl rfl) (rawIf_lk (fun ty iv e => ?_)))))
    rw [← e]
    simp only [List.set_cons_succ, List.set_cons_zero, ints_set0] at H
    have hst : SpI a.la.v "Step" #[i64 t, i64 t, i64 s.now] (Lk.blk a.la s.lk ++ portL a.la.pa s.p) (didV (s.did t)) (Lk.blk a.la (s.stepped t).lk ++ portL a.la.pa (s.stepped t).p) := lkStep ho.lk ho.p t t s.now
    have hl2 : (s.stepped t).tr.length ≤ 900000 := hl
    generalize hdd : s.did t = d at hst
    refine ⟨?_, ?_⟩
    · refine machLkP a { s with steps := s.steps.set t.toNat (IntKind.i64.wrap (s.steps.getD t.toNat 0 + 1)) } (s.stepped t).lk (s.stepped t).p hst H [] B (by simp [machL]) (fun w H => ⟨_, _, _, _, rfl, ?_⟩)
      change St w0 S w ([] ++ (machL (a.at_ a.tp a.tm) (s.stepped t) ++ B)) at H
      refine H.allocK (fun w H => ⟨H.thereF 0 rfl rfl, H.setsF 0 rfl rfl (fun w H => ?_)⟩)
      refine exBool (H.cell 0 rfl rfl) ?_
      cases b1 : d.enq
      · refine Br_neg rfl ?_
        refine exBool (H.cell 0 rfl rfl) ?_
        cases b2 : d.arr
        · refine Br_neg rfl (exInt (H.cell 0 rfl rfl) ?_)
          by_cases v1 : d.ev = 1
          · refine Br_eq v1 ?_
            refine machEnter (a.at_ a.tp a.tm) (s.stepped t) ho.tn tO 4 t H [_] B rfl (fun tp2 tm2 w H => ⟨rfl, ?_⟩)
            refine H.drewK (fun w H => exSlice ((mach0 (X := [_]) H).cell rfl) (exSlice ((mach0 (X := [_]) H).cell rfl) (exBool (H.cell 0 rfl rfl) ?_)))
            have hlen : ((s.stepped t).enter 4 t).tr.length = (s.stepped t).tr.length + 1 := by simp [MS.enter]
            have hl3 : (s.stepped t).tr.length ≤ 900002 := by (try simp only [MS.enter, List.length_append, List.length_cons, List.length_nil]); omega
            have hwr : IntKind.i64.wrap (((((s.stepped t).enter 4 t).tr.length : Nat) : Int) - 1) = (((s.stepped t).tr.length : Nat) : Int) := by
              rw [hlen]
              generalize (s.stepped t).tr.length = n at hl3
              rw [show (((n + 1 : Nat) : Int) - 1) = ((n : Nat) : Int) by omega]
              exact wrap_i64 (by omega) (by omega)
            rw [hwr]
            refine ⟨⟨by omega, by omega⟩, PtrSome_at ?_⟩
            simp only [Int.toNat_natCast]
            have H3 := H.to (L' := _ :: (a.m, [ptr a.la.pa.p, a.la.v, .slice (some ⟨tp2, 0, none⟩) ((s.stepped t).enter 4 t).tr.length (((s.stepped t).enter 4 t).tr ++ tm2).length, i64 s.now, i64 s.idle, slv a.sb (s.stepped t).steps.length]) :: (a.sb, ints .i64 (s.stepped t).steps) :: (tp2, rows enRow (((s.stepped t).tr ++ [(4, t, s.now, false)]) ++ tm2)) ::
              (Lk.blk a.la (s.stepped t).lk ++ (portL a.la.pa (s.stepped t).p ++ B))) (by simp [machL, MA.at_, MS.enter, slB, slA, stepped_tr, stepped_now, stepped_idle]; rfl)
            refine ⟨H3.can 3 rfl (en_cell _ _ _), H3.setK 3 rfl (fun w H => ?_)⟩
            simp only [List.set_cons_succ, List.set_cons_zero, en_lead] at H
            refine fin_ tp2 tm2 hbz.symm H.tail ?_
            rw [hstep]
            simp [machL, MA.at_, MS.evs, hdd, v1, b1, b2, slB, slA, stepped_tr, stepped_now, stepped_idle, MS.enter]
          · refine Br_neq v1 ?_
            by_cases v2 : d.ev = 2
            · refine Br_eq v2 ?_
              refine machEnter (a.at_ a.tp a.tm) (s.stepped t) ho.tn tO 5 t H [_] B rfl (fun tp2 tm2 w H => ⟨rfl, ?_⟩)
              refine fin_ tp2 tm2 hbz.symm H.tail ?_
              rw [hstep]
              simp [machL, MA.at_, MS.evs, hdd, v2, b1, b2, slB, slA, stepped_tr, stepped_now, stepped_idle, MS.enter]
            · refine Br_neq v2 ?_
              by_cases v3 : d.ev = 6
              · refine Br_eq v3 ?_
                refine machEnter (a.at_ a.tp a.tm) (s.stepped t) ho.tn tO 8 t H [_] B rfl (fun tp2 tm2 w H => ⟨rfl, ?_⟩)
                refine fin_ tp2 tm2 hbz.symm H.tail ?_
                rw [hstep]
                simp [machL, MA.at_, MS.evs, hdd, v3, b1, b2, slB, slA, stepped_tr, stepped_now, stepped_idle, MS.enter]
              · refine Br_neq v3 ?_
                by_cases v4 : d.ev = 3
                · refine Br_eq v4 ?_
                  refine machEnter (a.at_ a.tp a.tm) (s.stepped t) ho.tn tO 7 t H [_] B rfl (fun tp2 tm2 w H => ⟨rfl, ?_⟩)
                  refine fin_ tp2 tm2 hbz.symm H.tail ?_
                  rw [hstep]
                  simp [machL, MA.at_, MS.evs, hdd, v4, b1, b2, slB, slA, stepped_tr, stepped_now, stepped_idle, MS.enter]
                · refine Br_neq v4 ?_
                  refine ⟨_, machL (a.at_ a.tp a.tm) (s.step t), rfl, ⟨by rw [hbz], _, _, rfl, ?_⟩, H.tail.to ?_⟩
                  · rw [hstep]
                    intro e
                    first
                      | (cases e; done)
                      | (have h := ho.tn e; simpa [MS.evs, hdd, v1, v2, v3, v4, b1, b2, stepped_tr] using h)
                  · rw [hstep]
                    simp [machL, MA.at_, MS.evs, hdd, v1, v2, v3, v4, b1, b2, slB, slA, stepped_tr, stepped_now, stepped_idle, MS.enter]
        · refine Br_pos rfl ?_
          refine machEnter (a.at_ a.tp a.tm) (s.stepped t) ho.tn tO 3 t H [_] B rfl (fun tp1 tm1 w H => ⟨rfl, exInt (H.cell 0 rfl rfl) ?_⟩)
          by_cases v1 : d.ev = 1
          · refine Br_eq v1 ?_
            refine machEnter (a.at_ (some tp1) tm1) ((s.stepped t).enter 3 t) (fun e => (by cases e)) tO 4 t H [_] B rfl (fun tp2 tm2 w H => ⟨rfl, ?_⟩)
            refine H.drewK (fun w H => exSlice ((mach0 (X := [_]) H).cell rfl) (exSlice ((mach0 (X := [_]) H).cell rfl) (exBool (H.cell 0 rfl rfl) ?_)))
            have hlen : (((s.stepped t).enter 3 t).enter 4 t).tr.length = ((s.stepped t).enter 3 t).tr.length + 1 := by simp [MS.enter]
            have hl3 : ((s.stepped t).enter 3 t).tr.length ≤ 900002 := by (try simp only [MS.enter, List.length_append, List.length_cons, List.length_nil]); omega
            have hwr : IntKind.i64.wrap ((((((s.stepped t).enter 3 t).enter 4 t).tr.length : Nat) : Int) - 1) = ((((s.stepped t).enter 3 t).tr.length : Nat) : Int) := by
              rw [hlen]
              generalize ((s.stepped t).enter 3 t).tr.length = n at hl3
              rw [show (((n + 1 : Nat) : Int) - 1) = ((n : Nat) : Int) by omega]
              exact wrap_i64 (by omega) (by omega)
            rw [hwr]
            refine ⟨⟨by omega, by omega⟩, PtrSome_at ?_⟩
            simp only [Int.toNat_natCast]
            have H3 := H.to (L' := _ :: (a.m, [ptr a.la.pa.p, a.la.v, .slice (some ⟨tp2, 0, none⟩) (((s.stepped t).enter 3 t).enter 4 t).tr.length ((((s.stepped t).enter 3 t).enter 4 t).tr ++ tm2).length, i64 s.now, i64 s.idle, slv a.sb ((s.stepped t).enter 3 t).steps.length]) :: (a.sb, ints .i64 ((s.stepped t).enter 3 t).steps) :: (tp2, rows enRow ((((s.stepped t).enter 3 t).tr ++ [(4, t, s.now, false)]) ++ tm2)) ::
              (Lk.blk a.la ((s.stepped t).enter 3 t).lk ++ (portL a.la.pa ((s.stepped t).enter 3 t).p ++ B))) (by simp [machL, MA.at_, MS.enter, slB, slA, stepped_tr, stepped_now, stepped_idle]; rfl)
            refine ⟨H3.can 3 rfl (en_cell _ _ _), H3.setK 3 rfl (fun w H => ?_)⟩
            simp only [List.set_cons_succ, List.set_cons_zero, en_lead] at H
            refine fin_ tp2 tm2 hbz.symm H.tail ?_
            rw [hstep]
            simp [machL, MA.at_, MS.evs, hdd, v1, b1, b2, slB, slA, stepped_tr, stepped_now, stepped_idle, MS.enter]
          · refine Br_neq v1 ?_
            by_cases v2 : d.ev = 2
            · refine Br_eq v2 ?_
              refine machEnter (a.at_ (some tp1) tm1) ((s.stepped t).enter 3 t) (fun e => (by cases e)) tO 5 t H [_] B rfl (fun tp2 tm2 w H => ⟨rfl, ?_⟩)
              refine fin_ tp2 tm2 hbz.symm H.tail ?_
              rw [hstep]
              simp [machL, MA.at_, MS.evs, hdd, v2, b1, b2, slB, slA, stepped_tr, stepped_now, stepped_idle, MS.enter]
            · refine Br_neq v2 ?_
              by_cases v3 : d.ev = 6
              · refine Br_eq v3 ?_
                refine machEnter (a.at_ (some tp1) tm1) ((s.stepped t).enter 3 t) (fun e => (by cases e)) tO 8 t H [_] B rfl (fun tp2 tm2 w H => ⟨rfl, ?_⟩)
                refine fin_ tp2 tm2 hbz.symm H.tail ?_
                rw [hstep]
                simp [machL, MA.at_, MS.evs, hdd, v3, b1, b2, slB, slA, stepped_tr, stepped_now, stepped_idle, MS.enter]
              · refine Br_neq v3 ?_
                by_cases v4 : d.ev = 3
                · refine Br_eq v4 ?_
                  refine machEnter (a.at_ (some tp1) tm1) ((s.stepped t).enter 3 t) (fun e => (by cases e)) tO 7 t H [_] B rfl (fun tp2 tm2 w H => ⟨rfl, ?_⟩)
                  refine fin_ tp2 tm2 hbz.symm H.tail ?_
                  rw [hstep]
                  simp [machL, MA.at_, MS.evs, hdd, v4, b1, b2, slB, slA, stepped_tr, stepped_now, stepped_idle, MS.enter]
                · refine Br_neq v4 ?_
                  refine ⟨_, machL (a.at_ (some tp1) tm1) (s.step t), rfl, ⟨by rw [hbz], _, _, rfl, ?_⟩, H.tail.to ?_⟩
                  · rw [hstep]
                    intro e
                    first
                      | (cases e; done)
                      | (have h := ho.tn e; simpa [MS.evs, hdd, v1, v2, v3, v4, b1, b2, stepped_tr] using h)
                  · rw [hstep]
                    simp [machL, MA.at_, MS.evs, hdd, v1, v2, v3, v4, b1, b2, slB, slA, stepped_tr, stepped_now, stepped_idle, MS.enter]
      · refine Br_pos rfl ?_
        refine machEnter (a.at_ a.tp a.tm) (s.stepped t) ho.tn (by omega) 2 t H [_] B rfl (fun tp0 tm0 w H => ⟨rfl, ?_⟩)
        refine exBool (H.cell 0 rfl rfl) ?_
        cases b2 : d.arr
        · refine Br_neg rfl (exInt (H.cell 0 rfl rfl) ?_)
          by_cases v1 : d.ev = 1
          · refine Br_eq v1 ?_
            refine machEnter (a.at_ (some tp0) tm0) ((s.stepped t).enter 2 t) (fun e => (by cases e)) tO 4 t H [_] B rfl (fun tp2 tm2 w H => ⟨rfl, ?_⟩)
            refine H.drewK (fun w H => exSlice ((mach0 (X := [_]) H).cell rfl) (exSlice ((mach0 (X := [_]) H).cell rfl) (exBool (H.cell 0 rfl rfl) ?_)))
            have hlen : (((s.stepped t).enter 2 t).enter 4 t).tr.length = ((s.stepped t).enter 2 t).tr.length + 1 := by simp [MS.enter]
            have hl3 : ((s.stepped t).enter 2 t).tr.length ≤ 900002 := by (try simp only [MS.enter, List.length_append, List.length_cons, List.length_nil]); omega
            have hwr : IntKind.i64.wrap ((((((s.stepped t).enter 2 t).enter 4 t).tr.length : Nat) : Int) - 1) = ((((s.stepped t).enter 2 t).tr.length : Nat) : Int) := by
              rw [hlen]
              generalize ((s.stepped t).enter 2 t).tr.length = n at hl3
              rw [show (((n + 1 : Nat) : Int) - 1) = ((n : Nat) : Int) by omega]
              exact wrap_i64 (by omega) (by omega)
            rw [hwr]
            refine ⟨⟨by omega, by omega⟩, PtrSome_at ?_⟩
            simp only [Int.toNat_natCast]
            have H3 := H.to (L' := _ :: (a.m, [ptr a.la.pa.p, a.la.v, .slice (some ⟨tp2, 0, none⟩) (((s.stepped t).enter 2 t).enter 4 t).tr.length ((((s.stepped t).enter 2 t).enter 4 t).tr ++ tm2).length, i64 s.now, i64 s.idle, slv a.sb ((s.stepped t).enter 2 t).steps.length]) :: (a.sb, ints .i64 ((s.stepped t).enter 2 t).steps) :: (tp2, rows enRow ((((s.stepped t).enter 2 t).tr ++ [(4, t, s.now, false)]) ++ tm2)) ::
              (Lk.blk a.la ((s.stepped t).enter 2 t).lk ++ (portL a.la.pa ((s.stepped t).enter 2 t).p ++ B))) (by simp [machL, MA.at_, MS.enter, slB, slA, stepped_tr, stepped_now, stepped_idle]; rfl)
            refine ⟨H3.can 3 rfl (en_cell _ _ _), H3.setK 3 rfl (fun w H => ?_)⟩
            simp only [List.set_cons_succ, List.set_cons_zero, en_lead] at H
            refine fin_ tp2 tm2 hbz.symm H.tail ?_
            rw [hstep]
            simp [machL, MA.at_, MS.evs, hdd, v1, b1, b2, slB, slA, stepped_tr, stepped_now, stepped_idle, MS.enter]
          · refine Br_neq v1 ?_
            by_cases v2 : d.ev = 2
            · refine Br_eq v2 ?_
              refine machEnter (a.at_ (some tp0) tm0) ((s.stepped t).enter 2 t) (fun e => (by cases e)) tO 5 t H [_] B rfl (fun tp2 tm2 w H => ⟨rfl, ?_⟩)
              refine fin_ tp2 tm2 hbz.symm H.tail ?_
              rw [hstep]
              simp [machL, MA.at_, MS.evs, hdd, v2, b1, b2, slB, slA, stepped_tr, stepped_now, stepped_idle, MS.enter]
            · refine Br_neq v2 ?_
              by_cases v3 : d.ev = 6
              · refine Br_eq v3 ?_
                refine machEnter (a.at_ (some tp0) tm0) ((s.stepped t).enter 2 t) (fun e => (by cases e)) tO 8 t H [_] B rfl (fun tp2 tm2 w H => ⟨rfl, ?_⟩)
                refine fin_ tp2 tm2 hbz.symm H.tail ?_
                rw [hstep]
                simp [machL, MA.at_, MS.evs, hdd, v3, b1, b2, slB, slA, stepped_tr, stepped_now, stepped_idle, MS.enter]
              · refine Br_neq v3 ?_
                by_cases v4 : d.ev = 3
                · refine Br_eq v4 ?_
                  refine machEnter (a.at_ (some tp0) tm0) ((s.stepped t).enter 2 t) (fun e => (by cases e)) tO 7 t H [_] B rfl (fun tp2 tm2 w H => ⟨rfl, ?_⟩)
                  refine fin_ tp2 tm2 hbz.symm H.tail ?_
                  rw [hstep]
                  simp [machL, MA.at_, MS.evs, hdd, v4, b1, b2, slB, slA, stepped_tr, stepped_now, stepped_idle, MS.enter]
                · refine Br_neq v4 ?_
                  refine ⟨_, machL (a.at_ (some tp0) tm0) (s.step t), rfl, ⟨by rw [hbz], _, _, rfl, ?_⟩, H.tail.to ?_⟩
                  · rw [hstep]
                    intro e
                    first
                      | (cases e; done)
                      | (have h := ho.tn e; simpa [MS.evs, hdd, v1, v2, v3, v4, b1, b2, stepped_tr] using h)
                  · rw [hstep]
                    simp [machL, MA.at_, MS.evs, hdd, v1, v2, v3, v4, b1, b2, slB, slA, stepped_tr, stepped_now, stepped_idle, MS.enter]
        · refine Br_pos rfl ?_
          refine machEnter (a.at_ (some tp0) tm0) ((s.stepped t).enter 2 t) (fun e => (by cases e)) tO 3 t H [_] B rfl (fun tp1 tm1 w H => ⟨rfl, exInt (H.cell 0 rfl rfl) ?_⟩)
          by_cases v1 : d.ev = 1
          · refine Br_eq v1 ?_
            refine machEnter (a.at_ (some tp1) tm1) (((s.stepped t).enter 2 t).enter 3 t) (fun e => (by cases e)) tO 4 t H [_] B rfl (fun tp2 tm2 w H => ⟨rfl, ?_⟩)
            refine H.drewK (fun w H => exSlice ((mach0 (X := [_]) H).cell rfl) (exSlice ((mach0 (X := [_]) H).cell rfl) (exBool (H.cell 0 rfl rfl) ?_)))
            have hlen : ((((s.stepped t).enter 2 t).enter 3 t).enter 4 t).tr.length = (((s.stepped t).enter 2 t).enter 3 t).tr.length + 1 := by simp [MS.enter]
            have hl3 : (((s.stepped t).enter 2 t).enter 3 t).tr.length ≤ 900002 := by (try simp only [MS.enter, List.length_append, List.length_cons, List.length_nil]); omega
            have hwr : IntKind.i64.wrap (((((((s.stepped t).enter 2 t).enter 3 t).enter 4 t).tr.length : Nat) : Int) - 1) = (((((s.stepped t).enter 2 t).enter 3 t).tr.length : Nat) : Int) := by
              rw [hlen]
              generalize (((s.stepped t).enter 2 t).enter 3 t).tr.length = n at hl3
              rw [show (((n + 1 : Nat) : Int) - 1) = ((n : Nat) : Int) by omega]
              exact wrap_i64 (by omega) (by omega)
            rw [hwr]
            refine ⟨⟨by omega, by omega⟩, PtrSome_at ?_⟩
            simp only [Int.toNat_natCast]
            have H3 := H.to (L' := _ :: (a.m, [ptr a.la.pa.p, a.la.v, .slice (some ⟨tp2, 0, none⟩) ((((s.stepped t).enter 2 t).enter 3 t).enter 4 t).tr.length (((((s.stepped t).enter 2 t).enter 3 t).enter 4 t).tr ++ tm2).length, i64 s.now, i64 s.idle, slv a.sb (((s.stepped t).enter 2 t).enter 3 t).steps.length]) :: (a.sb, ints .i64 (((s.stepped t).enter 2 t).enter 3 t).steps) :: (tp2, rows enRow (((((s.stepped t).enter 2 t).enter 3 t).tr ++ [(4, t, s.now, false)]) ++ tm2)) ::
              (Lk.blk a.la (((s.stepped t).enter 2 t).enter 3 t).lk ++ (portL a.la.pa (((s.stepped t).enter 2 t).enter 3 t).p ++ B))) (by simp [machL, MA.at_, MS.enter, slB, slA, stepped_tr, stepped_now, stepped_idle]; rfl)
            refine ⟨H3.can 3 rfl (en_cell _ _ _), H3.setK 3 rfl (fun w H => ?_)⟩
            simp only [List.set_cons_succ, List.set_cons_zero, en_lead] at H
            refine fin_ tp2 tm2 hbz.symm H.tail ?_
            rw [hstep]
            simp [machL, MA.at_, MS.evs, hdd, v1, b1, b2, slB, slA, stepped_tr, stepped_now, stepped_idle, MS.enter]
          · refine Br_neq v1 ?_
            by_cases v2 : d.ev = 2
            · refine Br_eq v2 ?_
              refine machEnter (a.at_ (some tp1) tm1) (((s.stepped t).enter 2 t).enter 3 t) (fun e => (by cases e)) tO 5 t H [_] B rfl (fun tp2 tm2 w H => ⟨rfl, ?_⟩)
              refine fin_ tp2 tm2 hbz.symm H.tail ?_
              rw [hstep]
              simp [machL, MA.at_, MS.evs, hdd, v2, b1, b2, slB, slA, stepped_tr, stepped_now, stepped_idle, MS.enter]
            · refine Br_neq v2 ?_
              by_cases v3 : d.ev = 6
              · refine Br_eq v3 ?_
                refine machEnter (a.at_ (some tp1) tm1) (((s.stepped t).enter 2 t).enter 3 t) (fun e => (by cases e)) tO 8 t H [_] B rfl (fun tp2 tm2 w H => ⟨rfl, ?_⟩)
                refine fin_ tp2 tm2 hbz.symm H.tail ?_
                rw [hstep]
                simp [machL, MA.at_, MS.evs, hdd, v3, b1, b2, slB, slA, stepped_tr, stepped_now, stepped_idle, MS.enter]
              · refine Br_neq v3 ?_
                by_cases v4 : d.ev = 3
                · refine Br_eq v4 ?_
                  refine machEnter (a.at_ (some tp1) tm1) (((s.stepped t).enter 2 t).enter 3 t) (fun e => (by cases e)) tO 7 t H [_] B rfl (fun tp2 tm2 w H => ⟨rfl, ?_⟩)
                  refine fin_ tp2 tm2 hbz.symm H.tail ?_
                  rw [hstep]
                  simp [machL, MA.at_, MS.evs, hdd, v4, b1, b2, slB, slA, stepped_tr, stepped_now, stepped_idle, MS.enter]
                · refine Br_neq v4 ?_
                  refine ⟨_, machL (a.at_ (some tp1) tm1) (s.step t), rfl, ⟨by rw [hbz], _, _, rfl, ?_⟩, H.tail.to ?_⟩
                  · rw [hstep]
                    intro e
                    first
                      | (cases e; done)
                      | (have h := ho.tn e; simpa [MS.evs, hdd, v1, v2, v3, v4, b1, b2, stepped_tr] using h)
                  · rw [hstep]
                    simp [machL, MA.at_, MS.evs, hdd, v1, v2, v3, v4, b1, b2, slB, slA, stepped_tr, stepped_now, stepped_idle, MS.enter]
    · refine H.allocK (fun w H => ⟨H.cell 1 rfl rfl, H.cell 1 rfl rfl, ?_⟩)
      refine machLkP a { s with steps := s.steps.set t.toNat (IntKind.i64.wrap (s.steps.getD t.toNat 0 + 1)) } (s.stepped t).lk (s.stepped t).p hst H [_] B (by simp [machL]; rfl) (fun w H => ⟨_, _, _, _, rfl, ?_⟩)
      change St w0 S w ([_] ++ (machL (a.at_ a.tp a.tm) (s.stepped t) ++ B)) at H
      refine ⟨H.thereF 0 rfl rfl, H.setsF 0 rfl rfl (fun w H => ?_)⟩
      refine exBool (H.cell 0 rfl rfl) ?_
      cases b1 : d.enq
      · refine Br_neg rfl ?_
        refine exBool (H.cell 0 rfl rfl) ?_
        cases b2 : d.arr
        · refine Br_neg rfl (exInt (H.cell 0 rfl rfl) ?_)
          by_cases v1 : d.ev = 1
          · refine Br_eq v1 ?_
            refine machEnter (a.at_ a.tp a.tm) (s.stepped t) ho.tn tO 4 t H [_] B rfl (fun tp2 tm2 w H => ⟨rfl, ?_⟩)
            refine H.drewK (fun w H => exSlice ((mach0 (X := [_]) H).cell rfl) (exSlice ((mach0 (X := [_]) H).cell rfl) (exBool (H.cell 0 rfl rfl) ?_)))
            have hlen : ((s.stepped t).enter 4 t).tr.length = (s.stepped t).tr.length + 1 := by simp [MS.enter]
            have hl3 : (s.stepped t).tr.length ≤ 900002 := by (try simp only [MS.enter, List.length_append, List.length_cons, List.length_nil]); omega
            have hwr : IntKind.i64.wrap (((((s.stepped t).enter 4 t).tr.length : Nat) : Int) - 1) = (((s.stepped t).tr.length : Nat) : Int) := by
              rw [hlen]
              generalize (s.stepped t).tr.length = n at hl3
              rw [show (((n + 1 : Nat) : Int) - 1) = ((n : Nat) : Int) by omega]
              exact wrap_i64 (by omega) (by omega)
            rw [hwr]
            refine ⟨⟨by omega, by omega⟩, PtrSome_at ?_⟩
            simp only [Int.toNat_natCast]
            have H3 := H.to (L' := _ :: (a.m, [ptr a.la.pa.p, a.la.v, .slice (some ⟨tp2, 0, none⟩) ((s.stepped t).enter 4 t).tr.length (((s.stepped t).enter 4 t).tr ++ tm2).length, i64 s.now, i64 s.idle, slv a.sb (s.stepped t).steps.length]) :: (a.sb, ints .i64 (s.stepped t).steps) :: (tp2, rows enRow (((s.stepped t).tr ++ [(4, t, s.now, false)]) ++ tm2)) ::
              (Lk.blk a.la (s.stepped t).lk ++ (portL a.la.pa (s.stepped t).p ++ B))) (by simp [machL, MA.at_, MS.enter, slB, slA, stepped_tr, stepped_now, stepped_idle]; rfl)
            refine ⟨H3.can 3 rfl (en_cell _ _ _), H3.setK 3 rfl (fun w H => ?_)⟩
            simp only [List.set_cons_succ, List.set_cons_zero, en_lead] at H
            refine fin_ tp2 tm2 hbz.symm H.tail ?_
            rw [hstep]
            simp [machL, MA.at_, MS.evs, hdd, v1, b1, b2, slB, slA, stepped_tr, stepped_now, stepped_idle, MS.enter]
          · refine Br_neq v1 ?_
            by_cases v2 : d.ev = 2
            · refine Br_eq v2 ?_
              refine machEnter (a.at_ a.tp a.tm) (s.stepped t) ho.tn tO 5 t H [_] B rfl (fun tp2 tm2 w H => ⟨rfl, ?_⟩)
              refine fin_ tp2 tm2 hbz.symm H.tail ?_
              rw [hstep]
              simp [machL, MA.at_, MS.evs, hdd, v2, b1, b2, slB, slA, stepped_tr, stepped_now, stepped_idle, MS.enter]
            · refine Br_neq v2 ?_
              by_cases v3 : d.ev = 6
              · refine Br_eq v3 ?_
                refine machEnter (a.at_ a.tp a.tm) (s.stepped t) ho.tn tO 8 t H [_] B rfl (fun tp2 tm2 w H => ⟨rfl, ?_⟩)
                refine fin_ tp2 tm2 hbz.symm H.tail ?_
                rw [hstep]
                simp [machL, MA.at_, MS.evs, hdd, v3, b1, b2, slB, slA, stepped_tr, stepped_now, stepped_idle, MS.enter]
              · refine Br_neq v3 ?_
                by_cases v4 : d.ev = 3
                · refine Br_eq v4 ?_
                  refine machEnter (a.at_ a.tp a.tm) (s.stepped t) ho.tn tO 7 t H [_] B rfl (fun tp2 tm2 w H => ⟨rfl, ?_⟩)
                  refine fin_ tp2 tm2 hbz.symm H.tail ?_
                  rw [hstep]
                  simp [machL, MA.at_, MS.evs, hdd, v4, b1, b2, slB, slA, stepped_tr, stepped_now, stepped_idle, MS.enter]
                · refine Br_neq v4 ?_
                  refine ⟨_, machL (a.at_ a.tp a.tm) (s.step t), rfl, ⟨by rw [hbz], _, _, rfl, ?_⟩, H.tail.to ?_⟩
                  · rw [hstep]
                    intro e
                    first
                      | (cases e; done)
                      | (have h := ho.tn e; simpa [MS.evs, hdd, v1, v2, v3, v4, b1, b2, stepped_tr] using h)
                  · rw [hstep]
                    simp [machL, MA.at_, MS.evs, hdd, v1, v2, v3, v4, b1, b2, slB, slA, stepped_tr, stepped_now, stepped_idle, MS.enter]
        · refine Br_pos rfl ?_
          refine machEnter (a.at_ a.tp a.tm) (s.stepped t) ho.tn tO 3 t H [_] B rfl (fun tp1 tm1 w H => ⟨rfl, exInt (H.cell 0 rfl rfl) ?_⟩)
          by_cases v1 : d.ev = 1
          · refine Br_eq v1 ?_
            refine machEnter (a.at_ (some tp1) tm1) ((s.stepped t).enter 3 t) (fun e => (by cases e)) tO 4 t H [_] B rfl (fun tp2 tm2 w H => ⟨rfl, ?_⟩)
            refine H.drewK (fun w H => exSlice ((mach0 (X := [_]) H).cell rfl) (exSlice ((mach0 (X := [_]) H).cell rfl) (exBool (H.cell 0 rfl rfl) ?_)))
            have hlen : (((s.stepped t).enter 3 t).enter 4 t).tr.length = ((s.stepped t).enter 3 t).tr.length + 1 := by simp [MS.enter]
            have hl3 : ((s.stepped t).enter 3 t).tr.length ≤ 900002 := by (try simp only [MS.enter, List.length_append, List.length_cons, List.length_nil]); omega
            have hwr : IntKind.i64.wrap ((((((s.stepped t).enter 3 t).enter 4 t).tr.length : Nat) : Int) - 1) = ((((s.stepped t).enter 3 t).tr.length : Nat) : Int) := by
              rw [hlen]
              generalize ((s.stepped t).enter 3 t).tr.length = n at hl3
              rw [show (((n + 1 : Nat) : Int) - 1) = ((n : Nat) : Int) by omega]
              exact wrap_i64 (by omega) (by omega)
            rw [hwr]
            refine ⟨⟨by omega, by omega⟩, PtrSome_at ?_⟩
            simp only [Int.toNat_natCast]
            have H3 := H.to (L' := _ :: (a.m, [ptr a.la.pa.p, a.la.v, .slice (some ⟨tp2, 0, none⟩) (((s.stepped t).enter 3 t).enter 4 t).tr.length ((((s.stepped t).enter 3 t).enter 4 t).tr ++ tm2).length, i64 s.now, i64 s.idle, slv a.sb ((s.stepped t).enter 3 t).steps.length]) :: (a.sb, ints .i64 ((s.stepped t).enter 3 t).steps) :: (tp2, rows enRow ((((s.stepped t).enter 3 t).tr ++ [(4, t, s.now, false)]) ++ tm2)) ::
              (Lk.blk a.la ((s.stepped t).enter 3 t).lk ++ (portL a.la.pa ((s.stepped t).enter 3 t).p ++ B))) (by simp [machL, MA.at_, MS.enter, slB, slA, stepped_tr, stepped_now, stepped_idle]; rfl)
            refine ⟨H3.can 3 rfl (en_cell _ _ _), H3.setK 3 rfl (fun w H => ?_)⟩
            simp only [List.set_cons_succ, List.set_cons_zero, en_lead] at H
            refine fin_ tp2 tm2 hbz.symm H.tail ?_
            rw [hstep]
            simp [machL, MA.at_, MS.evs, hdd, v1, b1, b2, slB, slA, stepped_tr, stepped_now, stepped_idle, MS.enter]
          · refine Br_neq v1 ?_
            by_cases v2 : d.ev = 2
            · refine Br_eq v2 ?_
              refine machEnter (a.at_ (some tp1) tm1) ((s.stepped t).enter 3 t) (fun e => (by cases e)) tO 5 t H [_] B rfl (fun tp2 tm2 w H => ⟨rfl, ?_⟩)
              refine fin_ tp2 tm2 hbz.symm H.tail ?_
              rw [hstep]
              simp [machL, MA.at_, MS.evs, hdd, v2, b1, b2, slB, slA, stepped_tr, stepped_now, stepped_idle, MS.enter]
            · refine Br_neq v2 ?_
              by_cases v3 : d.ev = 6
              · refine Br_eq v3 ?_
                refine machEnter (a.at_ (some tp1) tm1) ((s.stepped t).enter 3 t) (fun e => (by cases e)) tO 8 t H [_] B rfl (fun tp2 tm2 w H => ⟨rfl, ?_⟩)
                refine fin_ tp2 tm2 hbz.symm H.tail ?_
                rw [hstep]
                simp [machL, MA.at_, MS.evs, hdd, v3, b1, b2, slB, slA, stepped_tr, stepped_now, stepped_idle, MS.enter]
              · refine Br_neq v3 ?_
                by_cases v4 : d.ev = 3
                · refine Br_eq v4 ?_
                  refine machEnter (a.at_ (some tp1) tm1) ((s.stepped t).enter 3 t) (fun e => (by cases e)) tO 7 t H [_] B rfl (fun tp2 tm2 w H => ⟨rfl, ?_⟩)
                  refine fin_ tp2 tm2 hbz.symm H.tail ?_
                  rw [hstep]
                  simp [machL, MA.at_, MS.evs, hdd, v4, b1, b2, slB, slA, stepped_tr, stepped_now, stepped_idle, MS.enter]
                · refine Br_neq v4 ?_
                  refine ⟨_, machL (a.at_ (some tp1) tm1) (s.step t), rfl, ⟨by rw [hbz], _, _, rfl, ?_⟩, H.tail.to ?_⟩
                  · rw [hstep]
                    intro e
                    first
                      | (cases e; done)
                      | (have h := ho.tn e; simpa [MS.evs, hdd, v1, v2, v3, v4, b1, b2, stepped_tr] using h)
                  · rw [hstep]
                    simp [machL, MA.at_, MS.evs, hdd, v1, v2, v3, v4, b1, b2, slB, slA, stepped_tr, stepped_now, stepped_idle, MS.enter]
      · refine Br_pos rfl ?_
        refine machEnter (a.at_ a.tp a.tm) (s.stepped t) ho.tn (by omega) 2 t H [_] B rfl (fun tp0 tm0 w H => ⟨rfl, ?_⟩)
        refine exBool (H.cell 0 rfl rfl) ?_
        cases b2 : d.arr
        · refine Br_neg rfl (exInt (H.cell 0 rfl rfl) ?_)
          by_cases v1 : d.ev = 1
          · refine Br_eq v1 ?_
            refine machEnter (a.at_ (some tp0) tm0) ((s.stepped t).enter 2 t) (fun e => (by cases e)) tO 4 t H [_] B rfl (fun tp2 tm2 w H => ⟨rfl, ?_⟩)
            refine H.drewK (fun w H => exSlice ((mach0 (X := [_]) H).cell rfl) (exSlice ((mach0 (X := [_]) H).cell rfl) (exBool (H.cell 0 rfl rfl) ?_)))
            have hlen : (((s.stepped t).enter 2 t).enter 4 t).tr.length = ((s.stepped t).enter 2 t).tr.length + 1 := by simp [MS.enter]
            have hl3 : ((s.stepped t).enter 2 t).tr.length ≤ 900002 := by (try simp only [MS.enter, List.length_append, List.length_cons, List.length_nil]); omega
            have hwr : IntKind.i64.wrap ((((((s.stepped t).enter 2 t).enter 4 t).tr.length : Nat) : Int) - 1) = ((((s.stepped t).enter 2 t).tr.length : Nat) : Int) := by
              rw [hlen]
              generalize ((s.stepped t).enter 2 t).tr.length = n at hl3
              rw [show (((n + 1 : Nat) : Int) - 1) = ((n : Nat) : Int) by omega]
              exact wrap_i64 (by omega) (by omega)
            rw [hwr]
            refine ⟨⟨by omega, by omega⟩, PtrSome_at ?_⟩
            simp only [Int.toNat_natCast]
            have H3 := H.to (L' := _ :: (a.m, [ptr a.la.pa.p, a.la.v, .slice (some ⟨tp2, 0, none⟩) (((s.stepped t).enter 2 t).enter 4 t).tr.length ((((s.stepped t).enter 2 t).enter 4 t).tr ++ tm2).length, i64 s.now, i64 s.idle, slv a.sb ((s.stepped t).enter 2 t).steps.length]) :: (a.sb, ints .i64 ((s.stepped t).enter 2 t).steps) :: (tp2, rows enRow ((((s.stepped t).enter 2 t).tr ++ [(4, t, s.now, false)]) ++ tm2)) ::
              (Lk.blk a.la ((s.stepped t).enter 2 t).lk ++ (portL a.la.pa ((s.stepped t).enter 2 t).p ++ B))) (by simp [machL, MA.at_, MS.enter, slB, slA, stepped_tr, stepped_now, stepped_idle]; rfl)
            refine ⟨H3.can 3 rfl (en_cell _ _ _), H3.setK 3 rfl (fun w H => ?_)⟩
            simp only [List.set_cons_succ, List.set_cons_zero, en_lead] at H
            refine fin_ tp2 tm2 hbz.symm H.tail ?_
            rw [hstep]
            simp [machL, MA.at_, MS.evs, hdd, v1, b1, b2, slB, slA, stepped_tr, stepped_now, stepped_idle, MS.enter]
          · refine Br_neq v1 ?_
            by_cases v2 : d.ev = 2
            · refine Br_eq v2 ?_
              refine machEnter (a.at_ (some tp0) tm0) ((s.stepped t).enter 2 t) (fun e => (by cases e)) tO 5 t H [_] B rfl (fun tp2 tm2 w H => ⟨rfl, ?_⟩)
              refine fin_ tp2 tm2 hbz.symm H.tail ?_
              rw [hstep]
              simp [machL, MA.at_, MS.evs, hdd, v2, b1, b2, slB, slA, stepped_tr, stepped_now, stepped_idle, MS.enter]
            · refine Br_neq v2 ?_
              by_cases v3 : d.ev = 6
              · refine Br_eq v3 ?_
                refine machEnter (a.at_ (some tp0) tm0) ((s.stepped t).enter 2 t) (fun e => (by cases e)) tO 8 t H [_] B rfl (fun tp2 tm2 w H => ⟨rfl, ?_⟩)
                refine fin_ tp2 tm2 hbz.symm H.tail ?_
                rw [hstep]
                simp [machL, MA.at_, MS.evs, hdd, v3, b1, b2, slB, slA, stepped_tr, stepped_now, stepped_idle, MS.enter]
              · refine Br_neq v3 ?_
                by_cases v4 : d.ev = 3
                · refine Br_eq v4 ?_
                  refine machEnter (a.at_ (some tp0) tm0) ((s.stepped t).enter 2 t) (fun e => (by cases e)) tO 7 t H [_] B rfl (fun tp2 tm2 w H => ⟨rfl, ?_⟩)
                  refine fin_ tp2 tm2 hbz.symm H.tail ?_
                  rw [hstep]
                  simp [machL, MA.at_, MS.evs, hdd, v4, b1, b2, slB, slA, stepped_tr, stepped_now, stepped_idle, MS.enter]
                · refine Br_neq v4 ?_
                  refine ⟨_, machL (a.at_ (some tp0) tm0) (s.step t), rfl, ⟨by rw [hbz], _, _, rfl, ?_⟩, H.tail.to ?_⟩
                  · rw [hstep]
                    intro e
                    first
                      | (cases e; done)
                      | (have h := ho.tn e; simpa [MS.evs, hdd, v1, v2, v3, v4, b1, b2, stepped_tr] using h)
                  · rw [hstep]
                    simp [machL, MA.at_, MS.evs, hdd, v1, v2, v3, v4, b1, b2, slB, slA, stepped_tr, stepped_now, stepped_idle, MS.enter]
        · refine Br_pos rfl ?_
          refine machEnter (a.at_ (some tp0) tm0) ((s.stepped t).enter 2 t) (fun e => (by cases e)) tO 3 t H [_] B rfl (fun tp1 tm1 w H => ⟨rfl, exInt (H.cell 0 rfl rfl) ?_⟩)
          by_cases v1 : d.ev = 1
          · refine Br_eq v1 ?_
            refine machEnter (a.at_ (some tp1) tm1) (((s.stepped t).enter 2 t).enter 3 t) (fun e => (by cases e)) tO 4 t H [_] B rfl (fun tp2 tm2 w H => ⟨rfl, ?_⟩)
            refine H.drewK (fun w H => exSlice ((mach0 (X := [_]) H).cell rfl) (exSlice ((mach0 (X := [_]) H).cell rfl) (exBool (H.cell 0 rfl rfl) ?_)))
            have hlen : ((((s.stepped t).enter 2 t).enter 3 t).enter 4 t).tr.length = (((s.stepped t).enter 2 t).enter 3 t).tr.length + 1 := by simp [MS.enter]
            have hl3 : (((s.stepped t).enter 2 t).enter 3 t).tr.length ≤ 900002 := by (try simp only [MS.enter, List.length_append, List.length_cons, List.length_nil]); omega
            have hwr : IntKind.i64.wrap (((((((s.stepped t).enter 2 t).enter 3 t).enter 4 t).tr.length : Nat) : Int) - 1) = (((((s.stepped t).enter 2 t).enter 3 t).tr.length : Nat) : Int) := by
              rw [hlen]
              generalize (((s.stepped t).enter 2 t).enter 3 t).tr.length = n at hl3
              rw [show (((n + 1 : Nat) : Int) - 1) = ((n : Nat) : Int) by omega]
              exact wrap_i64 (by omega) (by omega)
            rw [hwr]
            refine ⟨⟨by omega, by omega⟩, PtrSome_at ?_⟩
            simp only [Int.toNat_natCast]
            have H3 := H.to (L' := _ :: (a.m, [ptr a.la.pa.p, a.la.v, .slice (some ⟨tp2, 0, none⟩) ((((s.stepped t).enter 2 t).enter 3 t).enter 4 t).tr.length (((((s.stepped t).enter 2 t).enter 3 t).enter 4 t).tr ++ tm2).length, i64 s.now, i64 s.idle, slv a.sb (((s.stepped t).enter 2 t).enter 3 t).steps.length]) :: (a.sb, ints .i64 (((s.stepped t).enter 2 t).enter 3 t).steps) :: (tp2, rows enRow (((((s.stepped t).enter 2 t).enter 3 t).tr ++ [(4, t, s.now, false)]) ++ tm2)) ::
              (Lk.blk a.la (((s.stepped t).enter 2 t).enter 3 t).lk ++ (portL a.la.pa (((s.stepped t).enter 2 t).enter 3 t).p ++ B))) (by simp [machL, MA.at_, MS.enter, slB, slA, stepped_tr, stepped_now, stepped_idle]; rfl)
            refine ⟨H3.can 3 rfl (en_cell _ _ _), H3.setK 3 rfl (fun w H => ?_)⟩
            simp only [List.set_cons_succ, List.set_cons_zero, en_lead] at H
            refine fin_ tp2 tm2 hbz.symm H.tail ?_
            rw [hstep]
            simp [machL, MA.at_, MS.evs, hdd, v1, b1, b2, slB, slA, stepped_tr, stepped_now, stepped_idle, MS.enter]
          · refine Br_neq v1 ?_
            by_cases v2 : d.ev = 2
            · refine Br_eq v2 ?_
              refine machEnter (a.at_ (some tp1) tm1) (((s.stepped t).enter 2 t).enter 3 t) (fun e => (by cases e)) tO 5 t H [_] B rfl (fun tp2 tm2 w H => ⟨rfl, ?_⟩)
              refine fin_ tp2 tm2 hbz.symm H.tail ?_
              rw [hstep]
              simp [machL, MA.at_, MS.evs, hdd, v2, b1, b2, slB, slA, stepped_tr, stepped_now, stepped_idle, MS.enter]
            · refine Br_neq v2 ?_
              by_cases v3 : d.ev = 6
              · refine Br_eq v3 ?_
                refine machEnter (a.at_ (some tp1) tm1) (((s.stepped t).enter 2 t).enter 3 t) (fun e => (by cases e)) tO 8 t H [_] B rfl (fun tp2 tm2 w H => ⟨rfl, ?_⟩)
                refine fin_ tp2 tm2 hbz.symm H.tail ?_
                rw [hstep]
                simp [machL, MA.at_, MS.evs, hdd, v3, b1, b2, slB, slA, stepped_tr, stepped_now, stepped_idle, MS.enter]
              · refine Br_neq v3 ?_
                by_cases v4 : d.ev = 3
                · refine Br_eq v4 ?_
                  refine machEnter (a.at_ (some tp1) tm1) (((s.stepped t).enter 2 t).enter 3 t) (fun e => (by cases e)) tO 7 t H [_] B rfl (fun tp2 tm2 w H => ⟨rfl, ?_⟩)
                  refine fin_ tp2 tm2 hbz.symm H.tail ?_
                  rw [hstep]
                  simp [machL, MA.at_, MS.evs, hdd, v4, b1, b2, slB, slA, stepped_tr, stepped_now, stepped_idle, MS.enter]
                · refine Br_neq v4 ?_
                  refine ⟨_, machL (a.at_ (some tp1) tm1) (s.step t), rfl, ⟨by rw [hbz], _, _, rfl, ?_⟩, H.tail.to ?_⟩
                  · rw [hstep]
                    intro e
                    first
                      | (cases e; done)
                      | (have h := ho.tn e; simpa [MS.evs, hdd, v1, v2, v3, v4, b1, b2, stepped_tr] using h)
                  · rw [hstep]
                    simp [machL, MA.at_, MS.evs, hdd, v1, v2, v3, v4, b1, b2, slB, slA, stepped_tr, stepped_now, stepped_idle, MS.enter]
end
end Go.Proofs.YtollfjfcdofbaaaGreat
