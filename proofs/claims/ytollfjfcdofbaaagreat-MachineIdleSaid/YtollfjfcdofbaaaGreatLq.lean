/- All locks as one type: contracts of their methods. -/
import Derived.Test.YtollfjfcdofbaaaGreatLp
namespace Go.Proofs.YtollfjfcdofbaaaGreat
open Go Go.Proofs
set_option linter.unusedSimpArgs false
set_option linter.unusedVariables false
set_option maxRecDepth 100000
set_option maxHeartbeats 4000000
-- NB 4

/-! ## todos are kept -/
namespace CS
theorem todos_put {s : CS} (h : s.todos) (t : Int) (x : CPl) (hx : x.todo ≤ 10) : (s.put t x).todos := by
  intro t' ht'
  rw [put_pl]
  split
  · exact hx
  · exact h t' ht'
theorem todos_todo {s : CS} (h : s.todos) (t : Int) (k : Nat) (hk : k ≤ 10) : (s.todo t k).todos := todos_put h t _ hk
theorem todos_away {s : CS} (h : s.todos) (t : Int) : (s.away t).todos := todos_todo (s := s.setLoc t _) h t 10 (by decide)
theorem todos_doS {s : CS} (h : s.todos) (p : PS) (t u : Int) (k : Nat) : (s.doS p t u k).todos := by
  unfold doS
  split
  · split
    · exact todos_todo (s := s.setLoc t _) h t 2 (by decide)
    · exact h
  · split
    · exact todos_todo (s := { s with glob := _ }) h t 3 (by decide)
    · exact h
  · split
    · exact todos_todo (s := { s with glob := _ }) h t 4 (by decide)
    · exact h
  · exact h
  · split
    · exact todos_put (s := s.setLoc t _) h t _ (show 6 ≤ 10 by decide)
    · exact todos_put h t _ (show 8 ≤ 10 by decide)
  · split
    · exact todos_todo (s := s.setLoc t _) h t 7 (by decide)
    · exact todos_todo (s := s.setLoc t _) h t 8 (by decide)
  · exact todos_away h t
  · exact todos_todo (s := { s with glob := _ }) h t 9 (by decide)
  · split
    · exact todos_away (s := { s with glob := _ }) h t
    · exact h
  · exact h
  · exact h
theorem todos_begin {s : CS} (h : s.todos) (t : Int) : (s.begin t).todos := by
  unfold begin
  split
  · exact todos_todo h t 5 (by decide)
  · exact todos_todo (s := s.setLoc t _) h t 1 (by decide)
theorem pre_both {a : CA} {s : CS} (h : s.fits a) (ho : s.ok) {t : Int} (ht : s.ss.there t = true) : s.Keep (s.pre t) ∧ (s.pre t).fits a := by
  unfold pre
  split
  · exact begin_both h ho ht
  · exact ⟨Keep.refl _, h⟩
theorem todos_pre {s : CS} (h : s.todos) (t : Int) : (s.pre t).todos := by
  unfold pre
  split
  · exact todos_begin h t
  · exact h
theorem busy_there {s : CS} {t : Int} (h : s.busy t) : s.ss.there t = true := by
  rcases h with h | h
  · exact state_there h (by decide)
  · exact state_there h (by decide)
theorem endS_ss (s : CS) (t ev : Int) : (s.endS t ev).ss = s.ss.end_ t ev := by
  unfold endS SS.end_
  split <;> rfl
theorem stepS_all {a : CA} {s : CS} (h : s.fits a) (ho : s.ok) (htd : s.todos) (p : PS) (t u : Int) : (s.stepS p t u).fits a ∧ (s.stepS p t u).ok ∧ (s.stepS p t u).todos ∧ (s.stepS p t u).ss.l.length = s.ss.l.length := by
  unfold stepS
  split
  · rename_i hb
    have ht := busy_there hb
    have h1 := pre_both h ho ht
    have ht1 : (s.pre t).ss.there t = true := by rw [h1.1.ss]; exact ht
    have h2 := doS_both h1.2 (h1.1.ok ho) p (u := u) ht1 ((s.pre t).pl t).todo
    have h3 := h2.1.ok (h1.1.ok ho)
    have h4 := todos_doS (todos_pre htd t) p t u ((s.pre t).pl t).todo
    generalize (s.pre t).doS p t u ((s.pre t).pl t).todo = s2 at h2 h3 h4
    have hss : s2.ss = s.ss := h2.1.ss.trans h1.1.ss
    generalize (s.stepE p t u).ev = ev
    have hthe : ∀ t', (s2.ss.end_ t ev).there t' = s2.ss.there t' := fun t' => by simp [SS.there]
    refine ⟨?_, ?_, ?_, by rw [endS_ss, end_len, hss]⟩
    · unfold endS
      split
      · exact ⟨h2.2.glob, h2.2.gwf, h2.2.locs, h2.2.pg, h2.2.pl⟩
      · exact h2.2
    · unfold endS
      split
      · have h5 := (todo_keep s2 t 0).ok h3
        refine ⟨?_, h5.eight, fun t' ht' => h5.node t' ((hthe t').symm.trans ht')⟩
        show (s2.todo t 0).places.length = (s2.ss.end_ t ev).l.length
        rw [end_len]; exact h5.len
      · exact h3
    · unfold endS
      split
      · intro t' ht'
        exact todos_todo h4 t 0 (by decide) t' ((hthe t').symm.trans ht')
      · exact h4
  · exact ⟨h, ho, htd, rfl⟩
theorem stepP_wf {s : CS} {p : PS} (h : p.wf) (t u : Int) : (s.stepP p t u).wf := by
  unfold stepP
  split
  · exact doP_wf h _ _ _
  · exact h
end CS
theorem GS.stepS_wf {s : GS} {p : PS} {t u : Int} (h : s.wf) : (s.stepS p t u).wf ∧ (s.stepS p t u).ss.l.length = s.ss.l.length := by
  have hl : (s.stepI p t u).places.length = s.places.length ∧ (s.stepI p t u).ss = s.ss := by
    unfold GS.stepI GS.lockS
    repeat' split
    all_goals simp
  refine ⟨?_, by simp [GS.stepS, hl.2]⟩
  simp only [GS.wf, GS.stepS, end_len, hl.1, hl.2]
  exact h
theorem GS.stepP_wf {s : GS} {p : PS} (h : p.wf) (t u : Int) : (s.stepP p t u).wf := by
  unfold GS.stepP GS.lockP
  repeat' split
  all_goals first | exact h | exact PS.load_wf h _ _ | exact PS.store_wf h _ _ _ | exact PS.add_wf h _ _ _
theorem JS.stepP_wf {s : JS} {p : PS} (h : p.wf) (t u : Int) : (s.stepP p t u).wf := by
  unfold JS.stepP JS.lockP JS.unP
  repeat' split
  all_goals first | exact h | exact PS.load_wf h _ _ | exact PS.store_wf h _ _ _ | exact PS.cas_wf h _ _ _ _
theorem BS.stepP_wf {s : BS} {p : PS} (h : p.wf) (t u : Int) (row : List Int) : (s.stepP p t u row).wf := by
  unfold BS.stepP BS.lockP BS.unP
  repeat' split
  all_goals first | exact h | exact PS.load_wf h _ _ | exact PS.store_wf h _ _ _ | exact PS.cas_wf h _ _ _ _

inductive Lk where
  | inn (s : LI) | slo (s : GS) | abo (s : BS) (e : Nat) | hie (s : JS) | coh (s : CS)
inductive LkA where
  | inn (a : LIA) | slo (a : GA) | abo (a : BA) (q : QS) | hie (a : JA) (m : List HiPl) | coh (a : CA)
namespace Lk
def ss : Lk → SS
  | .inn s => s.ss | .slo s => s.ss | .abo s _ => s.ss | .hie s => s.ss | .coh s => s.ss
def setS : Lk → SS → Lk
  | .inn s, x => .inn (s.setS x) | .slo s, x => .slo { s with ss := x } | .abo s e, x => .abo { s with ss := x } e | .hie s, x => .hie { s with ss := x } | .coh s, x => .coh { s with ss := x }
def rowOf (e : Nat) (t : Int) : List Int := nodesOf t.toNat e e
def stepE : Lk → PS → Int → Int → Int → Dd
  | .inn s, p, t, u, _ => s.stepE p t u | .slo s, p, t, u, _ => s.stepE p t u | .abo s e, p, t, u, now => s.stepE p t u now (rowOf e t) | .hie s, p, t, u, _ => s.stepE p t u | .coh s, p, t, u, _ => s.stepE p t u
def stepS : Lk → PS → Int → Int → Int → Lk
  | .inn s, p, t, u, _ => .inn (s.stepS p t u) | .slo s, p, t, u, _ => .slo (s.stepS p t u) | .abo s e, p, t, u, now => .abo (s.stepS p t u now (rowOf e t)) e | .hie s, p, t, u, _ => .hie (s.stepS p t u) | .coh s, p, t, u, _ => .coh (s.stepS p t u)
def stepP : Lk → PS → Int → Int → Int → PS
  | .inn s, p, t, u, _ => s.stepP p t u | .slo s, p, t, u, _ => s.stepP p t u | .abo s e, p, t, u, _ => s.stepP p t u (rowOf e t) | .hie s, p, t, u, _ => s.stepP p t u | .coh s, p, t, u, _ => s.stepP p t u
def lock (s : Lk) (t d : Int) : Lk := s.setS (s.ss.lock t d)
def unlock (s : Lk) (t : Int) : Lk := s.setS (s.ss.unlock t)
def probe (s : Lk) (t : Int) : Lk := s.setS (s.ss.probe t)
/-- it lies where it lies, and all is well -/
def good : LkA → Lk → Prop
  | .inn a, .inn s => LI.fits a s ∧ s.wf
  | .slo _, .slo s => s.wf
  | .abo _ q, .abo s e => q.first s.ss.l.length e ∧ s.wf ∧ s.inv e
  | .hie _ _, .hie s => s.places.length = s.ss.l.length
  | .coh a, .coh s => s.fits a ∧ s.ok ∧ s.todos
  | _, _ => False
def blk : LkA → Lk → Blocks
  | .inn a, .inn s => LI.blk a s
  | .slo a, .slo s => slotL a s
  | .abo a q, .abo s _ => aboL a s ++ poolL a.pool q
  | .hie a m, .hie s => hieL a (s.ext m)
  | .coh a, .coh s => cohL a s
  | _, _ => []
@[simp] theorem setS_ss (s : Lk) (x : SS) : (s.setS x).ss = x := by
  cases s with
  | inn s => exact LI.setS_ss s x
  | _ => rfl
theorem stepS_ssl {a : LkA} {s : Lk} (h : good a s) (p : PS) (t u now : Int) : (s.stepS p t u now).ss.l.length = s.ss.l.length := by
  cases a <;> cases s <;> try exact h.elim
  · exact LI.stepS_ssl _ _ _ _
  · exact (GS.stepS_wf h).2
  · rename_i s e
    simp [Lk.stepS, Lk.ss, BS.stepS, BS.endS, (abo_stepI s p t u now (rowOf e t)).1]
  · exact JS.stepS_ssl
  · exact (CS.stepS_all h.1 h.2.1 h.2.2 p t u).2.2.2
theorem stepP_wf {s : Lk} {p : PS} (h : p.wf) (t u now : Int) : (s.stepP p t u now).wf := by
  cases s with
  | inn s => exact LI.stepP_wf h t u
  | slo s => exact GS.stepP_wf h t u
  | abo s e => exact BS.stepP_wf h t u _
  | hie s => exact JS.stepP_wf h t u
  | coh s => exact CS.stepP_wf h t u
theorem nodes_len (t e k : Nat) : (nodesOf t e k).length = k := by simp [nodesOf]
theorem good_step {a : LkA} {s : Lk} (h : good a s) (p : PS) (t u now : Int) : good a (s.stepS p t u now) := by
  have hl := stepS_ssl h p t u now
  cases a <;> cases s <;> try exact h.elim
  · exact ⟨LI.fits_stepS h.1 _ _ _, LI.stepS_wf h.2 _ _ _⟩
  · exact (GS.stepS_wf h).1
  · rename_i s e
    obtain ⟨h1, h2, h3⟩ := h
    have hI := abo_stepI s p t u now (rowOf e t)
    refine ⟨by rw [show (s.stepS p t u now (rowOf e t)).ss.l.length = s.ss.l.length from hl]; exact h1, ?_, ?_⟩
    · have h2' : s.places.length = s.ss.l.length := h2
      simp only [BS.wf, BS.stepS, BS.endS]
      rw [end_len, hI.1]
      split
      · rw [List.length_set, hI.2]; exact h2'
      · rw [hI.2]; exact h2'
    · exact BS.inv_step ⟨h1.each ▸ h1.wf.pos, h1.each ▸ h1.wf.few⟩ h2 h3 p t u now _ (fun _ => nodes_len _ _ _)
  · exact JS.stepS_len.trans (Eq.trans h JS.stepS_ssl.symm)
  · have := CS.stepS_all h.1 h.2.1 h.2.2 p t u
    exact ⟨this.1, this.2.1, this.2.2.1⟩
theorem good_ss {a : LkA} {s : Lk} (h : good a s) {x : SS} (hx : x.l.length = s.ss.l.length) (hi : ∀ b e, s = .abo b e → BS.inv b e → BS.inv { b with ss := x } e) : good a (s.setS x) := by
  cases a <;> cases s <;> try exact h.elim
  · exact ⟨LI.fits_setS h.1 x, LI.setS_wf h.2 hx⟩
  · exact Eq.trans h hx.symm
  · rename_i s e
    refine ⟨?_, Eq.trans h.2.1 hx.symm, hi s e rfl h.2.2⟩
    show QS.first _ x.l.length e
    rw [hx]; exact h.1
  · exact Eq.trans h hx.symm
  · rename_i a s
    refine ⟨⟨h.1.glob, h.1.gwf, h.1.locs, h.1.pg, h.1.pl⟩, ⟨Eq.trans h.2.1.len hx.symm, h.2.1.eight, fun t ht => h.2.1.node t ?_⟩, fun t ht => h.2.2 t ?_⟩
    · have hx' : x.l.length = s.ss.l.length := hx
      simpa [SS.there, hx'] using ht
    · have hx' : x.l.length = s.ss.l.length := hx
      simpa [SS.there, hx'] using ht
theorem good_lock {a : LkA} {s : Lk} (h : good a s) (t d : Int) : good a (s.lock t d) :=
  good_ss h (by simp) (fun b e hs hi => by
    subst hs
    cases a <;> try exact h.elim
    exact BS.inv_lock (h.1.each ▸ h.1.wf.pos) hi t d)
theorem good_unlock {a : LkA} {s : Lk} (h : good a s) (t : Int) : good a (s.unlock t) :=
  good_ss h (by simp) (fun b e hs hi => by subst hs; exact BS.inv_unlock hi t)
theorem good_probe {a : LkA} {s : Lk} (h : good a s) (t : Int) : good a (s.probe t) :=
  good_ss h (by simp) (fun b e hs hi => by subst hs; exact BS.inv_probe hi t)
end Lk
namespace LkA
def v : LkA → Value
  | .inn a => a.v | .slo a => .iface 263 (ptr a.l) | .abo a _ => .iface 266 (ptr a.l) | .hie a _ => .iface 269 (ptr a.l) | .coh a => .iface 30 (ptr a.l)
def pa : LkA → PA
  | .inn a => a.pa | .slo a => a.pa | .abo a _ => a.pa | .hie a _ => a.pa | .coh a => a.pa
end LkA
theorem Lk.lock_inn (s : LI) (t d : Int) : (Lk.inn s).lock t d = .inn (s.setS (s.ss.lock t d)) := rfl
theorem lkLen {a : LkA} {s : Lk} (h : Lk.good a s) : SpI a.v "Len" #[] (Lk.blk a s) (i64 s.ss.l.length) (Lk.blk a s) := by
  cases a <;> cases s <;> try exact h.elim
  · exact liLen h.1 
  · rename_i a s
    have k := lenI (sa := a.sa) (s := s.ss) (l := a.l) (cs := [ptr a.pa.p, i64 s.tail, i64 s.n, slv a.rb s.ss.l.length]) (Y := [(a.rb, rows slRow s.places)]) (Z := []) methSlot 
    simp only [List.cons_append, List.nil_append, List.append_nil] at k
    simpa [Lk.blk, Lk.lock, Lk.unlock, Lk.probe, Lk.setS, Lk.ss, slotL, LkA.v] using k
  · rename_i a q s e
    have k := lenI (sa := a.sa) (s := s.ss) (l := a.l) (cs := [ptr a.pa.p, ptr a.pool, i64 s.tail, slv a.rb s.ss.l.length]) (Y := [(a.rb, rows abRow s.places)]) (Z := poolL a.pool q) methAbo 
    simp only [List.cons_append, List.nil_append, List.append_nil] at k
    simpa [Lk.blk, Lk.lock, Lk.unlock, Lk.probe, Lk.setS, Lk.ss, aboL, LkA.v] using k
  · rename_i a m s
    have k := lenI (sa := a.sa) (s := s.ss) (l := a.l) (cs := [ptr a.pa.p, i64 s.tail, .slice (some ⟨a.rb, 0, none⟩) s.ss.l.length a.rc]) (Y := [(a.rb, rows hiRow (s.places ++ m))]) (Z := []) methHie 
    simp only [List.cons_append, List.nil_append, List.append_nil] at k
    simpa [Lk.blk, Lk.lock, Lk.unlock, Lk.probe, Lk.setS, Lk.ss, hieL, JS.ext, LkA.v] using k
  · rename_i a s
    have k := lenI (sa := a.sa) (s := s.ss) (l := a.l) (cs := ptr a.pa.p :: i64 s.pass :: u32 s.budget :: a.glob.v :: (a.locs.map optV ++ [slv a.rb s.ss.l.length])) (Y := [(a.rb, rows coRow s.places)]) (Z := LI.blk a.glob s.glob ++ locsL a.locs s.locs) methCoh 
    simp only [List.cons_append, List.nil_append, List.append_nil] at k
    simpa [Lk.blk, Lk.lock, Lk.unlock, Lk.probe, Lk.setS, Lk.ss, cohL, LkA.v] using k
theorem lkState {a : LkA} {s : Lk} (h : Lk.good a s) (t : Int) : SpI a.v "State" #[i64 t] (Lk.blk a s) (i64 (s.ss.state t)) (Lk.blk a s) := by
  cases a <;> cases s <;> try exact h.elim
  · exact liState h.1 t
  · rename_i a s
    have k := stateI (sa := a.sa) (s := s.ss) (l := a.l) (cs := [ptr a.pa.p, i64 s.tail, i64 s.n, slv a.rb s.ss.l.length]) (Y := [(a.rb, rows slRow s.places)]) (Z := []) methSlot t
    simp only [List.cons_append, List.nil_append, List.append_nil] at k
    simpa [Lk.blk, Lk.lock, Lk.unlock, Lk.probe, Lk.setS, Lk.ss, slotL, LkA.v] using k
  · rename_i a q s e
    have k := stateI (sa := a.sa) (s := s.ss) (l := a.l) (cs := [ptr a.pa.p, ptr a.pool, i64 s.tail, slv a.rb s.ss.l.length]) (Y := [(a.rb, rows abRow s.places)]) (Z := poolL a.pool q) methAbo t
    simp only [List.cons_append, List.nil_append, List.append_nil] at k
    simpa [Lk.blk, Lk.lock, Lk.unlock, Lk.probe, Lk.setS, Lk.ss, aboL, LkA.v] using k
  · rename_i a m s
    have k := stateI (sa := a.sa) (s := s.ss) (l := a.l) (cs := [ptr a.pa.p, i64 s.tail, .slice (some ⟨a.rb, 0, none⟩) s.ss.l.length a.rc]) (Y := [(a.rb, rows hiRow (s.places ++ m))]) (Z := []) methHie t
    simp only [List.cons_append, List.nil_append, List.append_nil] at k
    simpa [Lk.blk, Lk.lock, Lk.unlock, Lk.probe, Lk.setS, Lk.ss, hieL, JS.ext, LkA.v] using k
  · rename_i a s
    have k := stateI (sa := a.sa) (s := s.ss) (l := a.l) (cs := ptr a.pa.p :: i64 s.pass :: u32 s.budget :: a.glob.v :: (a.locs.map optV ++ [slv a.rb s.ss.l.length])) (Y := [(a.rb, rows coRow s.places)]) (Z := LI.blk a.glob s.glob ++ locsL a.locs s.locs) methCoh t
    simp only [List.cons_append, List.nil_append, List.append_nil] at k
    simpa [Lk.blk, Lk.lock, Lk.unlock, Lk.probe, Lk.setS, Lk.ss, cohL, LkA.v] using k
theorem lkLock {a : LkA} {s : Lk} (h : Lk.good a s) (t d : Int) : SpI a.v "Lock" #[i64 t, i64 d] (Lk.blk a s) (i64 (s.ss.lockE t d)) (Lk.blk a (s.lock t d)) := by
  cases a <;> cases s <;> try exact h.elim
  · exact liLock h.1 t d
  · rename_i a s
    have k := lockI (sa := a.sa) (s := s.ss) (l := a.l) (cs := [ptr a.pa.p, i64 s.tail, i64 s.n, slv a.rb s.ss.l.length]) (Y := [(a.rb, rows slRow s.places)]) (Z := []) methSlot t d
    simp only [List.cons_append, List.nil_append, List.append_nil] at k
    simpa [Lk.blk, Lk.lock, Lk.unlock, Lk.probe, Lk.setS, Lk.ss, slotL, LkA.v] using k
  · rename_i a q s e
    have k := lockI (sa := a.sa) (s := s.ss) (l := a.l) (cs := [ptr a.pa.p, ptr a.pool, i64 s.tail, slv a.rb s.ss.l.length]) (Y := [(a.rb, rows abRow s.places)]) (Z := poolL a.pool q) methAbo t d
    simp only [List.cons_append, List.nil_append, List.append_nil] at k
    simpa [Lk.blk, Lk.lock, Lk.unlock, Lk.probe, Lk.setS, Lk.ss, aboL, LkA.v] using k
  · rename_i a m s
    have k := lockI (sa := a.sa) (s := s.ss) (l := a.l) (cs := [ptr a.pa.p, i64 s.tail, .slice (some ⟨a.rb, 0, none⟩) s.ss.l.length a.rc]) (Y := [(a.rb, rows hiRow (s.places ++ m))]) (Z := []) methHie t d
    simp only [List.cons_append, List.nil_append, List.append_nil] at k
    simpa [Lk.blk, Lk.lock, Lk.unlock, Lk.probe, Lk.setS, Lk.ss, hieL, JS.ext, LkA.v] using k
  · rename_i a s
    have k := lockI (sa := a.sa) (s := s.ss) (l := a.l) (cs := ptr a.pa.p :: i64 s.pass :: u32 s.budget :: a.glob.v :: (a.locs.map optV ++ [slv a.rb s.ss.l.length])) (Y := [(a.rb, rows coRow s.places)]) (Z := LI.blk a.glob s.glob ++ locsL a.locs s.locs) methCoh t d
    simp only [List.cons_append, List.nil_append, List.append_nil] at k
    simpa [Lk.blk, Lk.lock, Lk.unlock, Lk.probe, Lk.setS, Lk.ss, cohL, LkA.v] using k
theorem lkUnlock {a : LkA} {s : Lk} (h : Lk.good a s) (t : Int) : SpI a.v "Unlock" #[i64 t] (Lk.blk a s) (i64 (s.ss.holds t)) (Lk.blk a (s.unlock t)) := by
  cases a <;> cases s <;> try exact h.elim
  · exact liUnlock h.1 t
  · rename_i a s
    have k := unlockI (sa := a.sa) (s := s.ss) (l := a.l) (cs := [ptr a.pa.p, i64 s.tail, i64 s.n, slv a.rb s.ss.l.length]) (Y := [(a.rb, rows slRow s.places)]) (Z := []) methSlot t
    simp only [List.cons_append, List.nil_append, List.append_nil] at k
    simpa [Lk.blk, Lk.lock, Lk.unlock, Lk.probe, Lk.setS, Lk.ss, slotL, LkA.v] using k
  · rename_i a q s e
    have k := unlockI (sa := a.sa) (s := s.ss) (l := a.l) (cs := [ptr a.pa.p, ptr a.pool, i64 s.tail, slv a.rb s.ss.l.length]) (Y := [(a.rb, rows abRow s.places)]) (Z := poolL a.pool q) methAbo t
    simp only [List.cons_append, List.nil_append, List.append_nil] at k
    simpa [Lk.blk, Lk.lock, Lk.unlock, Lk.probe, Lk.setS, Lk.ss, aboL, LkA.v] using k
  · rename_i a m s
    have k := unlockI (sa := a.sa) (s := s.ss) (l := a.l) (cs := [ptr a.pa.p, i64 s.tail, .slice (some ⟨a.rb, 0, none⟩) s.ss.l.length a.rc]) (Y := [(a.rb, rows hiRow (s.places ++ m))]) (Z := []) methHie t
    simp only [List.cons_append, List.nil_append, List.append_nil] at k
    simpa [Lk.blk, Lk.lock, Lk.unlock, Lk.probe, Lk.setS, Lk.ss, hieL, JS.ext, LkA.v] using k
  · rename_i a s
    have k := unlockI (sa := a.sa) (s := s.ss) (l := a.l) (cs := ptr a.pa.p :: i64 s.pass :: u32 s.budget :: a.glob.v :: (a.locs.map optV ++ [slv a.rb s.ss.l.length])) (Y := [(a.rb, rows coRow s.places)]) (Z := LI.blk a.glob s.glob ++ locsL a.locs s.locs) methCoh t
    simp only [List.cons_append, List.nil_append, List.append_nil] at k
    simpa [Lk.blk, Lk.lock, Lk.unlock, Lk.probe, Lk.setS, Lk.ss, cohL, LkA.v] using k
theorem lkProbe {a : LkA} {s : Lk} (h : Lk.good a s) (t : Int) : SpI a.v "Probe" #[i64 t] (Lk.blk a s) (i64 (s.ss.probeE t)) (Lk.blk a (s.probe t)) := by
  cases a <;> cases s <;> try exact h.elim
  · exact liProbe h.1 t
  · rename_i a s
    have k := probeI (sa := a.sa) (s := s.ss) (l := a.l) (cs := [ptr a.pa.p, i64 s.tail, i64 s.n, slv a.rb s.ss.l.length]) (Y := [(a.rb, rows slRow s.places)]) (Z := []) methSlot t
    simp only [List.cons_append, List.nil_append, List.append_nil] at k
    simpa [Lk.blk, Lk.lock, Lk.unlock, Lk.probe, Lk.setS, Lk.ss, slotL, LkA.v] using k
  · rename_i a q s e
    have k := probeI (sa := a.sa) (s := s.ss) (l := a.l) (cs := [ptr a.pa.p, ptr a.pool, i64 s.tail, slv a.rb s.ss.l.length]) (Y := [(a.rb, rows abRow s.places)]) (Z := poolL a.pool q) methAbo t
    simp only [List.cons_append, List.nil_append, List.append_nil] at k
    simpa [Lk.blk, Lk.lock, Lk.unlock, Lk.probe, Lk.setS, Lk.ss, aboL, LkA.v] using k
  · rename_i a m s
    have k := probeI (sa := a.sa) (s := s.ss) (l := a.l) (cs := [ptr a.pa.p, i64 s.tail, .slice (some ⟨a.rb, 0, none⟩) s.ss.l.length a.rc]) (Y := [(a.rb, rows hiRow (s.places ++ m))]) (Z := []) methHie t
    simp only [List.cons_append, List.nil_append, List.append_nil] at k
    simpa [Lk.blk, Lk.lock, Lk.unlock, Lk.probe, Lk.setS, Lk.ss, hieL, JS.ext, LkA.v] using k
  · rename_i a s
    have k := probeI (sa := a.sa) (s := s.ss) (l := a.l) (cs := ptr a.pa.p :: i64 s.pass :: u32 s.budget :: a.glob.v :: (a.locs.map optV ++ [slv a.rb s.ss.l.length])) (Y := [(a.rb, rows coRow s.places)]) (Z := LI.blk a.glob s.glob ++ locsL a.locs s.locs) methCoh t
    simp only [List.cons_append, List.nil_append, List.append_nil] at k
    simpa [Lk.blk, Lk.lock, Lk.unlock, Lk.probe, Lk.setS, Lk.ss, cohL, LkA.v] using k
theorem Sp.perm {P : Program} {f : FuncId} {args : Array Value} {A A1 A' A1' : Blocks} {r : Value} (h : Sp P f args A r A') (p1 : A1.Perm A) (p2 : A'.Perm A1') : Sp P f args A1 r A1' := by
  intro w0 S w B H
  refine (h w0 S w B (H.perm (p1.append_right B))).mono ?_
  rintro e w' ⟨rfl, H'⟩
  exact ⟨rfl, H'.perm (p2.append_right B)⟩
theorem lkStep {a : LkA} {s : Lk} (h : Lk.good a s) {p : PS} (hp : p.wf) (t u now : Int) :
    SpI a.v "Step" #[i64 t, i64 u, i64 now] (Lk.blk a s ++ portL a.pa p) (didV (s.stepE p t u now)) (Lk.blk a (s.stepS p t u now) ++ portL a.pa (s.stepP p t u now)) := by
  cases a <;> cases s <;> try exact h.elim
  · exact liStep h.1 h.2 hp t u now
  · exact stepI methSlot (by kernel_rfl) (slotStep _ _ p h hp t u now)
  · rename_i a q s e
    obtain ⟨h1, h2, h3⟩ := h
    have hrow : s.ss.there t = true → q.row t = Lk.rowOf e t := fun ht => by
      obtain ⟨g1, g2⟩ := seat_there ht
      have := h1.row t.toNat (by omega)
      rw [Int.toNat_of_nonneg g1] at this
      exact this
    have k := aboStep a s q p ⟨h2, h1.wf, h1.len, fun t' hs h0 => by
      have ht' := state_there hs (by decide)
      have hb := (h3 t' ht').busy hs
      rw [h1.each]
      exact ⟨hb.2.1.1, hb.2.2 h0⟩⟩ hp t u now
    have e1 : s.stepE p t u now (q.row t) = s.stepE p t u now (Lk.rowOf e t) ∧ s.stepS p t u now (q.row t) = s.stepS p t u now (Lk.rowOf e t) ∧ s.stepP p t u (q.row t) = s.stepP p t u (Lk.rowOf e t) := by
      by_cases ht : s.ss.there t = true
      · rw [hrow ht]; exact ⟨rfl, rfl, rfl⟩
      · have h0 := SS.state_not ht
        simp [BS.stepE, BS.stepS, BS.stepI, BS.stepP, h0]
    rw [e1.1, e1.2.1, e1.2.2] at k
    refine stepI methAbo (by kernel_rfl) (k.perm ?_ ?_)
    · simp only [Lk.blk, List.append_assoc]; exact List.Perm.append_left _ List.perm_append_comm
    · simp only [Lk.blk, Lk.stepS, Lk.stepP, List.append_assoc]; exact List.Perm.append_left _ List.perm_append_comm
  · rename_i a m s
    have h' : s.places.length = s.ss.l.length := h
    have k := hieStep a (s.ext m) p (by simp [JS.wf, JS.ext, h']) hp t u now
    rw [JS.ext_stepE h', JS.ext_stepS h', JS.ext_stepP h'] at k
    exact stepI methHie (by kernel_rfl) k
  · exact stepI methCoh (by kernel_rfl) (cohStep _ _ p h.1 h.2.1 h.2.2 hp t u now)
end Go.Proofs.YtollfjfcdofbaaaGreat
