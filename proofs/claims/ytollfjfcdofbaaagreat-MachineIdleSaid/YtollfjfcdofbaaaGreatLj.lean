/- The locks that may stand in another one, as one type: where they lie, what they hold, what their methods do. -/
import Derived.Test.YtollfjfcdofbaaaGreatLi
namespace Go.Proofs.YtollfjfcdofbaaaGreat
open Go Go.Proofs
set_option linter.unusedSimpArgs false
set_option linter.unusedVariables false
set_option maxRecDepth 100000
set_option maxHeartbeats 4000000

theorem getD_app {α : Type} {xs m : List α} {i : Nat} {d : α} (h : i < xs.length) : (xs ++ m).getD i d = xs.getD i d := by
  simp [List.getD_eq_getElem?_getD, List.getElem?_append_left h]
theorem set_app {α : Type} {xs m : List α} {i : Nat} {y : α} (h : i < xs.length) : (xs ++ m).set i y = xs.set i y ++ m := List.set_append_left _ _ h
/-! ## more room behind the places -/
def HS.ext (s : HS) (m : List (Int × Int × Int)) : HS := { s with places := s.places ++ m }
def JS.ext (s : JS) (m : List HiPl) : JS := { s with places := s.places ++ m }
section
variable {s : HS} {m : List (Int × Int × Int)} {p : PS} {t u : Int}
theorem HS.ext_pl (h : t.toNat < s.places.length) : (s.ext m).pl t = s.pl t := getD_app h
theorem HS.ext_put (h : t.toNat < s.places.length) (x) : (s.ext m).put t x = (s.put t x).ext m := by simp [HS.ext, HS.put, set_app h]
theorem HS.ext_stepE (hl : s.places.length = s.ss.l.length) : (s.ext m).stepE p t u = s.stepE p t u := by
  by_cases h : s.ss.there t = true
  · have h2 := seat_there h
    have h3 : t.toNat < s.places.length := by omega
    simp only [HS.stepE, HS.lockD, HS.ext_pl h3]; rfl
  · have h0 : s.ss.state t = 0 := by simp [SS.state, h]
    simp [HS.stepE, HS.ext, h0]
theorem HS.ext_stepP (hl : s.places.length = s.ss.l.length) : (s.ext m).stepP p t u = s.stepP p t u := by
  by_cases h : s.ss.there t = true
  · have h2 := seat_there h
    have h3 : t.toNat < s.places.length := by omega
    simp only [HS.stepP, HS.lockP, HS.ext_pl h3]; rfl
  · have h0 : s.ss.state t = 0 := by simp [SS.state, h]
    simp [HS.stepP, HS.ext, h0]
theorem HS.ext_stepS (hl : s.places.length = s.ss.l.length) : (s.ext m).stepS p t u = (s.stepS p t u).ext m := by
  by_cases h : s.ss.there t = true
  · have h2 := seat_there h
    have h3 : t.toNat < s.places.length := by omega
    have e : (s.ext m).stepI p t u = (s.stepI p t u).ext m := by
      simp only [HS.stepI, HS.lockS, HS.ext_pl h3, HS.ext_put h3]
      repeat' split
      all_goals first | rfl | (exfalso; simp_all [HS.ext])
    unfold HS.stepS
    rw [e, HS.ext_stepE hl]; rfl
  · have h0 : s.ss.state t = 0 := by simp [SS.state, h]
    unfold HS.stepS
    rw [HS.ext_stepE hl]
    simp [HS.stepI, HS.ext, h0]
theorem HS.stepS_len : (s.stepS p t u).places.length = s.places.length := by
  unfold HS.stepS HS.stepI HS.lockS
  repeat' split
  all_goals simp [HS.put]
theorem HS.stepS_ssl : (s.stepS p t u).ss.l.length = s.ss.l.length := by
  unfold HS.stepS HS.stepI HS.lockS
  repeat' split
  all_goals simp [HS.put]
end
section
variable {s : JS} {m : List HiPl} {p : PS} {t u : Int}
theorem JS.ext_ite (c : Prop) [Decidable c] (a b : JS) : (if c then a else b).ext m = if c then a.ext m else b.ext m := by split <;> rfl
theorem JS.ext_pl (h : t.toNat < s.places.length) : (s.ext m).pl t = s.pl t := getD_app h
theorem JS.ext_put (h : t.toNat < s.places.length) (x) : (s.ext m).put t x = (s.put t x).ext m := by simp [JS.ext, JS.put, set_app h]
theorem JS.ext_stepE (hl : s.places.length = s.ss.l.length) : (s.ext m).stepE p t u = s.stepE p t u := by
  by_cases h : s.ss.there t = true
  · have h2 := seat_there h
    have h3 : t.toNat < s.places.length := by omega
    simp only [JS.stepE, JS.lockD, JS.unE, JS.step, JS.ahead, JS.cluster, JS.node, JS.word, JS.ext_pl h3]; rfl
  · have h0 : s.ss.state t = 0 := by simp [SS.state, h]
    simp [JS.stepE, JS.ext, h0]
theorem JS.ext_stepP (hl : s.places.length = s.ss.l.length) : (s.ext m).stepP p t u = s.stepP p t u := by
  by_cases h : s.ss.there t = true
  · have h2 := seat_there h
    have h3 : t.toNat < s.places.length := by omega
    simp only [JS.stepP, JS.lockP, JS.unP, JS.own, JS.last, JS.step, JS.ahead, JS.cluster, JS.node, JS.word, JS.ext_pl h3]; rfl
  · have h0 : s.ss.state t = 0 := by simp [SS.state, h]
    simp [JS.stepP, JS.ext, h0]
theorem JS.ext_stepS (hl : s.places.length = s.ss.l.length) : (s.ext m).stepS p t u = (s.stepS p t u).ext m := by
  by_cases h : s.ss.there t = true
  · have h2 := seat_there h
    have h3 : t.toNat < s.places.length := by omega
    have e1 : (s.ext m).lockS p t u = (s.lockS p t u).ext m := by
      have hat : ∀ x, (s.ext m).at_ x = s.at_ x := fun _ => rfl
      have htl : (s.ext m).tail = s.tail := rfl
      have h_cluster : (s.ext m).cluster t = s.cluster t := by simp only [JS.own, JS.cluster, JS.cluster, JS.ext_pl h3]
      have h_node : (s.ext m).node t = s.node t := by simp only [JS.own, JS.node, JS.cluster, JS.ext_pl h3]
      have h_ahead : (s.ext m).ahead t = s.ahead t := by simp only [JS.own, JS.ahead, JS.cluster, JS.ext_pl h3]
      have h_last : (s.ext m).last t = s.last t := by simp only [JS.own, JS.last, JS.cluster, JS.ext_pl h3]
      have h_word : (s.ext m).word t = s.word t := by simp only [JS.own, JS.word, JS.cluster, JS.ext_pl h3]
      have h_step : (s.ext m).step t = s.step t := by simp only [JS.own, JS.step, JS.cluster, JS.ext_pl h3]
      have h_own : (s.ext m).own t = s.own t := by simp only [JS.own, JS.own, JS.cluster, JS.ext_pl h3]; rfl
      simp only [JS.lockS, JS.pStep, h_cluster, h_node, h_ahead, h_last, h_word, h_step, h_own, JS.ext_put h3, hat, htl, JS.ext_ite]
    have e2 : (s.ext m).unS p t u = (s.unS p t u).ext m := by
      have hat : ∀ x, (s.ext m).at_ x = s.at_ x := fun _ => rfl
      have htl : (s.ext m).tail = s.tail := rfl
      have h_cluster : (s.ext m).cluster t = s.cluster t := by simp only [JS.own, JS.cluster, JS.cluster, JS.ext_pl h3]
      have h_node : (s.ext m).node t = s.node t := by simp only [JS.own, JS.node, JS.cluster, JS.ext_pl h3]
      have h_ahead : (s.ext m).ahead t = s.ahead t := by simp only [JS.own, JS.ahead, JS.cluster, JS.ext_pl h3]
      have h_last : (s.ext m).last t = s.last t := by simp only [JS.own, JS.last, JS.cluster, JS.ext_pl h3]
      have h_word : (s.ext m).word t = s.word t := by simp only [JS.own, JS.word, JS.cluster, JS.ext_pl h3]
      have h_step : (s.ext m).step t = s.step t := by simp only [JS.own, JS.step, JS.cluster, JS.ext_pl h3]
      have h_own : (s.ext m).own t = s.own t := by simp only [JS.own, JS.own, JS.cluster, JS.ext_pl h3]; rfl
      simp only [JS.unS, JS.pStep, h_cluster, h_node, h_ahead, h_last, h_word, h_step, h_own, JS.ext_put h3, hat, htl, JS.ext_ite]
    have e : (s.ext m).stepI p t u = (s.stepI p t u).ext m := by
      simp only [JS.stepI, e1, e2]
      repeat' split
      all_goals first | rfl | (exfalso; simp_all [JS.ext]; done)
    unfold JS.stepS
    rw [e, JS.ext_stepE hl]; rfl
  · have h0 : s.ss.state t = 0 := by simp [SS.state, h]
    unfold JS.stepS
    rw [JS.ext_stepE hl]
    simp [JS.stepI, JS.ext, h0]
theorem JS.stepS_len : (s.stepS p t u).places.length = s.places.length := by
  unfold JS.stepS JS.stepI
  split
  · exact (hie_lockS s p t u).2.1
  · split
    · exact (hie_unS s p t u).2.1
    · rfl
theorem JS.stepS_ssl : (s.stepS p t u).ss.l.length = s.ss.l.length := by simp [JS.stepS]
end
theorem FS.stepS_wf {s : FS} {p : PS} {t u : Int} (h : s.wf) : (s.stepS p t u).wf := by
  have e := stepI_ss s p t u
  refine ⟨?_, ?_⟩
  · simp only [FS.stepS, end_len, e, FS.stepI, FS.lockS]
    repeat' split
    all_goals simp [h.numbers]
  · simp only [FS.stepS, end_len, e, FS.stepI, FS.lockS]
    repeat' split
    all_goals simp [h.drew]
theorem FS.stepS_ssl {s : FS} {p : PS} {t u : Int} : (s.stepS p t u).ss.l.length = s.ss.l.length := by simp [FS.stepS, stepI_ss]
theorem IS.stepI_ss (s : IS) (p : PS) (t u : Int) : (s.stepI p t u).ss = s.ss ∧ (s.stepI p t u).places.length = s.places.length := by
  unfold IS.stepI; split
  · exact ⟨mcs_lockS_ss .., mcs_lockS_len ..⟩
  · split
    · exact ⟨mcs_unS_ss .., mcs_unS_len ..⟩
    · exact ⟨rfl, rfl⟩
theorem IS.stepS_ssl {s : IS} {p : PS} {t u : Int} : (s.stepS p t u).ss.l.length = s.ss.l.length := by
  unfold IS.stepS; split <;> simp [(IS.stepI_ss s p t u).1]
theorem IS.stepS_wf {s : IS} {p : PS} {t u : Int} (h : s.wf) : (s.stepS p t u).wf := by
  unfold IS.wf at *
  rw [IS.stepS_ssl]
  unfold IS.stepS; split <;> simp [IS.put, (IS.stepI_ss s p t u).2, h]

inductive LI where
  | tic (s : FS) | clh (s : HS) | mcs (s : IS)
inductive LIA where
  | tic (a : FA) | clh (a : HA) (m : List (Int × Int × Int)) | mcs (a : IA)
namespace LI
def ss : LI → SS
  | .tic s => s.ss | .clh s => s.ss | .mcs s => s.ss
def setS : LI → SS → LI
  | .tic s, x => .tic { s with ss := x } | .clh s, x => .clh { s with ss := x } | .mcs s, x => .mcs { s with ss := x }
def wf : LI → Prop
  | .tic s => s.wf | .clh s => s.places.length = s.ss.l.length | .mcs s => s.wf
def stepE : LI → PS → Int → Int → Dd
  | .tic s, p, t, u => s.stepE p t u | .clh s, p, t, u => s.stepE p t u | .mcs s, p, t, u => s.stepE p t u
def stepS : LI → PS → Int → Int → LI
  | .tic s, p, t, u => .tic (s.stepS p t u) | .clh s, p, t, u => .clh (s.stepS p t u) | .mcs s, p, t, u => .mcs (s.stepS p t u)
def stepP : LI → PS → Int → Int → PS
  | .tic s, p, t, u => s.stepP p t u | .clh s, p, t, u => s.stepP p t u | .mcs s, p, t, u => s.stepP p t u
def fits : LIA → LI → Prop
  | .tic _, .tic _ => True | .clh _ _, .clh _ => True | .mcs _, .mcs _ => True | _, _ => False
def blk : LIA → LI → Blocks
  | .tic a, .tic s => flatL a s | .clh a m, .clh s => clhL a (s.ext m) | .mcs a, .mcs s => mcsL a s | _, _ => []
theorem setS_wf {s : LI} (h : s.wf) {x : SS} (hx : x.l.length = s.ss.l.length) : (s.setS x).wf := by
  cases s with
  | tic s => exact ⟨h.numbers.trans hx.symm, h.drew.trans hx.symm⟩
  | clh s => exact Eq.trans h hx.symm
  | mcs s => exact Eq.trans h hx.symm
@[simp] theorem setS_ss (s : LI) (x : SS) : (s.setS x).ss = x := by cases s <;> rfl
@[simp] theorem stepS_ssl (s : LI) (p : PS) (t u : Int) : (s.stepS p t u).ss.l.length = s.ss.l.length := by
  cases s with
  | tic s => exact FS.stepS_ssl
  | clh s => exact HS.stepS_ssl
  | mcs s => exact IS.stepS_ssl
theorem stepS_wf {s : LI} (h : s.wf) (p : PS) (t u : Int) : (s.stepS p t u).wf := by
  cases s with
  | tic s => exact FS.stepS_wf h
  | clh s => exact HS.stepS_len.trans (Eq.trans h HS.stepS_ssl.symm)
  | mcs s => exact IS.stepS_wf h
theorem fits_setS {a : LIA} {s : LI} (h : fits a s) (x : SS) : fits a (s.setS x) := by cases a <;> cases s <;> exact h
theorem fits_stepS {a : LIA} {s : LI} (h : fits a s) (p : PS) (t u : Int) : fits a (s.stepS p t u) := by cases a <;> cases s <;> exact h
end LI
namespace LIA
def v : LIA → Value
  | .tic a => .iface 249 (ptr a.l) | .clh a _ => .iface 252 (ptr a.l) | .mcs a => .iface 255 (ptr a.l)
def pa : LIA → PA
  | .tic a => a.pa | .clh a _ => a.pa | .mcs a => a.pa
end LIA
section
variable {a : LIA} {s : LI}
theorem liLen (hf : LI.fits a s) : SpI a.v "Len" #[] (LI.blk a s) (i64 s.ss.l.length) (LI.blk a s) := by
  cases a with
  | tic a => cases s with
    | tic s =>
      have h := lenI (sa := a.sa) (s := s.ss) (l := a.l) (cs := [ptr a.pa.p, i64 s.next, i64 s.owner, slv a.nb s.ss.l.length, slv a.db s.ss.l.length]) (Y := [(a.nb, ints .u32 s.numbers), (a.db, bools s.drew)]) (Z := []) methFlat 
      simp only [List.cons_append, List.nil_append, List.append_nil] at h
      simpa [LI.blk, LI.setS, LI.ss, flatL, LIA.v] using h
    | clh s => exact hf.elim
    | mcs s => exact hf.elim
  | clh a m => cases s with
    | tic s => exact hf.elim
    | clh s =>
      have h := lenI (sa := a.sa) (s := s.ss) (l := a.l) (cs := [ptr a.pa.p, i64 s.tail, .slice (some ⟨a.rb, 0, none⟩) s.ss.l.length a.rc]) (Y := [(a.rb, rows clRow (s.places ++ m))]) (Z := []) methClh 
      simp only [List.cons_append, List.nil_append, List.append_nil] at h
      simpa [LI.blk, LI.setS, LI.ss, clhL, HS.ext, LIA.v] using h
    | mcs s => exact hf.elim
  | mcs a => cases s with
    | tic s => exact hf.elim
    | clh s => exact hf.elim
    | mcs s =>
      have h := lenI (sa := a.sa) (s := s.ss) (l := a.l) (cs := [ptr a.pa.p, i64 s.tail, slv a.rb s.ss.l.length]) (Y := [(a.rb, rows mcRow s.places)]) (Z := []) methMcs 
      simp only [List.cons_append, List.nil_append, List.append_nil] at h
      simpa [LI.blk, LI.setS, LI.ss, mcsL, LIA.v] using h
theorem liState (hf : LI.fits a s) (t : Int) : SpI a.v "State" #[i64 t] (LI.blk a s) (i64 (s.ss.state t)) (LI.blk a s) := by
  cases a with
  | tic a => cases s with
    | tic s =>
      have h := stateI (sa := a.sa) (s := s.ss) (l := a.l) (cs := [ptr a.pa.p, i64 s.next, i64 s.owner, slv a.nb s.ss.l.length, slv a.db s.ss.l.length]) (Y := [(a.nb, ints .u32 s.numbers), (a.db, bools s.drew)]) (Z := []) methFlat t
      simp only [List.cons_append, List.nil_append, List.append_nil] at h
      simpa [LI.blk, LI.setS, LI.ss, flatL, LIA.v] using h
    | clh s => exact hf.elim
    | mcs s => exact hf.elim
  | clh a m => cases s with
    | tic s => exact hf.elim
    | clh s =>
      have h := stateI (sa := a.sa) (s := s.ss) (l := a.l) (cs := [ptr a.pa.p, i64 s.tail, .slice (some ⟨a.rb, 0, none⟩) s.ss.l.length a.rc]) (Y := [(a.rb, rows clRow (s.places ++ m))]) (Z := []) methClh t
      simp only [List.cons_append, List.nil_append, List.append_nil] at h
      simpa [LI.blk, LI.setS, LI.ss, clhL, HS.ext, LIA.v] using h
    | mcs s => exact hf.elim
  | mcs a => cases s with
    | tic s => exact hf.elim
    | clh s => exact hf.elim
    | mcs s =>
      have h := stateI (sa := a.sa) (s := s.ss) (l := a.l) (cs := [ptr a.pa.p, i64 s.tail, slv a.rb s.ss.l.length]) (Y := [(a.rb, rows mcRow s.places)]) (Z := []) methMcs t
      simp only [List.cons_append, List.nil_append, List.append_nil] at h
      simpa [LI.blk, LI.setS, LI.ss, mcsL, LIA.v] using h
theorem liLock (hf : LI.fits a s) (t d : Int) : SpI a.v "Lock" #[i64 t, i64 d] (LI.blk a s) (i64 (s.ss.lockE t d)) (LI.blk a (s.setS (s.ss.lock t d))) := by
  cases a with
  | tic a => cases s with
    | tic s =>
      have h := lockI (sa := a.sa) (s := s.ss) (l := a.l) (cs := [ptr a.pa.p, i64 s.next, i64 s.owner, slv a.nb s.ss.l.length, slv a.db s.ss.l.length]) (Y := [(a.nb, ints .u32 s.numbers), (a.db, bools s.drew)]) (Z := []) methFlat t d
      simp only [List.cons_append, List.nil_append, List.append_nil] at h
      simpa [LI.blk, LI.setS, LI.ss, flatL, LIA.v] using h
    | clh s => exact hf.elim
    | mcs s => exact hf.elim
  | clh a m => cases s with
    | tic s => exact hf.elim
    | clh s =>
      have h := lockI (sa := a.sa) (s := s.ss) (l := a.l) (cs := [ptr a.pa.p, i64 s.tail, .slice (some ⟨a.rb, 0, none⟩) s.ss.l.length a.rc]) (Y := [(a.rb, rows clRow (s.places ++ m))]) (Z := []) methClh t d
      simp only [List.cons_append, List.nil_append, List.append_nil] at h
      simpa [LI.blk, LI.setS, LI.ss, clhL, HS.ext, LIA.v] using h
    | mcs s => exact hf.elim
  | mcs a => cases s with
    | tic s => exact hf.elim
    | clh s => exact hf.elim
    | mcs s =>
      have h := lockI (sa := a.sa) (s := s.ss) (l := a.l) (cs := [ptr a.pa.p, i64 s.tail, slv a.rb s.ss.l.length]) (Y := [(a.rb, rows mcRow s.places)]) (Z := []) methMcs t d
      simp only [List.cons_append, List.nil_append, List.append_nil] at h
      simpa [LI.blk, LI.setS, LI.ss, mcsL, LIA.v] using h
theorem liUnlock (hf : LI.fits a s) (t : Int) : SpI a.v "Unlock" #[i64 t] (LI.blk a s) (i64 (s.ss.holds t)) (LI.blk a (s.setS (s.ss.unlock t))) := by
  cases a with
  | tic a => cases s with
    | tic s =>
      have h := unlockI (sa := a.sa) (s := s.ss) (l := a.l) (cs := [ptr a.pa.p, i64 s.next, i64 s.owner, slv a.nb s.ss.l.length, slv a.db s.ss.l.length]) (Y := [(a.nb, ints .u32 s.numbers), (a.db, bools s.drew)]) (Z := []) methFlat t
      simp only [List.cons_append, List.nil_append, List.append_nil] at h
      simpa [LI.blk, LI.setS, LI.ss, flatL, LIA.v] using h
    | clh s => exact hf.elim
    | mcs s => exact hf.elim
  | clh a m => cases s with
    | tic s => exact hf.elim
    | clh s =>
      have h := unlockI (sa := a.sa) (s := s.ss) (l := a.l) (cs := [ptr a.pa.p, i64 s.tail, .slice (some ⟨a.rb, 0, none⟩) s.ss.l.length a.rc]) (Y := [(a.rb, rows clRow (s.places ++ m))]) (Z := []) methClh t
      simp only [List.cons_append, List.nil_append, List.append_nil] at h
      simpa [LI.blk, LI.setS, LI.ss, clhL, HS.ext, LIA.v] using h
    | mcs s => exact hf.elim
  | mcs a => cases s with
    | tic s => exact hf.elim
    | clh s => exact hf.elim
    | mcs s =>
      have h := unlockI (sa := a.sa) (s := s.ss) (l := a.l) (cs := [ptr a.pa.p, i64 s.tail, slv a.rb s.ss.l.length]) (Y := [(a.rb, rows mcRow s.places)]) (Z := []) methMcs t
      simp only [List.cons_append, List.nil_append, List.append_nil] at h
      simpa [LI.blk, LI.setS, LI.ss, mcsL, LIA.v] using h
theorem liProbe (hf : LI.fits a s) (t : Int) : SpI a.v "Probe" #[i64 t] (LI.blk a s) (i64 (s.ss.probeE t)) (LI.blk a (s.setS (s.ss.probe t))) := by
  cases a with
  | tic a => cases s with
    | tic s =>
      have h := probeI (sa := a.sa) (s := s.ss) (l := a.l) (cs := [ptr a.pa.p, i64 s.next, i64 s.owner, slv a.nb s.ss.l.length, slv a.db s.ss.l.length]) (Y := [(a.nb, ints .u32 s.numbers), (a.db, bools s.drew)]) (Z := []) methFlat t
      simp only [List.cons_append, List.nil_append, List.append_nil] at h
      simpa [LI.blk, LI.setS, LI.ss, flatL, LIA.v] using h
    | clh s => exact hf.elim
    | mcs s => exact hf.elim
  | clh a m => cases s with
    | tic s => exact hf.elim
    | clh s =>
      have h := probeI (sa := a.sa) (s := s.ss) (l := a.l) (cs := [ptr a.pa.p, i64 s.tail, .slice (some ⟨a.rb, 0, none⟩) s.ss.l.length a.rc]) (Y := [(a.rb, rows clRow (s.places ++ m))]) (Z := []) methClh t
      simp only [List.cons_append, List.nil_append, List.append_nil] at h
      simpa [LI.blk, LI.setS, LI.ss, clhL, HS.ext, LIA.v] using h
    | mcs s => exact hf.elim
  | mcs a => cases s with
    | tic s => exact hf.elim
    | clh s => exact hf.elim
    | mcs s =>
      have h := probeI (sa := a.sa) (s := s.ss) (l := a.l) (cs := [ptr a.pa.p, i64 s.tail, slv a.rb s.ss.l.length]) (Y := [(a.rb, rows mcRow s.places)]) (Z := []) methMcs t
      simp only [List.cons_append, List.nil_append, List.append_nil] at h
      simpa [LI.blk, LI.setS, LI.ss, mcsL, LIA.v] using h
theorem liStep (hf : LI.fits a s) (hs : s.wf) {p : PS} (hp : p.wf) (t u now : Int) :
    SpI a.v "Step" #[i64 t, i64 u, i64 now] (LI.blk a s ++ portL a.pa p) (didV (s.stepE p t u)) (LI.blk a (s.stepS p t u) ++ portL a.pa (s.stepP p t u)) := by
  cases a with
  | tic a => cases s with
    | tic s => exact stepI methFlat (by kernel_rfl) (flatStep a s p hs hp t u now)
    | clh s => exact hf.elim
    | mcs s => exact hf.elim
  | clh a m => cases s with
    | tic s => exact hf.elim
    | clh s =>
      have h := clhStep a (s.ext m) p (by have : s.places.length = s.ss.l.length := hs; simp [HS.wf, HS.ext, this]) hp t u now
      rw [HS.ext_stepE hs, HS.ext_stepS hs, HS.ext_stepP hs] at h
      exact stepI methClh (by kernel_rfl) h
    | mcs s => exact hf.elim
  | mcs a => cases s with
    | tic s => exact hf.elim
    | clh s => exact hf.elim
    | mcs s => exact stepI methMcs (by kernel_rfl) (mcsStep a s p hs hp t u now)
end
theorem FS.stepP_wf {s : FS} {p : PS} (h : p.wf) (t u : Int) : (s.stepP p t u).wf := by
  unfold FS.stepP FS.lockP
  repeat' split
  all_goals first | exact h | exact PS.load_wf h _ _ | exact PS.store_wf h _ _ _ | exact PS.add_wf h _ _ _
theorem HS.stepP_wf {s : HS} {p : PS} (h : p.wf) (t u : Int) : (s.stepP p t u).wf := by
  unfold HS.stepP HS.lockP
  repeat' split
  all_goals first | exact h | exact PS.load_wf h _ _ | exact PS.store_wf h _ _ _ | exact PS.add_wf h _ _ _
theorem IS.stepP_wf {s : IS} {p : PS} (h : p.wf) (t u : Int) : (s.stepP p t u).wf := by
  unfold IS.stepP IS.lockP IS.unP
  repeat' split
  all_goals first | exact h | exact PS.load_wf h _ _ | exact PS.store_wf h _ _ _ | exact PS.cas_wf h _ _ _ _
theorem LI.stepP_wf {s : LI} {p : PS} (h : p.wf) (t u : Int) : (s.stepP p t u).wf := by
  cases s with
  | tic s => exact FS.stepP_wf h t u
  | clh s => exact HS.stepP_wf h t u
  | mcs s => exact IS.stepP_wf h t u
end Go.Proofs.YtollfjfcdofbaaaGreat
