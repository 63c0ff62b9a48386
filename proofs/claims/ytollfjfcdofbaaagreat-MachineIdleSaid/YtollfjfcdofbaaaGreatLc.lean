/- The lock of locks: where it lies, what it holds, what its steps do. -/
import Derived.Test.YtollfjfcdofbaaaGreatLj
namespace Go.Proofs.YtollfjfcdofbaaaGreat
open Go Go.Proofs
set_option linter.unusedSimpArgs false
set_option linter.unusedVariables false
set_option maxRecDepth 100000
set_option maxHeartbeats 4000000

/-- what a context does next -/
def todoV : Nat → Value
  | 1 => .func (.func 178) #[] #[]
  | 2 => .func (.func 203) #[] #[]
  | 3 => .func (.func 219) #[] #[]
  | 4 => .func (.func 242) #[] #[]
  | 5 => .func (.func 177) #[] #[]
  | 6 => .func (.func 202) #[] #[]
  | 7 => .func (.func 218) #[] #[]
  | 8 => .func (.func 201) #[] #[]
  | 9 => .func (.func 217) #[] #[]
  | 10 => .func (.func 255) #[] #[]
  | _ => .nilFunc
structure CPl where
  node : Int
  inner : Int
  todo : Nat
  pass : Int
instance : Inhabited CPl := ⟨⟨0, 0, 0, 0⟩⟩
abbrev coRow (x : CPl) : List Value := [i64 x.node, i64 x.inner, todoV x.todo, u32 x.pass]
structure CA where
  l : Nat
  rb : Nat
  sa : SA
  pa : PA
  glob : LIA
  locs : List (Option LIA)
structure CS where
  ss : SS
  pass : Int
  budget : Int
  glob : LI
  locs : List (Option LI)
  places : List CPl
def optV : Option LIA → Value
  | some a => a.v
  | none => .nilIface
def locsL : List (Option LIA) → List (Option LI) → Blocks
  | some a :: A, some s :: S => LI.blk a s ++ locsL A S
  | _ :: A, _ :: S => locsL A S
  | _, _ => []
def fitsL : List (Option LIA) → List (Option LI) → Prop
  | some a :: A, some s :: S => (LI.fits a s ∧ s.wf) ∧ fitsL A S
  | none :: A, none :: S => fitsL A S
  | [], [] => True
  | _, _ => False
theorem fitsL_len : ∀ {A : List (Option LIA)} {S : List (Option LI)}, fitsL A S → A.length = S.length
  | [], [], _ => rfl
  | some _ :: A, some _ :: S, h => by simp [fitsL_len h.2]
  | none :: A, none :: S, h => by simp [fitsL_len (show fitsL A S from h)]
  | none :: _, some _ :: _, h => h.elim
  | some _ :: _, none :: _, h => h.elim
theorem locs_at : ∀ {A : List (Option LIA)} {S : List (Option LI)} {c : Nat} {s : LI}, fitsL A S → S[c]? = some (some s) →
    ∃ a X Y, A[c]? = some (some a) ∧ LI.fits a s ∧ s.wf ∧ (∀ s', locsL A (S.set c (some s')) = X ++ (LI.blk a s' ++ Y)) ∧ (∀ s', LI.fits a s' → s'.wf → fitsL A (S.set c (some s')))
  | some a :: A, some s :: S, 0, s1, h, hs => by
    simp only [List.getElem?_cons_zero, Option.some.injEq] at hs
    subst hs
    exact ⟨a, [], locsL A S, rfl, h.1.1, h.1.2, fun s' => rfl, fun s' h1 h2 => ⟨⟨h1, h2⟩, h.2⟩⟩
  | some a :: A, some s :: S, c + 1, s1, h, hs => by
    simp only [List.getElem?_cons_succ] at hs
    obtain ⟨a1, X, Y, h1, h2, h3, h4, h5⟩ := locs_at h.2 hs
    refine ⟨a1, LI.blk a s ++ X, Y, by simpa using h1, h2, h3, fun s' => ?_, fun s' k1 k2 => ⟨h.1, h5 s' k1 k2⟩⟩
    simp only [List.set_cons_succ, locsL, h4, List.append_assoc]
  | none :: A, none :: S, 0, s1, h, hs => by simp at hs
  | none :: A, none :: S, c + 1, s1, h, hs => by
    simp only [List.getElem?_cons_succ] at hs
    obtain ⟨a1, X, Y, h1, h2, h3, h4, h5⟩ := locs_at (A := A) (S := S) h hs
    refine ⟨a1, X, Y, by simpa using h1, h2, h3, fun s' => ?_, fun s' k1 k2 => h5 s' k1 k2⟩
    simp only [List.set_cons_succ, locsL, h4]
  | none :: _, some _ :: _, _, _, h, _ => h.elim
  | some _ :: _, none :: _, _, _, h, _ => h.elim
  | [], [], _, _, _, hs => by simp at hs
theorem locs_same {S : List (Option LI)} {c : Nat} {s : LI} (h : S[c]? = some (some s)) : S.set c (some s) = S := by
  obtain ⟨h1, h2⟩ := List.getElem?_eq_some_iff.1 h
  rw [← h2]; exact List.set_getElem_self h1
def cohL (a : CA) (s : CS) : Blocks :=
  (a.l, ptr a.sa.s :: ptr a.pa.p :: i64 s.pass :: u32 s.budget :: a.glob.v :: (a.locs.map optV ++ [slv a.rb s.ss.l.length])) :: (a.rb, rows coRow s.places) ::
    (seatL a.sa s.ss ++ (LI.blk a.glob s.glob ++ locsL a.locs s.locs))
namespace CS
def pl (s : CS) (t : Int) : CPl := s.places.getD t.toNat default
def put (s : CS) (t : Int) (x : CPl) : CS := { s with places := s.places.set t.toNat x }
def todo (s : CS) (t : Int) (k : Nat) : CS := s.put t { s.pl t with todo := k }
def noLock : LI := .mcs ⟨⟨[], false, false⟩, 0, []⟩
/-- the local lock of a context -/
def loc (s : CS) (t : Int) : LI := ((s.locs.getD (s.pl t).node.toNat none).getD noLock)
def setLoc (s : CS) (t : Int) (x : LI) : CS := { s with locs := s.locs.set (s.pl t).node.toNat (some x) }
def at_ (s : CS) (t : Int) : Int := IntKind.i64.wrap (s.pass + (s.pl t).node)
structure ok (s : CS) : Prop where
  len : s.places.length = s.ss.l.length
  eight : s.locs.length = 8
  node : ∀ t, s.ss.there t = true → (0 ≤ (s.pl t).node ∧ (s.pl t).node < 8) ∧ ∃ x, s.locs[(s.pl t).node.toNat]? = some (some x)
structure fits (a : CA) (s : CS) : Prop where
  glob : LI.fits a.glob s.glob
  gwf : s.glob.wf
  locs : fitsL a.locs s.locs
  pg : a.glob.pa = a.pa
  pl : ∀ x ∈ a.locs, ∀ y, x = some y → y.pa = a.pa
/-- a step by what is to be done: what it did, what it leaves -/
def away (s : CS) (t : Int) : CS := (s.setLoc t ((s.loc t).setS ((s.loc t).ss.unlock (s.pl t).inner))).todo t 10
def doE (s : CS) (p : PS) (t u : Int) : Nat → Dd
  | 1 => { ev := 0, enq := ((s.loc t).stepE p (s.pl t).inner u).enq }
  | 2 => if p.loadV u (s.at_ t) = 0 then { ev := 0 } else { ev := 1 }
  | 3 => { ev := 0, arr := (s.glob.stepE p (s.pl t).node u).enq }
  | 4 => { ev := 1, lead := true }
  | 10 => { ev := ((s.loc t).stepE p (s.pl t).inner u).ev }
  | _ => { ev := 0 }
def doS (s : CS) (p : PS) (t u : Int) : Nat → CS
  | 1 => if ((s.loc t).stepE p (s.pl t).inner u).ev = 1 then (s.setLoc t ((s.loc t).stepS p (s.pl t).inner u)).todo t 2 else s.setLoc t ((s.loc t).stepS p (s.pl t).inner u)
  | 2 => if p.loadV u (s.at_ t) = 0 then { s with glob := s.glob.setS (s.glob.ss.lock (s.pl t).node (-1)) }.todo t 3 else s
  | 3 => if (s.glob.stepE p (s.pl t).node u).ev = 1 then { s with glob := s.glob.stepS p (s.pl t).node u }.todo t 4 else { s with glob := s.glob.stepS p (s.pl t).node u }
  | 4 => s
  | 5 => if p.loadV u (s.at_ t) < s.budget then (s.setLoc t ((s.loc t).setS ((s.loc t).ss.probe (s.pl t).inner))).put t { s.pl t with pass := p.loadV u (s.at_ t), todo := 6 }
      else s.put t { s.pl t with pass := p.loadV u (s.at_ t), todo := 8 }
  | 6 => if ((s.loc t).stepE p (s.pl t).inner u).ev = 5 then (s.setLoc t ((s.loc t).stepS p (s.pl t).inner u)).todo t 7 else (s.setLoc t ((s.loc t).stepS p (s.pl t).inner u)).todo t 8
  | 7 => s.away t
  | 8 => { s with glob := s.glob.setS (s.glob.ss.unlock (s.pl t).node) }.todo t 9
  | 9 => if (s.glob.stepE p (s.pl t).node u).ev = 3 then { s with glob := s.glob.stepS p (s.pl t).node u }.away t else { s with glob := s.glob.stepS p (s.pl t).node u }
  | 10 => s.setLoc t ((s.loc t).stepS p (s.pl t).inner u)
  | _ => s
def doP (s : CS) (p : PS) (t u : Int) : Nat → PS
  | 1 => (s.loc t).stepP p (s.pl t).inner u
  | 2 => p.load u (s.at_ t)
  | 3 => s.glob.stepP p (s.pl t).node u
  | 4 => p.store u (s.at_ t) 1
  | 5 => p.load u (s.at_ t)
  | 6 => (s.loc t).stepP p (s.pl t).inner u
  | 7 => p.store u (s.at_ t) (IntKind.u32.wrap ((s.pl t).pass + 1))
  | 8 => p.store u (s.at_ t) 0
  | 9 => s.glob.stepP p (s.pl t).node u
  | 10 => (s.loc t).stepP p (s.pl t).inner u
  | _ => p
/-- what a call begins with -/
def begin (s : CS) (t : Int) : CS := if s.ss.state t = 3 then s.todo t 5 else (s.setLoc t ((s.loc t).setS ((s.loc t).ss.lock (s.pl t).inner (-1)))).todo t 1
def pre (s : CS) (t : Int) : CS := if (s.pl t).todo = 0 then s.begin t else s
def busy (s : CS) (t : Int) : Prop := s.ss.state t = 1 ∨ s.ss.state t = 3
instance (s : CS) (t : Int) : Decidable (s.busy t) := by unfold busy; exact inferInstance
def stepE (s : CS) (p : PS) (t u : Int) : Dd := if s.busy t then (s.pre t).doE p t u ((s.pre t).pl t).todo else { ev := 0 }
def endS (s : CS) (t ev : Int) : CS := if s.ss.endB t ev = true then { s.todo t 0 with ss := s.ss.end_ t ev } else s
def stepS (s : CS) (p : PS) (t u : Int) : CS := if s.busy t then ((s.pre t).doS p t u ((s.pre t).pl t).todo).endS t (s.stepE p t u).ev else s
def stepP (s : CS) (p : PS) (t u : Int) : PS := if s.busy t then (s.pre t).doP p t u ((s.pre t).pl t).todo else p
end CS
/-- two parts of what is owned, apart -/
theorem two_perm (X A1 Y A2 Z : Blocks) : (X ++ (A1 ++ (Y ++ (A2 ++ Z)))).Perm (A1 ++ (A2 ++ (X ++ (Y ++ Z)))) := by
  refine (mid_perm X A1 (Y ++ (A2 ++ Z))).trans (List.Perm.append_left A1 ?_)
  refine (List.Perm.append_left X (mid_perm Y A2 Z)).trans ?_
  exact mid_perm X A2 (Y ++ Z)
theorem SpI.go2 {v : Value} {name : String} {args : Array Value} {A1 A2 A1' A2' : Blocks} {r : Value} {w0 w : World} {S : List Nat} {L : Blocks} {K : Ending → World → Prop}
    (h : SpI v name args (A1 ++ A2) r (A1' ++ A2')) (H : St w0 S w L) (X Y Z : Blocks) (hL : L = X ++ (A1 ++ (Y ++ (A2 ++ Z)))) (k : ∀ w', St w0 S w' (X ++ (A1' ++ (Y ++ (A2' ++ Z)))) → K (.returned r) w') : Invoke Tryz.prog v name args w K := by
  subst hL
  have H2 := H.perm (two_perm X A1 Y A2 Z)
  refine h.go H2 [] (X ++ (Y ++ Z)) (by simp) (fun w' H' => k w' ?_)
  exact (H'.to (by simp)).perm (two_perm X A1' Y A2' Z).symm
theorem optV_eq {A : List (Option LIA)} {c : Nat} {a : LIA} (h : A[c]? = some (some a)) : (A.map optV)[c]? = some a.v := by simp [h, optV]
end Go.Proofs.YtollfjfcdofbaaaGreat
