/- Calls through an interface: the methods of the locks. -/
import Derived.Test.YtollfjfcdofbaaaGreatFb
namespace Go.Proofs.YtollfjfcdofbaaaGreat
open Go Go.Proofs
set_option linter.unusedSimpArgs false
set_option linter.unusedVariables false
set_option maxRecDepth 100000
set_option maxHeartbeats 4000000

/-- the methods of a lock that are its seats' -/
structure SeatM where
  (len lock unlock probe state : Nat)
/-- what a lock's type tells of its methods -/
structure Meth (ty step use : Nat) : Prop where
  step : ∀ (l : Nat) (w : World), (method (Tryz.prog.types.size + Made.depth) ty (ptr l) "Step").run Tryz.prog w = .ok (step, ptr l) w
  use : ∀ (l : Nat) (w : World), (method (Tryz.prog.types.size + Made.depth) ty (ptr l) "Use").run Tryz.prog w = .ok (use, ptr l) w
  len : ∀ (l : Nat) (w : World), (method (Tryz.prog.types.size + Made.depth) ty (ptr l) "Len").run Tryz.prog w = (do let v ← loadVar 48 ⟨l, 0, none⟩; pure (30, v) : Sem (FuncId × Value)).run Tryz.prog w
  lock : ∀ (l : Nat) (w : World), (method (Tryz.prog.types.size + Made.depth) ty (ptr l) "Lock").run Tryz.prog w = (do let v ← loadVar 48 ⟨l, 0, none⟩; pure (84, v) : Sem (FuncId × Value)).run Tryz.prog w
  unlock : ∀ (l : Nat) (w : World), (method (Tryz.prog.types.size + Made.depth) ty (ptr l) "Unlock").run Tryz.prog w = (do let v ← loadVar 48 ⟨l, 0, none⟩; pure (276, v) : Sem (FuncId × Value)).run Tryz.prog w
  probe : ∀ (l : Nat) (w : World), (method (Tryz.prog.types.size + Made.depth) ty (ptr l) "Probe").run Tryz.prog w = (do let v ← loadVar 48 ⟨l, 0, none⟩; pure (275, v) : Sem (FuncId × Value)).run Tryz.prog w
  state : ∀ (l : Nat) (w : World), (method (Tryz.prog.types.size + Made.depth) ty (ptr l) "State").run Tryz.prog w = (do let v ← loadVar 48 ⟨l, 0, none⟩; pure (138, v) : Sem (FuncId × Value)).run Tryz.prog w
theorem seats_load {l s : Nat} {w : World} {f : Nat} (h : w.cell? ⟨l, 0, none⟩ = some (ptr s)) : (do let v ← loadVar 48 ⟨l, 0, none⟩; pure (f, v) : Sem (FuncId × Value)).run Tryz.prog w = .ok (f, ptr s) w := by
  have hr : isRowT Tryz.prog 48 = false := by kernel_rfl
  have hu : ∃ d, Tryz.prog.underlying 48 = some d := ⟨.pointer 169, by kernel_rfl⟩
  simp [loadVar, isRowT.run hr hu, run_load, h]
theorem methFlat : Meth 249 288 289 := ⟨fun _ _ => by kernel_rfl, fun _ _ => by kernel_rfl, fun _ _ => by kernel_rfl, fun _ _ => by kernel_rfl, fun _ _ => by kernel_rfl, fun _ _ => by kernel_rfl, fun _ _ => by kernel_rfl⟩
theorem methSlot : Meth 263 312 313 := ⟨fun _ _ => by kernel_rfl, fun _ _ => by kernel_rfl, fun _ _ => by kernel_rfl, fun _ _ => by kernel_rfl, fun _ _ => by kernel_rfl, fun _ _ => by kernel_rfl, fun _ _ => by kernel_rfl⟩
theorem methClh : Meth 252 295 296 := ⟨fun _ _ => by kernel_rfl, fun _ _ => by kernel_rfl, fun _ _ => by kernel_rfl, fun _ _ => by kernel_rfl, fun _ _ => by kernel_rfl, fun _ _ => by kernel_rfl, fun _ _ => by kernel_rfl⟩
theorem methMcs : Meth 255 303 304 := ⟨fun _ _ => by kernel_rfl, fun _ _ => by kernel_rfl, fun _ _ => by kernel_rfl, fun _ _ => by kernel_rfl, fun _ _ => by kernel_rfl, fun _ _ => by kernel_rfl, fun _ _ => by kernel_rfl⟩
theorem methAbo : Meth 266 316 317 := ⟨fun _ _ => by kernel_rfl, fun _ _ => by kernel_rfl, fun _ _ => by kernel_rfl, fun _ _ => by kernel_rfl, fun _ _ => by kernel_rfl, fun _ _ => by kernel_rfl, fun _ _ => by kernel_rfl⟩
theorem methHie : Meth 269 324 325 := ⟨fun _ _ => by kernel_rfl, fun _ _ => by kernel_rfl, fun _ _ => by kernel_rfl, fun _ _ => by kernel_rfl, fun _ _ => by kernel_rfl, fun _ _ => by kernel_rfl, fun _ _ => by kernel_rfl⟩
theorem methCoh : Meth 30 85 95 := ⟨fun _ _ => by kernel_rfl, fun _ _ => by kernel_rfl, fun _ _ => by kernel_rfl, fun _ _ => by kernel_rfl, fun _ _ => by kernel_rfl, fun _ _ => by kernel_rfl, fun _ _ => by kernel_rfl⟩

/-- a contract through an interface -/
def SpI (v : Value) (name : String) (args : Array Value) (A : Blocks) (r : Value) (A' : Blocks) : Prop :=
  ∀ (w0 : World) (S : List Nat) (w : World) (B : Blocks), St w0 S w (A ++ B) → Invoke Tryz.prog v name args w fun e w' => e = .returned r ∧ St w0 S w' (A' ++ B)
theorem SpI.go {v : Value} {name : String} {args : Array Value} {A A' : Blocks} {r : Value} {w0 w : World} {S : List Nat} {L : Blocks} {K : Ending → World → Prop}
    (h : SpI v name args A r A') (H : St w0 S w L) (X B : Blocks) (hL : L = X ++ (A ++ B)) (k : ∀ w', St w0 S w' (X ++ (A' ++ B)) → K (.returned r) w') : Invoke Tryz.prog v name args w K := by
  subst hL
  obtain ⟨t, x, f, rc, e1, e2, e3, e4⟩ := h w0 S w (X ++ B) (H.perm (mid_perm X A B))
  refine ⟨t, x, f, rc, e1, e2, e3, e4.mono ?_⟩
  rintro e w' ⟨rfl, H'⟩
  exact k w' (H'.perm (mid_perm X A' B).symm)
theorem SpI.frame {v : Value} {name : String} {args : Array Value} {A A' : Blocks} {r : Value} (h : SpI v name args A r A') (B : Blocks) : SpI v name args (A ++ B) r (A' ++ B) := by
  intro w0 S w C H
  rw [List.append_assoc] at H
  rw [List.append_assoc]
  exact h w0 S w (B ++ C) H
theorem Sp.frame {P : Program} {f : FuncId} {args : Array Value} {A A' : Blocks} {r : Value} (h : Sp P f args A r A') (B : Blocks) : Sp P f args (A ++ B) r (A' ++ B) := by
  intro w0 S w C H
  rw [List.append_assoc] at H
  rw [List.append_assoc]
  exact h w0 S w (B ++ C) H
/-- of a lock whose first cell leads to its seats: the methods that are the seats' -/
structure Lay (l : Nat) (sa : SA) (A : Blocks) : Prop where
  head : ∃ cs Y, A = (l, ptr sa.s :: cs) :: Y
section
variable {ty step use l : Nat} {sa : SA} {s s' : SS} {cs : List Value} {Y Z : Blocks} {r : Value} {args : Array Value}
theorem seatI {name : String} {f : Nat} (hm : ∀ (l : Nat) (w : World), (method (Tryz.prog.types.size + Made.depth) ty (ptr l) name).run Tryz.prog w = (do let v ← loadVar 48 ⟨l, 0, none⟩; pure (f, v) : Sem (FuncId × Value)).run Tryz.prog w)
    (hok : CallOk Tryz.prog f = true) (h : Sp Tryz.prog f (#[ptr sa.s] ++ args) (seatL sa s) r (seatL sa s')) :
    SpI (.iface ty (ptr l)) name args ((l, ptr sa.s :: cs) :: (Y ++ (seatL sa s ++ Z))) r ((l, ptr sa.s :: cs) :: (Y ++ (seatL sa s' ++ Z))) := by
  intro w0 S w B H
  simp only [List.cons_append, List.append_assoc] at H ⊢
  refine ⟨ty, ptr l, f, ptr sa.s, rfl, ?_, hok, ?_⟩
  · rw [hm]; exact seats_load (H.cell 0 rfl rfl)
  · exact h.go H ((l, ptr sa.s :: cs) :: Y) (Z ++ B) rfl (fun w' H' => ⟨rfl, H'⟩)
theorem lenI (m : Meth ty step use) : SpI (.iface ty (ptr l)) "Len" #[] ((l, ptr sa.s :: cs) :: (Y ++ (seatL sa s ++ Z))) (i64 s.l.length) ((l, ptr sa.s :: cs) :: (Y ++ (seatL sa s ++ Z))) :=
  seatI m.len (by kernel_rfl) (seatLen sa s)
theorem stateI (m : Meth ty step use) (t : Int) : SpI (.iface ty (ptr l)) "State" #[i64 t] ((l, ptr sa.s :: cs) :: (Y ++ (seatL sa s ++ Z))) (i64 (s.state t)) ((l, ptr sa.s :: cs) :: (Y ++ (seatL sa s ++ Z))) :=
  seatI m.state (by kernel_rfl) (seatState sa s t)
theorem lockI (m : Meth ty step use) (t d : Int) : SpI (.iface ty (ptr l)) "Lock" #[i64 t, i64 d] ((l, ptr sa.s :: cs) :: (Y ++ (seatL sa s ++ Z))) (i64 (s.lockE t d)) ((l, ptr sa.s :: cs) :: (Y ++ (seatL sa (s.lock t d) ++ Z))) :=
  seatI m.lock (by kernel_rfl) (seatLock sa s t d)
theorem unlockI (m : Meth ty step use) (t : Int) : SpI (.iface ty (ptr l)) "Unlock" #[i64 t] ((l, ptr sa.s :: cs) :: (Y ++ (seatL sa s ++ Z))) (i64 (s.holds t)) ((l, ptr sa.s :: cs) :: (Y ++ (seatL sa (s.unlock t) ++ Z))) :=
  seatI m.unlock (by kernel_rfl) (seatUnlock sa s t)
theorem probeI (m : Meth ty step use) (t : Int) : SpI (.iface ty (ptr l)) "Probe" #[i64 t] ((l, ptr sa.s :: cs) :: (Y ++ (seatL sa s ++ Z))) (i64 (s.probeE t)) ((l, ptr sa.s :: cs) :: (Y ++ (seatL sa (s.probe t) ++ Z))) :=
  seatI m.probe (by kernel_rfl) (seatProbe sa s t)
theorem stepI {A A' : Blocks} (m : Meth ty step use) (hok : CallOk Tryz.prog step = true) (h : Sp Tryz.prog step (#[ptr l] ++ args) A r A') : SpI (.iface ty (ptr l)) "Step" args A r A' :=
  fun w0 S w B H => ⟨ty, ptr l, step, ptr l, rfl, m.step l w, hok, h w0 S w B H⟩
theorem useI {A A' : Blocks} (m : Meth ty step use) (hok : CallOk Tryz.prog use = true) (h : Sp Tryz.prog use (#[ptr l] ++ args) A r A') : SpI (.iface ty (ptr l)) "Use" args A r A' :=
  fun w0 S w B H => ⟨ty, ptr l, use, ptr l, rfl, m.use l w, hok, h w0 S w B H⟩
end
end Go.Proofs.YtollfjfcdofbaaaGreat
