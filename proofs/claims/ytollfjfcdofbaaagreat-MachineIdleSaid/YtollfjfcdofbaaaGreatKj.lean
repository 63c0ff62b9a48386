/- Contracts: the lock of two levels. -/
import Derived.Test.YtollfjfcdofbaaaGreatKi
import Derived.Test.YtollfjfcdofbaaaGreatSymC
namespace Go.Proofs.YtollfjfcdofbaaaGreat
open Go Go.Proofs
set_option linter.unusedSimpArgs false
set_option linter.unusedVariables false
set_option maxRecDepth 100000
set_option maxHeartbeats 4000000
-- NB 5
-- NORM hieL
-- ROW hiRow 6

abbrev hiRow (x : Int × Int × Int × Int × Int × Int) : List Value := [(.int .i64 x.1), (.int .i64 x.2.1), (.int .i64 x.2.2.1), (.int .i64 x.2.2.2.1), (.int .u32 x.2.2.2.2.1), (.int .i64 x.2.2.2.2.2)]
theorem hiRow_set0 (xs : List (Int × Int × Int × Int × Int × Int)) (i : Nat) (v : Int) : (rows hiRow xs).set (0 + i * 6) (.int .i64 v) = rows hiRow (xs.set i (v, (xs.getD i default).2.1, (xs.getD i default).2.2.1, (xs.getD i default).2.2.2.1, (xs.getD i default).2.2.2.2.1, (xs.getD i default).2.2.2.2.2)) := rows_set0 (f := hiRow) (s := 6) (fun _ => rfl) (by decide) xs i (v, (xs.getD i default).2.1, (xs.getD i default).2.2.1, (xs.getD i default).2.2.2.1, (xs.getD i default).2.2.2.2.1, (xs.getD i default).2.2.2.2.2) rfl
theorem hiRow_set1 (xs : List (Int × Int × Int × Int × Int × Int)) (i : Nat) (v : Int) : (rows hiRow xs).set (0 + i * 6 + 1) (.int .i64 v) = rows hiRow (xs.set i ((xs.getD i default).1, v, (xs.getD i default).2.2.1, (xs.getD i default).2.2.2.1, (xs.getD i default).2.2.2.2.1, (xs.getD i default).2.2.2.2.2)) := rows_set1 (f := hiRow) (s := 6) (fun _ => rfl) (by decide) xs i ((xs.getD i default).1, v, (xs.getD i default).2.2.1, (xs.getD i default).2.2.2.1, (xs.getD i default).2.2.2.2.1, (xs.getD i default).2.2.2.2.2) rfl
theorem hiRow_set2 (xs : List (Int × Int × Int × Int × Int × Int)) (i : Nat) (v : Int) : (rows hiRow xs).set (0 + i * 6 + 2) (.int .i64 v) = rows hiRow (xs.set i ((xs.getD i default).1, (xs.getD i default).2.1, v, (xs.getD i default).2.2.2.1, (xs.getD i default).2.2.2.2.1, (xs.getD i default).2.2.2.2.2)) := rows_set1 (f := hiRow) (s := 6) (fun _ => rfl) (by decide) xs i ((xs.getD i default).1, (xs.getD i default).2.1, v, (xs.getD i default).2.2.2.1, (xs.getD i default).2.2.2.2.1, (xs.getD i default).2.2.2.2.2) rfl
theorem hiRow_set3 (xs : List (Int × Int × Int × Int × Int × Int)) (i : Nat) (v : Int) : (rows hiRow xs).set (0 + i * 6 + 3) (.int .i64 v) = rows hiRow (xs.set i ((xs.getD i default).1, (xs.getD i default).2.1, (xs.getD i default).2.2.1, v, (xs.getD i default).2.2.2.2.1, (xs.getD i default).2.2.2.2.2)) := rows_set1 (f := hiRow) (s := 6) (fun _ => rfl) (by decide) xs i ((xs.getD i default).1, (xs.getD i default).2.1, (xs.getD i default).2.2.1, v, (xs.getD i default).2.2.2.2.1, (xs.getD i default).2.2.2.2.2) rfl
theorem hiRow_set4 (xs : List (Int × Int × Int × Int × Int × Int)) (i : Nat) (v : Int) : (rows hiRow xs).set (0 + i * 6 + 4) (.int .u32 v) = rows hiRow (xs.set i ((xs.getD i default).1, (xs.getD i default).2.1, (xs.getD i default).2.2.1, (xs.getD i default).2.2.2.1, v, (xs.getD i default).2.2.2.2.2)) := rows_set1 (f := hiRow) (s := 6) (fun _ => rfl) (by decide) xs i ((xs.getD i default).1, (xs.getD i default).2.1, (xs.getD i default).2.2.1, (xs.getD i default).2.2.2.1, v, (xs.getD i default).2.2.2.2.2) rfl
theorem hiRow_set5 (xs : List (Int × Int × Int × Int × Int × Int)) (i : Nat) (v : Int) : (rows hiRow xs).set (0 + i * 6 + 5) (.int .i64 v) = rows hiRow (xs.set i ((xs.getD i default).1, (xs.getD i default).2.1, (xs.getD i default).2.2.1, (xs.getD i default).2.2.2.1, (xs.getD i default).2.2.2.2.1, v)) := rows_set1 (f := hiRow) (s := 6) (fun _ => rfl) (by decide) xs i ((xs.getD i default).1, (xs.getD i default).2.1, (xs.getD i default).2.2.1, (xs.getD i default).2.2.2.1, (xs.getD i default).2.2.2.2.1, v) rfl
theorem bkSets_hiRow {w0 w : World} {S : List Nat} {L : Blocks} {b : Nat} {K : World → Prop} {xs : List (Int × Int × Int × Int × Int × Int)} {j : Nat} {v0 : Int} {v1 : Int} {v2 : Int} {v3 : Int} {v4 : Int} {v5 : Int} (H : St w0 S w L) (i : Nat) (h : L[i]? = some (b, rows hiRow xs)) (hj : j < xs.length) (k : ∀ w', St w0 S w' (L.set i (b, rows hiRow (xs.set j (v0, v1, v2, v3, v4, v5)))) → K w') : SetsG w b (0 + j * 6) [(.int .i64 v0), (.int .i64 v1), (.int .i64 v2), (.int .i64 v3), (.int .u32 v4), (.int .i64 v5)] K := St.setsR (f := hiRow) (s := 6) (fun _ => rfl) H i h (v0, v1, v2, v3, v4, v5) hj rfl (K := fun w' => K w') k _ rfl
theorem getD_set_self {α : Type} {xs : List α} {i : Nat} {y d : α} (h : i < xs.length) : (xs.set i y).getD i d = y := by simp [h]
def pkC (w : Int) : Int := IntKind.i64.wrap (IntKind.u32.wrap (Int.tdiv w 4))
def pkSpl (w : Int) : Bool := IntKind.u32.wrap (BitVec.ofInt IntKind.u32.bits w &&& BitVec.ofInt IntKind.u32.bits 1).toNat != 0
def pkW (w : Int) : Bool := IntKind.u32.wrap (BitVec.ofInt IntKind.u32.bits w &&& BitVec.ofInt IntKind.u32.bits 2).toNat != 0
def pkSplice (w : Int) : Int := IntKind.u32.wrap (BitVec.ofInt IntKind.u32.bits w ||| BitVec.ofInt IntKind.u32.bits 1).toNat
def pkFree (w : Int) : Int := IntKind.u32.wrap (BitVec.ofInt IntKind.u32.bits w &&& ~~~BitVec.ofInt IntKind.u32.bits 2).toNat
def pkPack (c : Int) (a b : Bool) : Int :=
  if a = true then (if b = true then IntKind.u32.wrap (BitVec.ofInt IntKind.u32.bits (IntKind.u32.wrap (BitVec.ofInt IntKind.u32.bits (IntKind.u32.wrap ((IntKind.u32.wrap (minI (maxI c 0) 1073741823)) * 4)) ||| BitVec.ofInt IntKind.u32.bits 2).toNat) ||| BitVec.ofInt IntKind.u32.bits 1).toNat
    else IntKind.u32.wrap (BitVec.ofInt IntKind.u32.bits (IntKind.u32.wrap ((IntKind.u32.wrap (minI (maxI c 0) 1073741823)) * 4)) ||| BitVec.ofInt IntKind.u32.bits 2).toNat)
  else (if b = true then IntKind.u32.wrap (BitVec.ofInt IntKind.u32.bits (IntKind.u32.wrap ((IntKind.u32.wrap (minI (maxI c 0) 1073741823)) * 4)) ||| BitVec.ofInt IntKind.u32.bits 1).toNat
    else IntKind.u32.wrap ((IntKind.u32.wrap (minI (maxI c 0) 1073741823)) * 4))
theorem packC (x : Int) (A : Blocks) : Sp Tryz.prog 329 #[u32 x] A (i64 (pkC x)) A := fun _ _ _ _ H => callsPackCluster _ _ _ ⟨by decide, rfl, H⟩
theorem packSpl (x : Int) (A : Blocks) : Sp Tryz.prog 330 #[u32 x] A (.bool (pkSpl x)) A := fun _ _ _ _ H => callsPackSpliced _ _ _ ⟨rfl, H⟩
theorem packW (x : Int) (A : Blocks) : Sp Tryz.prog 331 #[u32 x] A (.bool (pkW x)) A := fun _ _ _ _ H => callsPackWaits _ _ _ ⟨rfl, H⟩
theorem packSplice (x : Int) (A : Blocks) : Sp Tryz.prog 333 #[u32 x] A (u32 (pkSplice x)) A := fun _ _ _ _ H => callsPackSplice _ _ _ ⟨rfl, H⟩
theorem packFree (x : Int) (A : Blocks) : Sp Tryz.prog 334 #[u32 x] A (u32 (pkFree x)) A := fun _ _ _ _ H => callsPackFree _ _ _ ⟨rfl, H⟩
theorem packPack (c : Int) (a b : Bool) (A : Blocks) : Sp Tryz.prog 192 #[i64 c, .bool a, .bool b] A (u32 (pkPack c a b)) A := by
  intro w0 S w B H
  refine callsPackPack _ _ _ _ _ ?_
  unfold prePackPack pkPack
  cases a <;> cases b <;> exact ⟨rfl, H⟩

structure JA where
  l : Nat
  rb : Nat
  rc : Nat
  sa : SA
  pa : PA
abbrev HiPl := Int × Int × Int × Int × Int × Int
structure JS where
  ss : SS
  tail : Int
  places : List HiPl
def hieL (a : JA) (s : JS) : Blocks := (a.l, [ptr a.sa.s, ptr a.pa.p, i64 s.tail, .slice (some ⟨a.rb, 0, none⟩) s.ss.l.length a.rc]) :: (a.rb, rows hiRow s.places) :: seatL a.sa s.ss
def JS.wf (s : JS) : Prop := s.ss.l.length ≤ s.places.length
namespace JS
def at_ (s : JS) (x : Int) : Int := IntKind.i64.wrap (IntKind.i64.wrap (s.tail + 8) + x)
def pl (s : JS) (t : Int) : HiPl := s.places.getD t.toNat default
def put (s : JS) (t : Int) (x : HiPl) : JS := { s with places := s.places.set t.toNat x }
def cluster (s : JS) (t : Int) : Int := (s.pl t).1
def node (s : JS) (t : Int) : Int := (s.pl t).2.1
def ahead (s : JS) (t : Int) : Int := (s.pl t).2.2.1
def last (s : JS) (t : Int) : Int := (s.pl t).2.2.2.1
def word (s : JS) (t : Int) : Int := (s.pl t).2.2.2.2.1
def step (s : JS) (t : Int) : Int := (s.pl t).2.2.2.2.2
def own (s : JS) (t : Int) : Int := IntKind.i64.wrap (IntKind.i64.wrap (s.tail + 1) + s.cluster t)
def pStep (s : JS) (t : Int) (x : Int) : JS := s.put t (s.cluster t, s.node t, s.ahead t, s.last t, s.word t, x)
/-- what a step of a call for the lock meets -/
inductive Hi | raise | queue | watch | last | splice | look | mark | wait | none
deriving DecidableEq
def lockD (s : JS) (p : PS) (t u : Int) : Dd :=
  if s.step t = 0 then { ev := 0 } else if s.step t = 1 then { ev := 0, enq := true }
  else if s.step t = 2 then
    (if pkC (p.loadV u (s.at_ (s.ahead t))) = s.cluster t ∧ pkSpl (p.loadV u (s.at_ (s.ahead t))) = false ∧ pkW (p.loadV u (s.at_ (s.ahead t))) = false then { ev := 1 } else { ev := 0 })
  else if s.step t = 3 then { ev := 0 } else if s.step t = 4 then { ev := 0, arr := true } else if s.step t = 5 then { ev := 0 } else if s.step t = 6 then { ev := 0 }
  else if s.step t = 7 then (if pkW (p.loadV u (s.at_ (s.ahead t))) = false then { ev := 1, lead := true } else { ev := 0 }) else { ev := 0 }
def lockS (s : JS) (p : PS) (t u : Int) : JS :=
  if s.step t = 0 then s.pStep t 1
  else if s.step t = 1 then s.put t (s.cluster t, s.node t, IntKind.i64.wrap (p.loadV u (s.own t)), s.last t, s.word t, if IntKind.i64.wrap (p.loadV u (s.own t)) = 0 then 3 else 2)
  else if s.step t = 2 then
    (if pkC (p.loadV u (s.at_ (s.ahead t))) = s.cluster t ∧ pkSpl (p.loadV u (s.at_ (s.ahead t))) = false then (if pkW (p.loadV u (s.at_ (s.ahead t))) = false then s.pStep t 0 else s) else s.pStep t 3)
  else if s.step t = 3 then s.put t (s.cluster t, s.node t, s.ahead t, IntKind.i64.wrap (p.loadV u (s.own t)), s.word t, 4)
  else if s.step t = 4 then s.put t (s.cluster t, s.node t, IntKind.i64.wrap (p.loadV u s.tail), s.last t, s.word t, 5)
  else if s.step t = 5 then s.put t (s.cluster t, s.node t, s.ahead t, s.last t, p.loadV u (s.at_ (s.last t)), 6)
  else if s.step t = 6 then s.pStep t (if p.casV u (s.at_ (s.last t)) (s.word t) = true then 7 else 5)
  else if s.step t = 7 then (if pkW (p.loadV u (s.at_ (s.ahead t))) = false then s.pStep t 0 else s)
  else s
def lockP (s : JS) (p : PS) (t u : Int) : PS :=
  if s.step t = 0 then p.store u (s.at_ (s.node t)) (pkPack (s.cluster t) true false)
  else if s.step t = 1 then p.store u (s.own t) (IntKind.u32.wrap (s.node t))
  else if s.step t = 2 then p.load u (s.at_ (s.ahead t))
  else if s.step t = 3 then p.load u (s.own t)
  else if s.step t = 4 then p.store u s.tail (IntKind.u32.wrap (s.last t))
  else if s.step t = 5 then p.load u (s.at_ (s.last t))
  else if s.step t = 6 then p.cas u (s.at_ (s.last t)) (s.word t) (pkSplice (s.word t))
  else if s.step t = 7 then p.load u (s.at_ (s.ahead t)) else p
def unE (s : JS) (p : PS) (t u : Int) : Int := if s.step t = 0 then 0 else if p.casV u (s.at_ (s.node t)) (s.word t) = true then 3 else 0
def unS (s : JS) (p : PS) (t u : Int) : JS :=
  if s.step t = 0 then s.put t (s.cluster t, s.node t, s.ahead t, s.last t, p.loadV u (s.at_ (s.node t)), 1)
  else if p.casV u (s.at_ (s.node t)) (s.word t) = true then s.put t (s.cluster t, s.ahead t, s.ahead t, s.last t, s.word t, 0) else s.pStep t 0
def unP (s : JS) (p : PS) (t u : Int) : PS := if s.step t = 0 then p.load u (s.at_ (s.node t)) else p.cas u (s.at_ (s.node t)) (s.word t) (pkFree (s.word t))
def stepE (s : JS) (p : PS) (t u : Int) : Dd := if s.ss.state t = 1 then s.lockD p t u else if s.ss.state t = 3 then { ev := s.unE p t u } else { ev := 0 }
def stepI (s : JS) (p : PS) (t u : Int) : JS := if s.ss.state t = 1 then s.lockS p t u else if s.ss.state t = 3 then s.unS p t u else s
def stepS (s : JS) (p : PS) (t u : Int) : JS := { s.stepI p t u with ss := s.ss.end_ t (s.stepE p t u).ev }
def stepP (s : JS) (p : PS) (t u : Int) : PS := if s.ss.state t = 1 then s.lockP p t u else if s.ss.state t = 3 then s.unP p t u else p
end JS
theorem tC_Kj {P : Prop} (h : P := by (first | ((first | refine bkCell (H.bkAt 0 rfl) ?_ | refine bkCell (H.bkAt 1 rfl) ?_ | refine bkCell (H.bkAt 2 rfl) ?_ | refine bkCell (H.bkAt 3 rfl) ?_ | refine bkCell (H.bkAt 4 rfl) ?_); (first | rfl | ((first | refine ints_at0 ?_ | refine bools_at0 ?_ | refine rows_at1 (f := accRow) (s := 2) (fun _ => rfl) (by decide) ?_ rfl | refine rows_at0 (f := accRow) (s := 2) (fun _ => rfl) (by decide) ?_ rfl | refine rows_at1 (f := hiRow) (s := 6) (fun _ => rfl) (by decide) ?_ rfl | refine rows_at0 (f := hiRow) (s := 6) (fun _ => rfl) (by decide) ?_ rfl); first | omega | assumption | (simp only [List.length_set, List.length_append, List.length_cons, List.length_nil, List.length_map, List.length_replicate, List.length_drop, List.length_take]; omega)))) | ((first | refine bkCan (H.bkAt 0 rfl) ?_ | refine bkCan (H.bkAt 1 rfl) ?_ | refine bkCan (H.bkAt 2 rfl) ?_ | refine bkCan (H.bkAt 3 rfl) ?_ | refine bkCan (H.bkAt 4 rfl) ?_); (first | decide | ((first | refine ints_lt ?_ | refine bools_lt ?_ | refine rows_lt1 (f := accRow) (s := 2) (fun _ => rfl) (by decide) ?_ | refine rows_lt0 (f := accRow) (s := 2) (fun _ => rfl) (by decide) ?_ | refine rows_lt1 (f := hiRow) (s := 6) (fun _ => rfl) (by decide) ?_ | refine rows_lt0 (f := hiRow) (s := 6) (fun _ => rfl) (by decide) ?_); first | omega | assumption | (simp only [List.length_set, List.length_append, List.length_cons, List.length_nil, List.length_map, List.length_replicate, List.length_drop, List.length_take]; omega)) | (simp only [List.length_cons, List.length_nil]; omega))) | ((first | refine bkThere (H.bkAt 0 rfl) ?_ | refine bkThere (H.bkAt 1 rfl) ?_ | refine bkThere (H.bkAt 2 rfl) ?_ | refine bkThere (H.bkAt 3 rfl) ?_ | refine bkThere (H.bkAt 4 rfl) ?_); (first | decide | (simp only [List.length_cons, List.length_nil]; omega) | (refine rows_le (f := accRow) (s := 2) (fun _ => rfl) ?_; first | omega | assumption | (simp only [List.length_set, List.length_append, List.length_cons, List.length_nil, List.length_map, List.length_replicate, List.length_drop, List.length_take]; omega)) | (refine rows_le (f := hiRow) (s := 6) (fun _ => rfl) ?_; first | omega | assumption | (simp only [List.length_set, List.length_append, List.length_cons, List.length_nil, List.length_map, List.length_replicate, List.length_drop, List.length_take]; omega)))) | exact ⟨by omega, by omega⟩)) : P := h
theorem tS_Kj {w0 w : World} {S : List Nat} {L L' : Blocks} {b o : Nat} {v : Value} {K : World → Prop} (H : St w0 S w L) (k : ∀ w', St w0 S w' L' → K w') (h : SetG w b o v (fun w' => St w0 S w' L') := by ((first | refine bkSet H 0 rfl (fun w H => ?_) | refine bkSet H 1 rfl (fun w H => ?_) | refine bkSet H 2 rfl (fun w H => ?_) | refine bkSet H 3 rfl (fun w H => ?_) | refine bkSet H 4 rfl (fun w H => ?_)); (try simp only [List.set_cons_succ, List.set_cons_zero, ints_set0, bools_set0, pair_set0, pair_set1, hiRow_set0, hiRow_set1, hiRow_set2, hiRow_set3, hiRow_set4, hiRow_set5] at H); exact H)) : SetG w b o v K := k _ h
theorem tG_Kj {w0 w : World} {S : List Nat} {L L' : Blocks} {b o : Nat} {vs : List Value} {K : World → Prop} (H : St w0 S w L) (k : ∀ w', St w0 S w' L' → K w') (h : SetsG w b o vs (fun w' => St w0 S w' L') := by ((first | refine bkSetsF H 0 rfl rfl (fun w H => ?_) | refine bkSetsF H 1 rfl rfl (fun w H => ?_) | refine bkSetsF H 2 rfl rfl (fun w H => ?_) | refine bkSetsF H 3 rfl rfl (fun w H => ?_) | refine bkSetsF H 4 rfl rfl (fun w H => ?_) | (refine bkSetsP H 0 rfl ?_ (fun w H => ?_); · first | omega | assumption | (simp only [List.length_set, List.length_append, List.length_cons, List.length_nil, List.length_map, List.length_replicate, List.length_drop, List.length_take]; omega)) | (refine bkSetsP H 1 rfl ?_ (fun w H => ?_); · first | omega | assumption | (simp only [List.length_set, List.length_append, List.length_cons, List.length_nil, List.length_map, List.length_replicate, List.length_drop, List.length_take]; omega)) | (refine bkSetsP H 2 rfl ?_ (fun w H => ?_); · first | omega | assumption | (simp only [List.length_set, List.length_append, List.length_cons, List.length_nil, List.length_map, List.length_replicate, List.length_drop, List.length_take]; omega)) | (refine bkSetsP H 3 rfl ?_ (fun w H => ?_); · first | omega | assumption | (simp only [List.length_set, List.length_append, List.length_cons, List.length_nil, List.length_map, List.length_replicate, List.length_drop, List.length_take]; omega)) | (refine bkSetsP H 4 rfl ?_ (fun w H => ?_); · first | omega | assumption | (simp only [List.length_set, List.length_append, List.length_cons, List.length_nil, List.length_map, List.length_replicate, List.length_drop, List.length_take]; omega)) | (refine bkSets_hiRow H 0 rfl ?_ (fun w H => ?_); · first | omega | assumption | (simp only [List.length_set, List.length_append, List.length_cons, List.length_nil, List.length_map, List.length_replicate, List.length_drop, List.length_take]; omega)) | (refine bkSets_hiRow H 1 rfl ?_ (fun w H => ?_); · first | omega | assumption | (simp only [List.length_set, List.length_append, List.length_cons, List.length_nil, List.length_map, List.length_replicate, List.length_drop, List.length_take]; omega)) | (refine bkSets_hiRow H 2 rfl ?_ (fun w H => ?_); · first | omega | assumption | (simp only [List.length_set, List.length_append, List.length_cons, List.length_nil, List.length_map, List.length_replicate, List.length_drop, List.length_take]; omega)) | (refine bkSets_hiRow H 3 rfl ?_ (fun w H => ?_); · first | omega | assumption | (simp only [List.length_set, List.length_append, List.length_cons, List.length_nil, List.length_map, List.length_replicate, List.length_drop, List.length_take]; omega)) | (refine bkSets_hiRow H 4 rfl ?_ (fun w H => ?_); · first | omega | assumption | (simp only [List.length_set, List.length_append, List.length_cons, List.length_nil, List.length_map, List.length_replicate, List.length_drop, List.length_take]; omega))); (try simp only [List.set_cons_succ, List.set_cons_zero, ints_set0, bools_set0, pair_set0, pair_set1, hiRow_set0, hiRow_set1, hiRow_set2, hiRow_set3, hiRow_set4, hiRow_set5] at H); exact H)) : SetsG w b o vs K := k _ h
theorem hieAt (a : JA) (s : JS) (x : Int) : Sp Tryz.prog 328 #[ptr a.l, i64 x] (hieL a s) (i64 (s.at_ x)) (hieL a s) := by
  intro w0 S w B H
  refine callsHierLock_at _ _ _ _ ?_
  unfold preHierLock_at
  (try simp only [List.cons_append, List.nil_append, List.append_assoc, hieL] at H ⊢)
  (repeat (first | refine PtrSome_at ?_ | refine andOne ?_ | ((first | apply exSlice | apply exInt | apply exBool | apply exPtr | apply exVal | apply andCell | apply andBd | apply andCan | apply andThere); · exact tC_Kj) | (refine toSet ?_; refine tS_Kj H (fun w H => ?_)) | (refine toSets ?_; refine tG_Kj H (fun w H => ?_)) | refine H.drewK (fun w H => ?_) | refine H.allocK (fun w H => ?_)))
  exact ⟨rfl, H⟩
theorem hieUn (a : JA) (s : JS) (p : PS) (hs : s.wf) (hp : p.wf) (t u : Int) (ht : s.ss.there t = true) :
    Sp Tryz.prog 327 #[ptr a.l, .pointer (some ⟨a.rb, 0 + t.toNat * 6, none⟩), i64 u] (hieL a s ++ portL a.pa p) (i64 (s.unE p t u)) (hieL a (s.unS p t u) ++ portL a.pa (s.unP p t u)) := by
  intro w0 S w B H
  obtain ⟨h1, h2⟩ := seat_there ht
  have e1 : s.ss.l.length ≤ s.places.length := hs
  have e2 : t.toNat < s.places.length := by omega
  (try simp only [List.cons_append, List.nil_append, List.append_assoc, hieL] at H ⊢)
  refine callsHierLock_unlock _ _ _ _ _ _ ?_
  unfold preHierLock_unlock JS.unE JS.unS JS.unP
  (repeat (first | refine PtrSome_at ?_ | refine andOne ?_ | ((first | apply exSlice | apply exInt | apply exBool | apply exPtr | apply exVal | apply andCell | apply andBd | apply andCan | apply andThere); · exact tC_Kj) | (refine toSet ?_; refine tS_Kj H (fun w H => ?_)) | (refine toSets ?_; refine tG_Kj H (fun w H => ?_)) | refine H.drewK (fun w H => ?_) | refine H.allocK (fun w H => ?_)))
  by_cases c0 : s.step t = 0
  · refine Br_eq c0 ?_
    (repeat (first | refine PtrSome_at ?_ | refine andOne ?_ | ((first | apply exSlice | apply exInt | apply exBool | apply exPtr | apply exVal | apply andCell | apply andBd | apply andCan | apply andThere); · exact tC_Kj) | (refine toSet ?_; refine tS_Kj H (fun w H => ?_)) | (refine toSets ?_; refine tG_Kj H (fun w H => ?_)) | refine H.drewK (fun w H => ?_) | refine H.allocK (fun w H => ?_)))
    (refine (hieAt a s (s.node t)).go H [] _ rfl (fun w H => ?_); (try simp only [List.cons_append, List.nil_append, List.append_assoc] at H); (first | refine ⟨_, rfl, ?_⟩ | refine ⟨rfl, ?_⟩ | refine ⟨_, _, _, _, rfl, ?_⟩ | refine ⟨_, _, rfl, ?_⟩))
    (try simp only [List.cons_append, List.nil_append, List.append_assoc, hieL] at H ⊢)
    (repeat (first | refine PtrSome_at ?_ | refine andOne ?_ | ((first | apply exSlice | apply exInt | apply exBool | apply exPtr | apply exVal | apply andCell | apply andBd | apply andCan | apply andThere); · exact tC_Kj) | (refine toSet ?_; refine tS_Kj H (fun w H => ?_)) | (refine toSets ?_; refine tG_Kj H (fun w H => ?_)) | refine H.drewK (fun w H => ?_) | refine H.allocK (fun w H => ?_)))
    (refine (portLoad a.pa p hp u (s.at_ (s.node t))).go H (_ :: _ :: seatL _ _) _ rfl (fun w H => ?_); (try simp only [List.cons_append, List.nil_append, List.append_assoc] at H); (first | refine ⟨_, rfl, ?_⟩ | refine ⟨rfl, ?_⟩ | refine ⟨_, _, _, _, rfl, ?_⟩ | refine ⟨_, _, rfl, ?_⟩))
    (repeat (first | refine PtrSome_at ?_ | refine andOne ?_ | ((first | apply exSlice | apply exInt | apply exBool | apply exPtr | apply exVal | apply andCell | apply andBd | apply andCan | apply andThere); · exact tC_Kj) | (refine toSet ?_; refine tS_Kj H (fun w H => ?_)) | (refine toSets ?_; refine tG_Kj H (fun w H => ?_)) | refine H.drewK (fun w H => ?_) | refine H.allocK (fun w H => ?_)))
    refine ⟨?_, H.to ?_⟩
    · simp only [if_pos c0]
    · simp only [if_pos c0]
      simp [hieL, JS.put, JS.cluster, JS.node, JS.ahead, JS.last, JS.word, JS.pl, e2]
  · refine Br_neq c0 ?_
    (repeat (first | refine PtrSome_at ?_ | refine andOne ?_ | ((first | apply exSlice | apply exInt | apply exBool | apply exPtr | apply exVal | apply andCell | apply andBd | apply andCan | apply andThere); · exact tC_Kj) | (refine toSet ?_; refine tS_Kj H (fun w H => ?_)) | (refine toSets ?_; refine tG_Kj H (fun w H => ?_)) | refine H.drewK (fun w H => ?_) | refine H.allocK (fun w H => ?_)))
    simp only [getD_set_self e2]
    (refine (hieAt a (s.pStep t 0) (s.node t)).go H [] _ rfl (fun w H => ?_); (try simp only [List.cons_append, List.nil_append, List.append_assoc] at H); (first | refine ⟨_, rfl, ?_⟩ | refine ⟨rfl, ?_⟩ | refine ⟨_, _, _, _, rfl, ?_⟩ | refine ⟨_, _, rfl, ?_⟩))
    (try simp only [List.cons_append, List.nil_append, List.append_assoc, hieL] at H ⊢)
    have e4 : t.toNat < (s.pStep t 0).places.length := by simp [JS.pStep, JS.put, e2]
    have e5 : (s.pStep t 0).places.getD t.toNat default = (s.cluster t, s.node t, s.ahead t, s.last t, s.word t, 0) := by simp [JS.pStep, JS.put, e2]
    refine andCell (by have := H.cell 1 rfl (rows_at1 (f := hiRow) (s := 6) (fun _ => rfl) (j := 4) (by decide) e4 rfl); rw [e5] at this; exact this) ?_
    refine andCell (by have := H.cell 1 rfl (rows_at1 (f := hiRow) (s := 6) (fun _ => rfl) (j := 4) (by decide) e4 rfl); rw [e5] at this; exact this) ?_
    (repeat (first | refine PtrSome_at ?_ | refine andOne ?_ | ((first | apply exSlice | apply exInt | apply exBool | apply exPtr | apply exVal | apply andCell | apply andBd | apply andCan | apply andThere); · exact tC_Kj) | (refine toSet ?_; refine tS_Kj H (fun w H => ?_)) | (refine toSets ?_; refine tG_Kj H (fun w H => ?_)) | refine H.drewK (fun w H => ?_) | refine H.allocK (fun w H => ?_)))
    (refine (packFree (s.word t) []).go H [] _ rfl (fun w H => ?_); (try simp only [List.cons_append, List.nil_append, List.append_assoc] at H); (first | refine ⟨_, rfl, ?_⟩ | refine ⟨rfl, ?_⟩ | refine ⟨_, _, _, _, rfl, ?_⟩ | refine ⟨_, _, rfl, ?_⟩))
    refine andCell (by have := H.cell 1 rfl (rows_at1 (f := hiRow) (s := 6) (fun _ => rfl) (j := 4) (by decide) e4 rfl); rw [e5] at this; exact this) ?_
    (repeat (first | refine PtrSome_at ?_ | refine andOne ?_ | ((first | apply exSlice | apply exInt | apply exBool | apply exPtr | apply exVal | apply andCell | apply andBd | apply andCan | apply andThere); · exact tC_Kj) | (refine toSet ?_; refine tS_Kj H (fun w H => ?_)) | (refine toSets ?_; refine tG_Kj H (fun w H => ?_)) | refine H.drewK (fun w H => ?_) | refine H.allocK (fun w H => ?_)))
    (refine (portCas a.pa p hp u (s.at_ (s.node t)) (s.word t) (pkFree (s.word t))).go H (_ :: _ :: seatL _ _) _ rfl (fun w H => ?_); (try simp only [List.cons_append, List.nil_append, List.append_assoc] at H); (first | refine ⟨_, rfl, ?_⟩ | refine ⟨rfl, ?_⟩ | refine ⟨_, _, _, _, rfl, ?_⟩ | refine ⟨_, _, rfl, ?_⟩))
    cases c1 : p.casV u (s.at_ (s.node t)) (s.word t)
    · simp only [Bool.not_false, Br_true]
      refine ⟨?_, H.to ?_⟩
      · simp [c0]
      · simp only [if_neg c0, Bool.false_eq_true, if_false]
        all_goals simp [hieL, JS.put, JS.pStep]
    · simp only [Bool.not_true, Br_false]
      (repeat (first | refine PtrSome_at ?_ | refine andOne ?_ | ((first | apply exSlice | apply exInt | apply exBool | apply exPtr | apply exVal | apply andCell | apply andBd | apply andCan | apply andThere); · exact tC_Kj) | (refine toSet ?_; refine tS_Kj H (fun w H => ?_)) | (refine toSets ?_; refine tG_Kj H (fun w H => ?_)) | refine H.drewK (fun w H => ?_) | refine H.allocK (fun w H => ?_)))
      refine ⟨?_, H.to ?_⟩
      · simp [c0]
      · simp only [if_neg c0, if_true]
        simp [hieL, JS.put, JS.pStep, JS.cluster, JS.node, JS.ahead, JS.last, JS.word, JS.pl, e2]
theorem hieGrant (a : JA) (s : JS) (t : Int) (lead : Bool) (hs : s.wf) (ht : s.ss.there t = true) :
    Sp Tryz.prog 332 #[.pointer (some ⟨a.rb, 0 + t.toNat * 6, none⟩), .bool lead] (hieL a s) (didV { ev := 1, lead := lead }) (hieL a (s.pStep t 0)) := by
  intro w0 S w B H
  obtain ⟨h1, h2⟩ := seat_there ht
  have e1 : s.ss.l.length ≤ s.places.length := hs
  have e2 : t.toNat < s.places.length := by omega
  (try simp only [List.cons_append, List.nil_append, List.append_assoc, hieL] at H ⊢)
  refine callsHier_place_granted _ _ _ _ _ ?_
  unfold preHier_place_granted
  (repeat (first | refine PtrSome_at ?_ | refine andOne ?_ | ((first | apply exSlice | apply exInt | apply exBool | apply exPtr | apply exVal | apply andCell | apply andBd | apply andCan | apply andThere); · exact tC_Kj) | (refine toSet ?_; refine tS_Kj H (fun w H => ?_)) | (refine toSets ?_; refine tG_Kj H (fun w H => ?_)) | refine H.drewK (fun w H => ?_) | refine H.allocK (fun w H => ?_)))
  refine ⟨rfl, H.tail.to ?_⟩
  simp [hieL, JS.put, JS.pStep, JS.cluster, JS.node, JS.ahead, JS.last, JS.word, JS.pl]
theorem hieLock (a : JA) (s : JS) (p : PS) (hs : s.wf) (hp : p.wf) (t u : Int) (ht : s.ss.there t = true) :
    Sp Tryz.prog 326 #[ptr a.l, .pointer (some ⟨a.rb, 0 + t.toNat * 6, none⟩), i64 u] (hieL a s ++ portL a.pa p) (didV (s.lockD p t u)) (hieL a (s.lockS p t u) ++ portL a.pa (s.lockP p t u)) := by
  intro w0 S w B H
  obtain ⟨h1, h2⟩ := seat_there ht
  have e1 : s.ss.l.length ≤ s.places.length := hs
  have e2 : t.toNat < s.places.length := by omega
  (try simp only [List.cons_append, List.nil_append, List.append_assoc, hieL] at H ⊢)
  refine callsHierLock_lock _ _ _ _ _ _ ?_
  unfold preHierLock_lock JS.lockD JS.lockS JS.lockP
  (repeat (first | refine PtrSome_at ?_ | refine andOne ?_ | ((first | apply exSlice | apply exInt | apply exBool | apply exPtr | apply exVal | apply andCell | apply andBd | apply andCan | apply andThere); · exact tC_Kj) | (refine toSet ?_; refine tS_Kj H (fun w H => ?_)) | (refine toSets ?_; refine tG_Kj H (fun w H => ?_)) | refine H.drewK (fun w H => ?_) | refine H.allocK (fun w H => ?_)))
  by_cases c0 : s.step t = 0
  · refine Br_eq c0 ?_
    (repeat (first | refine PtrSome_at ?_ | refine andOne ?_ | ((first | apply exSlice | apply exInt | apply exBool | apply exPtr | apply exVal | apply andCell | apply andBd | apply andCan | apply andThere); · exact tC_Kj) | (refine toSet ?_; refine tS_Kj H (fun w H => ?_)) | (refine toSets ?_; refine tG_Kj H (fun w H => ?_)) | refine H.drewK (fun w H => ?_) | refine H.allocK (fun w H => ?_)))
    (refine (hieAt a s (s.node t)).go H [_] _ rfl (fun w H => ?_); (try simp only [List.cons_append, List.nil_append, List.append_assoc] at H); (first | refine ⟨_, rfl, ?_⟩ | refine ⟨rfl, ?_⟩ | refine ⟨_, _, _, _, rfl, ?_⟩ | refine ⟨_, _, rfl, ?_⟩))
    (try simp only [List.cons_append, List.nil_append, List.append_assoc, hieL] at H ⊢)
    (repeat (first | refine PtrSome_at ?_ | refine andOne ?_ | ((first | apply exSlice | apply exInt | apply exBool | apply exPtr | apply exVal | apply andCell | apply andBd | apply andCan | apply andThere); · exact tC_Kj) | (refine toSet ?_; refine tS_Kj H (fun w H => ?_)) | (refine toSets ?_; refine tG_Kj H (fun w H => ?_)) | refine H.drewK (fun w H => ?_) | refine H.allocK (fun w H => ?_)))
    (refine (packPack (s.cluster t) true false []).go H [] _ rfl (fun w H => ?_); (try simp only [List.cons_append, List.nil_append, List.append_assoc] at H); (first | refine ⟨_, rfl, ?_⟩ | refine ⟨rfl, ?_⟩ | refine ⟨_, _, _, _, rfl, ?_⟩ | refine ⟨_, _, rfl, ?_⟩))
    (repeat (first | refine PtrSome_at ?_ | refine andOne ?_ | ((first | apply exSlice | apply exInt | apply exBool | apply exPtr | apply exVal | apply andCell | apply andBd | apply andCan | apply andThere); · exact tC_Kj) | (refine toSet ?_; refine tS_Kj H (fun w H => ?_)) | (refine toSets ?_; refine tG_Kj H (fun w H => ?_)) | refine H.drewK (fun w H => ?_) | refine H.allocK (fun w H => ?_)))
    (refine (portStore a.pa p hp u (s.at_ (s.node t)) (pkPack (s.cluster t) true false)).go H (_ :: _ :: _ :: seatL _ _) _ rfl (fun w H => ?_); (try simp only [List.cons_append, List.nil_append, List.append_assoc] at H); (first | refine ⟨_, rfl, ?_⟩ | refine ⟨rfl, ?_⟩ | refine ⟨_, _, _, _, rfl, ?_⟩ | refine ⟨_, _, rfl, ?_⟩))
    (repeat (first | refine PtrSome_at ?_ | refine andOne ?_ | ((first | apply exSlice | apply exInt | apply exBool | apply exPtr | apply exVal | apply andCell | apply andBd | apply andCan | apply andThere); · exact tC_Kj) | (refine toSet ?_; refine tS_Kj H (fun w H => ?_)) | (refine toSets ?_; refine tG_Kj H (fun w H => ?_)) | refine H.drewK (fun w H => ?_) | refine H.allocK (fun w H => ?_)))
    refine ⟨?_, H.tail.to ?_⟩
    · simp only [if_pos c0]
    · simp only [if_pos c0]
      simp [hieL, JS.put, JS.pStep, JS.cluster, JS.node, JS.ahead, JS.last, JS.word, JS.pl, e2]
  · refine Br_neq c0 ?_
    by_cases c1 : s.step t = 1
    · refine Br_eq c1 ?_
      (repeat (first | refine PtrSome_at ?_ | refine andOne ?_ | ((first | apply exSlice | apply exInt | apply exBool | apply exPtr | apply exVal | apply andCell | apply andBd | apply andCan | apply andThere); · exact tC_Kj) | (refine toSet ?_; refine tS_Kj H (fun w H => ?_)) | (refine toSets ?_; refine tG_Kj H (fun w H => ?_)) | refine H.drewK (fun w H => ?_) | refine H.allocK (fun w H => ?_)))
      (refine (portSwap a.pa p hp u (s.own t) (IntKind.u32.wrap (s.node t))).go H (_ :: _ :: _ :: seatL _ _) _ rfl (fun w H => ?_); (try simp only [List.cons_append, List.nil_append, List.append_assoc] at H); (first | refine ⟨_, rfl, ?_⟩ | refine ⟨rfl, ?_⟩ | refine ⟨_, _, _, _, rfl, ?_⟩ | refine ⟨_, _, rfl, ?_⟩))
      (repeat (first | refine PtrSome_at ?_ | refine andOne ?_ | ((first | apply exSlice | apply exInt | apply exBool | apply exPtr | apply exVal | apply andCell | apply andBd | apply andCan | apply andThere); · exact tC_Kj) | (refine toSet ?_; refine tS_Kj H (fun w H => ?_)) | (refine toSets ?_; refine tG_Kj H (fun w H => ?_)) | refine H.drewK (fun w H => ?_) | refine H.allocK (fun w H => ?_)))
      try simp only [getD_set_self e2]
      by_cases d1 : IntKind.i64.wrap (p.loadV u (s.own t)) = 0
      · simp only [getD_set_self, List.length_set, e2]
        refine Br_eq d1 ?_
        (repeat (first | refine PtrSome_at ?_ | refine andOne ?_ | ((first | apply exSlice | apply exInt | apply exBool | apply exPtr | apply exVal | apply andCell | apply andBd | apply andCan | apply andThere); · exact tC_Kj) | (refine toSet ?_; refine tS_Kj H (fun w H => ?_)) | (refine toSets ?_; refine tG_Kj H (fun w H => ?_)) | refine H.drewK (fun w H => ?_) | refine H.allocK (fun w H => ?_)))
        refine ⟨?_, H.tail.to ?_⟩
        · simp only [if_neg c0, if_pos c1, if_pos d1]
        · simp only [if_neg c0, if_pos c1, if_pos d1]
          simp [hieL, JS.put, JS.pStep, JS.cluster, JS.node, JS.ahead, JS.last, JS.word, JS.pl, e2]
      · simp only [getD_set_self, List.length_set, e2]
        refine Br_neq d1 ?_
        (repeat (first | refine PtrSome_at ?_ | refine andOne ?_ | ((first | apply exSlice | apply exInt | apply exBool | apply exPtr | apply exVal | apply andCell | apply andBd | apply andCan | apply andThere); · exact tC_Kj) | (refine toSet ?_; refine tS_Kj H (fun w H => ?_)) | (refine toSets ?_; refine tG_Kj H (fun w H => ?_)) | refine H.drewK (fun w H => ?_) | refine H.allocK (fun w H => ?_)))
        refine ⟨?_, H.tail.to ?_⟩
        · simp only [if_neg c0, if_pos c1, if_neg d1]
        · simp only [if_neg c0, if_pos c1, if_neg d1]
          simp [hieL, JS.put, JS.pStep, JS.cluster, JS.node, JS.ahead, JS.last, JS.word, JS.pl, e2]
    · refine Br_neq c1 ?_
      by_cases c2 : s.step t = 2
      · refine Br_eq c2 ?_
        (repeat (first | refine PtrSome_at ?_ | refine andOne ?_ | ((first | apply exSlice | apply exInt | apply exBool | apply exPtr | apply exVal | apply andCell | apply andBd | apply andCan | apply andThere); · exact tC_Kj) | (refine toSet ?_; refine tS_Kj H (fun w H => ?_)) | (refine toSets ?_; refine tG_Kj H (fun w H => ?_)) | refine H.drewK (fun w H => ?_) | refine H.allocK (fun w H => ?_)))
        (refine (hieAt a s (s.ahead t)).go H [_] _ rfl (fun w H => ?_); (try simp only [List.cons_append, List.nil_append, List.append_assoc] at H); (first | refine ⟨_, rfl, ?_⟩ | refine ⟨rfl, ?_⟩ | refine ⟨_, _, _, _, rfl, ?_⟩ | refine ⟨_, _, rfl, ?_⟩))
        (try simp only [List.cons_append, List.nil_append, List.append_assoc, hieL] at H ⊢)
        (repeat (first | refine PtrSome_at ?_ | refine andOne ?_ | ((first | apply exSlice | apply exInt | apply exBool | apply exPtr | apply exVal | apply andCell | apply andBd | apply andCan | apply andThere); · exact tC_Kj) | (refine toSet ?_; refine tS_Kj H (fun w H => ?_)) | (refine toSets ?_; refine tG_Kj H (fun w H => ?_)) | refine H.drewK (fun w H => ?_) | refine H.allocK (fun w H => ?_)))
        (refine (portLoad a.pa p hp u (s.at_ (s.ahead t))).go H (_ :: _ :: _ :: seatL _ _) _ rfl (fun w H => ?_); (try simp only [List.cons_append, List.nil_append, List.append_assoc] at H); (first | refine ⟨_, rfl, ?_⟩ | refine ⟨rfl, ?_⟩ | refine ⟨_, _, _, _, rfl, ?_⟩ | refine ⟨_, _, rfl, ?_⟩))
        (repeat (first | refine PtrSome_at ?_ | refine andOne ?_ | ((first | apply exSlice | apply exInt | apply exBool | apply exPtr | apply exVal | apply andCell | apply andBd | apply andCan | apply andThere); · exact tC_Kj) | (refine toSet ?_; refine tS_Kj H (fun w H => ?_)) | (refine toSets ?_; refine tG_Kj H (fun w H => ?_)) | refine H.drewK (fun w H => ?_) | refine H.allocK (fun w H => ?_)))
        (refine (packC (p.loadV u (s.at_ (s.ahead t))) []).go H [] _ rfl (fun w H => ?_); (try simp only [List.cons_append, List.nil_append, List.append_assoc] at H); (first | refine ⟨_, rfl, ?_⟩ | refine ⟨rfl, ?_⟩ | refine ⟨_, _, _, _, rfl, ?_⟩ | refine ⟨_, _, rfl, ?_⟩))
        (repeat (first | refine PtrSome_at ?_ | refine andOne ?_ | ((first | apply exSlice | apply exInt | apply exBool | apply exPtr | apply exVal | apply andCell | apply andBd | apply andCan | apply andThere); · exact tC_Kj) | (refine toSet ?_; refine tS_Kj H (fun w H => ?_)) | (refine toSets ?_; refine tG_Kj H (fun w H => ?_)) | refine H.drewK (fun w H => ?_) | refine H.allocK (fun w H => ?_)))
        by_cases d1 : pkC (p.loadV u (s.at_ (s.ahead t))) = s.cluster t
        · refine Br_nne d1 ?_
          (refine (packSpl (p.loadV u (s.at_ (s.ahead t))) []).go H [] _ rfl (fun w H => ?_); (try simp only [List.cons_append, List.nil_append, List.append_assoc] at H); (first | refine ⟨_, rfl, ?_⟩ | refine ⟨rfl, ?_⟩ | refine ⟨_, _, _, _, rfl, ?_⟩ | refine ⟨_, _, rfl, ?_⟩))
          cases d2 : pkSpl (p.loadV u (s.at_ (s.ahead t)))
          · simp only [Br_false]
            (refine (packW (p.loadV u (s.at_ (s.ahead t))) []).go H [] _ rfl (fun w H => ?_); (try simp only [List.cons_append, List.nil_append, List.append_assoc] at H); (first | refine ⟨_, rfl, ?_⟩ | refine ⟨rfl, ?_⟩ | refine ⟨_, _, _, _, rfl, ?_⟩ | refine ⟨_, _, rfl, ?_⟩))
            cases d3 : pkW (p.loadV u (s.at_ (s.ahead t)))
            · simp only [Bool.not_false, Br_true]
              (refine (hieGrant a s t false hs ht).go H [_] _ rfl (fun w H => ?_); (try simp only [List.cons_append, List.nil_append, List.append_assoc] at H); (first | refine ⟨_, rfl, ?_⟩ | refine ⟨rfl, ?_⟩ | refine ⟨_, _, _, _, rfl, ?_⟩ | refine ⟨_, _, rfl, ?_⟩))
              (try simp only [List.cons_append, List.nil_append, List.append_assoc, hieL] at H ⊢)
              (repeat (first | refine PtrSome_at ?_ | refine andOne ?_ | ((first | apply exSlice | apply exInt | apply exBool | apply exPtr | apply exVal | apply andCell | apply andBd | apply andCan | apply andThere); · exact tC_Kj) | (refine toSet ?_; refine tS_Kj H (fun w H => ?_)) | (refine toSets ?_; refine tG_Kj H (fun w H => ?_)) | refine H.drewK (fun w H => ?_) | refine H.allocK (fun w H => ?_)))
              refine ⟨?_, H.tail.to ?_⟩
              · simp only [if_neg c0, if_neg c1, if_pos c2, d1, d2, d3, true_and, and_true, and_self, if_true]
              · simp only [if_neg c0, if_neg c1, if_pos c2, d1, d2, d3, true_and, and_true, and_self, if_true]
                all_goals simp [hieL, JS.put, JS.pStep, JS.cluster, JS.node, JS.ahead, JS.last, JS.word, JS.pl, e2]
            · simp only [Bool.not_true, Br_false]
              (repeat (first | refine PtrSome_at ?_ | refine andOne ?_ | ((first | apply exSlice | apply exInt | apply exBool | apply exPtr | apply exVal | apply andCell | apply andBd | apply andCan | apply andThere); · exact tC_Kj) | (refine toSet ?_; refine tS_Kj H (fun w H => ?_)) | (refine toSets ?_; refine tG_Kj H (fun w H => ?_)) | refine H.drewK (fun w H => ?_) | refine H.allocK (fun w H => ?_)))
              refine ⟨?_, H.tail.to ?_⟩
              · simp only [if_neg c0, if_neg c1, if_pos c2, d1, d2, d3, true_and, and_true, and_self, and_false, if_true, Bool.true_eq_false, if_false]
              · simp only [if_neg c0, if_neg c1, if_pos c2, d1, d2, d3, true_and, and_true, and_self, and_false, if_true, Bool.true_eq_false, if_false]
                all_goals simp [hieL, JS.put, JS.pStep, JS.cluster, JS.node, JS.ahead, JS.last, JS.word, JS.pl, e2]
          · simp only [Br_true]
            (repeat (first | refine PtrSome_at ?_ | refine andOne ?_ | ((first | apply exSlice | apply exInt | apply exBool | apply exPtr | apply exVal | apply andCell | apply andBd | apply andCan | apply andThere); · exact tC_Kj) | (refine toSet ?_; refine tS_Kj H (fun w H => ?_)) | (refine toSets ?_; refine tG_Kj H (fun w H => ?_)) | refine H.drewK (fun w H => ?_) | refine H.allocK (fun w H => ?_)))
            refine ⟨?_, H.tail.to ?_⟩
            · simp only [if_neg c0, if_neg c1, if_pos c2, d1, d2, true_and, and_true, and_self, and_false, false_and, if_true, Bool.true_eq_false, if_false]
            · simp only [if_neg c0, if_neg c1, if_pos c2, d1, d2, true_and, and_true, and_self, and_false, false_and, if_true, Bool.true_eq_false, if_false]
              all_goals simp [hieL, JS.put, JS.pStep, JS.cluster, JS.node, JS.ahead, JS.last, JS.word, JS.pl, e2]
        · refine Br_ne d1 ?_
          (repeat (first | refine PtrSome_at ?_ | refine andOne ?_ | ((first | apply exSlice | apply exInt | apply exBool | apply exPtr | apply exVal | apply andCell | apply andBd | apply andCan | apply andThere); · exact tC_Kj) | (refine toSet ?_; refine tS_Kj H (fun w H => ?_)) | (refine toSets ?_; refine tG_Kj H (fun w H => ?_)) | refine H.drewK (fun w H => ?_) | refine H.allocK (fun w H => ?_)))
          refine ⟨?_, H.tail.to ?_⟩
          · simp only [if_neg c0, if_neg c1, if_pos c2, if_neg (show ¬ (pkC (p.loadV u (s.at_ (s.ahead t))) = s.cluster t ∧ pkSpl (p.loadV u (s.at_ (s.ahead t))) = false ∧ pkW (p.loadV u (s.at_ (s.ahead t))) = false) from fun h => d1 h.1)]
          · simp only [if_neg c0, if_neg c1, if_pos c2, if_neg (show ¬ (pkC (p.loadV u (s.at_ (s.ahead t))) = s.cluster t ∧ pkSpl (p.loadV u (s.at_ (s.ahead t))) = false) from fun h => d1 h.1)]
            all_goals simp [hieL, JS.put, JS.pStep, JS.cluster, JS.node, JS.ahead, JS.last, JS.word, JS.pl, e2]
      · refine Br_neq c2 ?_
        by_cases c3 : s.step t = 3
        · refine Br_eq c3 ?_
          (repeat (first | refine PtrSome_at ?_ | refine andOne ?_ | ((first | apply exSlice | apply exInt | apply exBool | apply exPtr | apply exVal | apply andCell | apply andBd | apply andCan | apply andThere); · exact tC_Kj) | (refine toSet ?_; refine tS_Kj H (fun w H => ?_)) | (refine toSets ?_; refine tG_Kj H (fun w H => ?_)) | refine H.drewK (fun w H => ?_) | refine H.allocK (fun w H => ?_)))
          (refine (portLoad a.pa p hp u (s.own t)).go H (_ :: _ :: _ :: seatL _ _) _ rfl (fun w H => ?_); (try simp only [List.cons_append, List.nil_append, List.append_assoc] at H); (first | refine ⟨_, rfl, ?_⟩ | refine ⟨rfl, ?_⟩ | refine ⟨_, _, _, _, rfl, ?_⟩ | refine ⟨_, _, rfl, ?_⟩))
          (repeat (first | refine PtrSome_at ?_ | refine andOne ?_ | ((first | apply exSlice | apply exInt | apply exBool | apply exPtr | apply exVal | apply andCell | apply andBd | apply andCan | apply andThere); · exact tC_Kj) | (refine toSet ?_; refine tS_Kj H (fun w H => ?_)) | (refine toSets ?_; refine tG_Kj H (fun w H => ?_)) | refine H.drewK (fun w H => ?_) | refine H.allocK (fun w H => ?_)))
          refine ⟨?_, H.tail.to ?_⟩
          · simp only [if_neg c0, if_neg c1, if_neg c2, if_pos c3]
          · simp only [if_neg c0, if_neg c1, if_neg c2, if_pos c3]
            simp [hieL, JS.put, JS.pStep, JS.cluster, JS.node, JS.ahead, JS.last, JS.word, JS.pl, e2]
        · refine Br_neq c3 ?_
          by_cases c4 : s.step t = 4
          · refine Br_eq c4 ?_
            (repeat (first | refine PtrSome_at ?_ | refine andOne ?_ | ((first | apply exSlice | apply exInt | apply exBool | apply exPtr | apply exVal | apply andCell | apply andBd | apply andCan | apply andThere); · exact tC_Kj) | (refine toSet ?_; refine tS_Kj H (fun w H => ?_)) | (refine toSets ?_; refine tG_Kj H (fun w H => ?_)) | refine H.drewK (fun w H => ?_) | refine H.allocK (fun w H => ?_)))
            (refine (portSwap a.pa p hp u s.tail (IntKind.u32.wrap (s.last t))).go H (_ :: _ :: _ :: seatL _ _) _ rfl (fun w H => ?_); (try simp only [List.cons_append, List.nil_append, List.append_assoc] at H); (first | refine ⟨_, rfl, ?_⟩ | refine ⟨rfl, ?_⟩ | refine ⟨_, _, _, _, rfl, ?_⟩ | refine ⟨_, _, rfl, ?_⟩))
            (repeat (first | refine PtrSome_at ?_ | refine andOne ?_ | ((first | apply exSlice | apply exInt | apply exBool | apply exPtr | apply exVal | apply andCell | apply andBd | apply andCan | apply andThere); · exact tC_Kj) | (refine toSet ?_; refine tS_Kj H (fun w H => ?_)) | (refine toSets ?_; refine tG_Kj H (fun w H => ?_)) | refine H.drewK (fun w H => ?_) | refine H.allocK (fun w H => ?_)))
            refine ⟨?_, H.tail.to ?_⟩
            · simp only [if_neg c0, if_neg c1, if_neg c2, if_neg c3, if_pos c4]
            · simp only [if_neg c0, if_neg c1, if_neg c2, if_neg c3, if_pos c4]
              simp [hieL, JS.put, JS.pStep, JS.cluster, JS.node, JS.ahead, JS.last, JS.word, JS.pl, e2]
          · refine Br_neq c4 ?_
            by_cases c5 : s.step t = 5
            · refine Br_eq c5 ?_
              (repeat (first | refine PtrSome_at ?_ | refine andOne ?_ | ((first | apply exSlice | apply exInt | apply exBool | apply exPtr | apply exVal | apply andCell | apply andBd | apply andCan | apply andThere); · exact tC_Kj) | (refine toSet ?_; refine tS_Kj H (fun w H => ?_)) | (refine toSets ?_; refine tG_Kj H (fun w H => ?_)) | refine H.drewK (fun w H => ?_) | refine H.allocK (fun w H => ?_)))
              (refine (hieAt a s (s.last t)).go H [_] _ rfl (fun w H => ?_); (try simp only [List.cons_append, List.nil_append, List.append_assoc] at H); (first | refine ⟨_, rfl, ?_⟩ | refine ⟨rfl, ?_⟩ | refine ⟨_, _, _, _, rfl, ?_⟩ | refine ⟨_, _, rfl, ?_⟩))
              (try simp only [List.cons_append, List.nil_append, List.append_assoc, hieL] at H ⊢)
              (repeat (first | refine PtrSome_at ?_ | refine andOne ?_ | ((first | apply exSlice | apply exInt | apply exBool | apply exPtr | apply exVal | apply andCell | apply andBd | apply andCan | apply andThere); · exact tC_Kj) | (refine toSet ?_; refine tS_Kj H (fun w H => ?_)) | (refine toSets ?_; refine tG_Kj H (fun w H => ?_)) | refine H.drewK (fun w H => ?_) | refine H.allocK (fun w H => ?_)))
              (refine (portLoad a.pa p hp u (s.at_ (s.last t))).go H (_ :: _ :: _ :: seatL _ _) _ rfl (fun w H => ?_); (try simp only [List.cons_append, List.nil_append, List.append_assoc] at H); (first | refine ⟨_, rfl, ?_⟩ | refine ⟨rfl, ?_⟩ | refine ⟨_, _, _, _, rfl, ?_⟩ | refine ⟨_, _, rfl, ?_⟩))
              (repeat (first | refine PtrSome_at ?_ | refine andOne ?_ | ((first | apply exSlice | apply exInt | apply exBool | apply exPtr | apply exVal | apply andCell | apply andBd | apply andCan | apply andThere); · exact tC_Kj) | (refine toSet ?_; refine tS_Kj H (fun w H => ?_)) | (refine toSets ?_; refine tG_Kj H (fun w H => ?_)) | refine H.drewK (fun w H => ?_) | refine H.allocK (fun w H => ?_)))
              refine ⟨?_, H.tail.to ?_⟩
              · simp only [if_neg c0, if_neg c1, if_neg c2, if_neg c3, if_neg c4, if_pos c5]
              · simp only [if_neg c0, if_neg c1, if_neg c2, if_neg c3, if_neg c4, if_pos c5]
                simp [hieL, JS.put, JS.pStep, JS.cluster, JS.node, JS.ahead, JS.last, JS.word, JS.pl, e2]
            · refine Br_neq c5 ?_
              by_cases c6 : s.step t = 6
              · refine Br_eq c6 ?_
                (repeat (first | refine PtrSome_at ?_ | refine andOne ?_ | ((first | apply exSlice | apply exInt | apply exBool | apply exPtr | apply exVal | apply andCell | apply andBd | apply andCan | apply andThere); · exact tC_Kj) | (refine toSet ?_; refine tS_Kj H (fun w H => ?_)) | (refine toSets ?_; refine tG_Kj H (fun w H => ?_)) | refine H.drewK (fun w H => ?_) | refine H.allocK (fun w H => ?_)))
                simp only [getD_set_self e2]
                have e4 : t.toNat < (s.pStep t 5).places.length := by simp [JS.pStep, JS.put, e2]
                have e5 : (s.pStep t 5).places.getD t.toNat default = (s.cluster t, s.node t, s.ahead t, s.last t, s.word t, 5) := by simp [JS.pStep, JS.put, e2]
                (refine (hieAt a (s.pStep t 5) (s.last t)).go H [_] _ rfl (fun w H => ?_); (try simp only [List.cons_append, List.nil_append, List.append_assoc] at H); (first | refine ⟨_, rfl, ?_⟩ | refine ⟨rfl, ?_⟩ | refine ⟨_, _, _, _, rfl, ?_⟩ | refine ⟨_, _, rfl, ?_⟩))
                (try simp only [List.cons_append, List.nil_append, List.append_assoc, hieL] at H ⊢)
                repeat (refine andCell (by have := H.cell 2 rfl (rows_at1 (f := hiRow) (s := 6) (fun _ => rfl) (j := 4) (by decide) e4 rfl); rw [e5] at this; exact this) ?_)
                (repeat (first | refine PtrSome_at ?_ | refine andOne ?_ | ((first | apply exSlice | apply exInt | apply exBool | apply exPtr | apply exVal | apply andCell | apply andBd | apply andCan | apply andThere); · exact tC_Kj) | (refine toSet ?_; refine tS_Kj H (fun w H => ?_)) | (refine toSets ?_; refine tG_Kj H (fun w H => ?_)) | refine H.drewK (fun w H => ?_) | refine H.allocK (fun w H => ?_)))
                (refine (packSplice (s.word t) []).go H [] _ rfl (fun w H => ?_); (try simp only [List.cons_append, List.nil_append, List.append_assoc] at H); (first | refine ⟨_, rfl, ?_⟩ | refine ⟨rfl, ?_⟩ | refine ⟨_, _, _, _, rfl, ?_⟩ | refine ⟨_, _, rfl, ?_⟩))
                repeat (refine andCell (by have := H.cell 2 rfl (rows_at1 (f := hiRow) (s := 6) (fun _ => rfl) (j := 4) (by decide) e4 rfl); rw [e5] at this; exact this) ?_)
                (repeat (first | refine PtrSome_at ?_ | refine andOne ?_ | ((first | apply exSlice | apply exInt | apply exBool | apply exPtr | apply exVal | apply andCell | apply andBd | apply andCan | apply andThere); · exact tC_Kj) | (refine toSet ?_; refine tS_Kj H (fun w H => ?_)) | (refine toSets ?_; refine tG_Kj H (fun w H => ?_)) | refine H.drewK (fun w H => ?_) | refine H.allocK (fun w H => ?_)))
                (refine (portCas a.pa p hp u (s.at_ (s.last t)) (s.word t) (pkSplice (s.word t))).go H (_ :: _ :: _ :: seatL _ _) _ rfl (fun w H => ?_); (try simp only [List.cons_append, List.nil_append, List.append_assoc] at H); (first | refine ⟨_, rfl, ?_⟩ | refine ⟨rfl, ?_⟩ | refine ⟨_, _, _, _, rfl, ?_⟩ | refine ⟨_, _, rfl, ?_⟩))
                cases d1 : p.casV u (s.at_ (s.last t)) (s.word t)
                · simp only [Br_false]
                  (repeat (first | refine PtrSome_at ?_ | refine andOne ?_ | ((first | apply exSlice | apply exInt | apply exBool | apply exPtr | apply exVal | apply andCell | apply andBd | apply andCan | apply andThere); · exact tC_Kj) | (refine toSet ?_; refine tS_Kj H (fun w H => ?_)) | (refine toSets ?_; refine tG_Kj H (fun w H => ?_)) | refine H.drewK (fun w H => ?_) | refine H.allocK (fun w H => ?_)))
                  refine ⟨?_, H.tail.to ?_⟩
                  · simp only [if_neg c0, if_neg c1, if_neg c2, if_neg c3, if_neg c4, if_neg c5, if_pos c6, Bool.false_eq_true, if_false]
                  · simp only [if_neg c0, if_neg c1, if_neg c2, if_neg c3, if_neg c4, if_neg c5, if_pos c6, Bool.false_eq_true, if_false]
                    all_goals simp [hieL, JS.put, JS.pStep, JS.cluster, JS.node, JS.ahead, JS.last, JS.word, JS.pl, e2]
                · simp only [Br_true]
                  (repeat (first | refine PtrSome_at ?_ | refine andOne ?_ | ((first | apply exSlice | apply exInt | apply exBool | apply exPtr | apply exVal | apply andCell | apply andBd | apply andCan | apply andThere); · exact tC_Kj) | (refine toSet ?_; refine tS_Kj H (fun w H => ?_)) | (refine toSets ?_; refine tG_Kj H (fun w H => ?_)) | refine H.drewK (fun w H => ?_) | refine H.allocK (fun w H => ?_)))
                  refine ⟨?_, H.tail.to ?_⟩
                  · simp only [if_neg c0, if_neg c1, if_neg c2, if_neg c3, if_neg c4, if_neg c5, if_pos c6, if_true]
                  · simp only [if_neg c0, if_neg c1, if_neg c2, if_neg c3, if_neg c4, if_neg c5, if_pos c6, if_true]
                    all_goals simp [hieL, JS.put, JS.pStep, JS.cluster, JS.node, JS.ahead, JS.last, JS.word, JS.pl, e2]
              · refine Br_neq c6 ?_
                by_cases c7 : s.step t = 7
                · refine Br_eq c7 ?_
                  (repeat (first | refine PtrSome_at ?_ | refine andOne ?_ | ((first | apply exSlice | apply exInt | apply exBool | apply exPtr | apply exVal | apply andCell | apply andBd | apply andCan | apply andThere); · exact tC_Kj) | (refine toSet ?_; refine tS_Kj H (fun w H => ?_)) | (refine toSets ?_; refine tG_Kj H (fun w H => ?_)) | refine H.drewK (fun w H => ?_) | refine H.allocK (fun w H => ?_)))
                  (refine (hieAt a s (s.ahead t)).go H [_] _ rfl (fun w H => ?_); (try simp only [List.cons_append, List.nil_append, List.append_assoc] at H); (first | refine ⟨_, rfl, ?_⟩ | refine ⟨rfl, ?_⟩ | refine ⟨_, _, _, _, rfl, ?_⟩ | refine ⟨_, _, rfl, ?_⟩))
                  (try simp only [List.cons_append, List.nil_append, List.append_assoc, hieL] at H ⊢)
                  (repeat (first | refine PtrSome_at ?_ | refine andOne ?_ | ((first | apply exSlice | apply exInt | apply exBool | apply exPtr | apply exVal | apply andCell | apply andBd | apply andCan | apply andThere); · exact tC_Kj) | (refine toSet ?_; refine tS_Kj H (fun w H => ?_)) | (refine toSets ?_; refine tG_Kj H (fun w H => ?_)) | refine H.drewK (fun w H => ?_) | refine H.allocK (fun w H => ?_)))
                  (refine (portLoad a.pa p hp u (s.at_ (s.ahead t))).go H (_ :: _ :: _ :: seatL _ _) _ rfl (fun w H => ?_); (try simp only [List.cons_append, List.nil_append, List.append_assoc] at H); (first | refine ⟨_, rfl, ?_⟩ | refine ⟨rfl, ?_⟩ | refine ⟨_, _, _, _, rfl, ?_⟩ | refine ⟨_, _, rfl, ?_⟩))
                  (repeat (first | refine PtrSome_at ?_ | refine andOne ?_ | ((first | apply exSlice | apply exInt | apply exBool | apply exPtr | apply exVal | apply andCell | apply andBd | apply andCan | apply andThere); · exact tC_Kj) | (refine toSet ?_; refine tS_Kj H (fun w H => ?_)) | (refine toSets ?_; refine tG_Kj H (fun w H => ?_)) | refine H.drewK (fun w H => ?_) | refine H.allocK (fun w H => ?_)))
                  (refine (packW (p.loadV u (s.at_ (s.ahead t))) []).go H [] _ rfl (fun w H => ?_); (try simp only [List.cons_append, List.nil_append, List.append_assoc] at H); (first | refine ⟨_, rfl, ?_⟩ | refine ⟨rfl, ?_⟩ | refine ⟨_, _, _, _, rfl, ?_⟩ | refine ⟨_, _, rfl, ?_⟩))
                  cases d3 : pkW (p.loadV u (s.at_ (s.ahead t)))
                  · simp only [Bool.not_false, Br_true]
                    (refine (hieGrant a s t true hs ht).go H [_] _ rfl (fun w H => ?_); (try simp only [List.cons_append, List.nil_append, List.append_assoc] at H); (first | refine ⟨_, rfl, ?_⟩ | refine ⟨rfl, ?_⟩ | refine ⟨_, _, _, _, rfl, ?_⟩ | refine ⟨_, _, rfl, ?_⟩))
                    (try simp only [List.cons_append, List.nil_append, List.append_assoc, hieL] at H ⊢)
                    (repeat (first | refine PtrSome_at ?_ | refine andOne ?_ | ((first | apply exSlice | apply exInt | apply exBool | apply exPtr | apply exVal | apply andCell | apply andBd | apply andCan | apply andThere); · exact tC_Kj) | (refine toSet ?_; refine tS_Kj H (fun w H => ?_)) | (refine toSets ?_; refine tG_Kj H (fun w H => ?_)) | refine H.drewK (fun w H => ?_) | refine H.allocK (fun w H => ?_)))
                    refine ⟨?_, H.tail.to ?_⟩
                    · simp only [if_neg c0, if_neg c1, if_neg c2, if_neg c3, if_neg c4, if_neg c5, if_neg c6, if_pos c7, d3, if_true]
                    · simp only [if_neg c0, if_neg c1, if_neg c2, if_neg c3, if_neg c4, if_neg c5, if_neg c6, if_pos c7, d3, if_true]
                      all_goals simp [hieL, JS.put, JS.pStep, JS.cluster, JS.node, JS.ahead, JS.last, JS.word, JS.pl, e2]
                  · simp only [Bool.not_true, Br_false]
                    (repeat (first | refine PtrSome_at ?_ | refine andOne ?_ | ((first | apply exSlice | apply exInt | apply exBool | apply exPtr | apply exVal | apply andCell | apply andBd | apply andCan | apply andThere); · exact tC_Kj) | (refine toSet ?_; refine tS_Kj H (fun w H => ?_)) | (refine toSets ?_; refine tG_Kj H (fun w H => ?_)) | refine H.drewK (fun w H => ?_) | refine H.allocK (fun w H => ?_)))
                    refine ⟨?_, H.tail.to ?_⟩
                    · simp only [if_neg c0, if_neg c1, if_neg c2, if_neg c3, if_neg c4, if_neg c5, if_neg c6, if_pos c7, d3, Bool.true_eq_false, if_false]
                    · simp only [if_neg c0, if_neg c1, if_neg c2, if_neg c3, if_neg c4, if_neg c5, if_neg c6, if_pos c7, d3, Bool.true_eq_false, if_false]
                      all_goals simp [hieL, JS.put, JS.pStep, JS.cluster, JS.node, JS.ahead, JS.last, JS.word, JS.pl, e2]
                · refine Br_neq c7 ?_
                  (repeat (first | refine PtrSome_at ?_ | refine andOne ?_ | ((first | apply exSlice | apply exInt | apply exBool | apply exPtr | apply exVal | apply andCell | apply andBd | apply andCan | apply andThere); · exact tC_Kj) | (refine toSet ?_; refine tS_Kj H (fun w H => ?_)) | (refine toSets ?_; refine tG_Kj H (fun w H => ?_)) | refine H.drewK (fun w H => ?_) | refine H.allocK (fun w H => ?_)))
                  refine ⟨?_, H.tail.to ?_⟩
                  · simp only [if_neg c0, if_neg c1, if_neg c2, if_neg c3, if_neg c4, if_neg c5, if_neg c6, if_neg c7]
                  · simp only [if_neg c0, if_neg c1, if_neg c2, if_neg c3, if_neg c4, if_neg c5, if_neg c6, if_neg c7]
                    all_goals simp [hieL]
theorem hieUse (a : JA) (s : JS) (C : Value) : Sp Tryz.prog 325 #[ptr a.l, ptr a.pa.p]
    ((a.l, [ptr a.sa.s, C, i64 s.tail, .slice (some ⟨a.rb, 0, none⟩) s.ss.l.length a.rc]) :: (a.rb, rows hiRow s.places) :: seatL a.sa s.ss) (.tuple #[]) (hieL a s) := by
  intro w0 S w B H
  simp only [List.cons_append, List.nil_append, List.append_assoc] at H
  refine callsHierLockUse _ _ _ _ ?_
  unfold preHierLockUse
  (repeat' (first | (first | refine PtrSome_at ?_ | refine andOne ?_ | ((first | apply exSlice | apply exInt | apply exBool | apply exPtr | apply exVal | apply andCell | apply andBd | apply andCan | apply andThere); · exact tC_Kj) | (refine toSet ?_; refine tS_Kj H (fun w H => ?_)) | (refine toSets ?_; refine tG_Kj H (fun w H => ?_)) | refine H.drewK (fun w H => ?_) | refine H.allocK (fun w H => ?_)) | (refine Br_split (fun h => ?_) (fun h => ?_) <;> (try simp only [decide_eq_true_eq, decide_eq_false_iff_not, Bool.not_eq_true', Bool.not_eq_false', bne_iff_ne, beq_iff_eq, bne_eq_false_iff_eq, beq_eq_false_iff_ne, Bool.not_eq_true, Bool.not_eq_false] at h))))
  exact ⟨rfl, H⟩
theorem hie_put_ss (s : JS) (t : Int) (x : HiPl) : (s.put t x).ss = s.ss := rfl
theorem hie_put_len (s : JS) (t : Int) (x : HiPl) : (s.put t x).places.length = s.places.length := by simp [JS.put]
theorem hie_lockS (s : JS) (p : PS) (t u : Int) : (s.lockS p t u).ss = s.ss ∧ (s.lockS p t u).places.length = s.places.length ∧ (s.lockS p t u).tail = s.tail := by
  unfold JS.lockS JS.pStep
  repeat' split
  all_goals simp [JS.put]
theorem hie_unS (s : JS) (p : PS) (t u : Int) : (s.unS p t u).ss = s.ss ∧ (s.unS p t u).places.length = s.places.length ∧ (s.unS p t u).tail = s.tail := by
  unfold JS.unS JS.pStep
  repeat' split
  all_goals simp [JS.put]
theorem hieStep (a : JA) (s : JS) (p : PS) (hs : s.wf) (hp : p.wf) (t u now : Int) :
    Sp Tryz.prog 324 #[ptr a.l, i64 t, i64 u, i64 now] (hieL a s ++ portL a.pa p) (didV (s.stepE p t u)) (hieL a (s.stepS p t u) ++ portL a.pa (s.stepP p t u)) := by
  intro w0 S w B H
  have e1 : s.ss.l.length ≤ s.places.length := hs
  (try simp only [List.cons_append, List.nil_append, List.append_assoc, hieL] at H ⊢)
  refine callsHierLockStep _ _ _ _ _ _ ?_
  unfold preHierLockStep
  (repeat (first | refine PtrSome_at ?_ | refine andOne ?_ | ((first | apply exSlice | apply exInt | apply exBool | apply exPtr | apply exVal | apply andCell | apply andBd | apply andCan | apply andThere); · exact tC_Kj) | (refine toSet ?_; refine tS_Kj H (fun w H => ?_)) | (refine toSets ?_; refine tG_Kj H (fun w H => ?_)) | refine H.drewK (fun w H => ?_) | refine H.allocK (fun w H => ?_)))
  (refine (seatState a.sa s.ss t).go H [_, _, _, _] _ rfl (fun w H => ?_); (try simp only [List.cons_append, List.nil_append, List.append_assoc] at H); (first | refine ⟨_, rfl, ?_⟩ | refine ⟨rfl, ?_⟩ | refine ⟨_, _, _, _, rfl, ?_⟩ | refine ⟨_, _, rfl, ?_⟩))
  by_cases c1 : s.ss.state t = 1
  · have ht := state_there c1 (by decide)
    obtain ⟨h1, h2⟩ := seat_there ht
    obtain ⟨l1, l2, l3⟩ := hie_lockS s p t u
    refine Br_eq c1 ?_
    (repeat (first | refine PtrSome_at ?_ | refine andOne ?_ | ((first | apply exSlice | apply exInt | apply exBool | apply exPtr | apply exVal | apply andCell | apply andBd | apply andCan | apply andThere); · exact tC_Kj) | (refine toSet ?_; refine tS_Kj H (fun w H => ?_)) | (refine toSets ?_; refine tG_Kj H (fun w H => ?_)) | refine H.drewK (fun w H => ?_) | refine H.allocK (fun w H => ?_)))
    (refine (hieLock a s p hs hp t u ht).go H [_, _] _ rfl (fun w H => ?_); (try simp only [List.cons_append, List.nil_append, List.append_assoc] at H); (first | refine ⟨_, rfl, ?_⟩ | refine ⟨rfl, ?_⟩ | refine ⟨_, _, _, _, rfl, ?_⟩ | refine ⟨_, _, rfl, ?_⟩))
    (try simp only [List.cons_append, List.nil_append, List.append_assoc, hieL] at H ⊢)
    (repeat (first | refine PtrSome_at ?_ | refine andOne ?_ | ((first | apply exSlice | apply exInt | apply exBool | apply exPtr | apply exVal | apply andCell | apply andBd | apply andCan | apply andThere); · exact tC_Kj) | (refine toSet ?_; refine tS_Kj H (fun w H => ?_)) | (refine toSets ?_; refine tG_Kj H (fun w H => ?_)) | refine H.drewK (fun w H => ?_) | refine H.allocK (fun w H => ?_)))
    (refine (seatEnd a.sa (s.lockS p t u).ss t (s.lockD p t u).ev).go H [_, _, _, _] _ rfl (fun w H => ?_); (try simp only [List.cons_append, List.nil_append, List.append_assoc] at H); (first | refine ⟨_, rfl, ?_⟩ | refine ⟨rfl, ?_⟩ | refine ⟨_, _, _, _, rfl, ?_⟩ | refine ⟨_, _, rfl, ?_⟩))
    (try simp only [List.cons_append, List.nil_append, List.append_assoc, hieL] at H ⊢)
    (repeat (first | refine PtrSome_at ?_ | refine andOne ?_ | ((first | apply exSlice | apply exInt | apply exBool | apply exPtr | apply exVal | apply andCell | apply andBd | apply andCan | apply andThere); · exact tC_Kj) | (refine toSet ?_; refine tS_Kj H (fun w H => ?_)) | (refine toSets ?_; refine tG_Kj H (fun w H => ?_)) | refine H.drewK (fun w H => ?_) | refine H.allocK (fun w H => ?_)))
    refine ⟨?_, H.tail.tail.to ?_⟩
    · simp [JS.stepE, c1]
    · simp [JS.stepS, JS.stepI, JS.stepE, JS.stepP, c1, hieL, l1]
  · refine Br_neq c1 ?_
    by_cases c2 : s.ss.state t = 3
    · have ht := state_there c2 (by decide)
      obtain ⟨h1, h2⟩ := seat_there ht
      obtain ⟨l1, l2, l3⟩ := hie_unS s p t u
      refine Br_eq c2 ?_
      (repeat (first | refine PtrSome_at ?_ | refine andOne ?_ | ((first | apply exSlice | apply exInt | apply exBool | apply exPtr | apply exVal | apply andCell | apply andBd | apply andCan | apply andThere); · exact tC_Kj) | (refine toSet ?_; refine tS_Kj H (fun w H => ?_)) | (refine toSets ?_; refine tG_Kj H (fun w H => ?_)) | refine H.drewK (fun w H => ?_) | refine H.allocK (fun w H => ?_)))
      (refine (hieUn a s p hs hp t u ht).go H [_, _] _ rfl (fun w H => ?_); (try simp only [List.cons_append, List.nil_append, List.append_assoc] at H); (first | refine ⟨_, rfl, ?_⟩ | refine ⟨rfl, ?_⟩ | refine ⟨_, _, _, _, rfl, ?_⟩ | refine ⟨_, _, rfl, ?_⟩))
      (try simp only [List.cons_append, List.nil_append, List.append_assoc, hieL] at H ⊢)
      (repeat (first | refine PtrSome_at ?_ | refine andOne ?_ | ((first | apply exSlice | apply exInt | apply exBool | apply exPtr | apply exVal | apply andCell | apply andBd | apply andCan | apply andThere); · exact tC_Kj) | (refine toSet ?_; refine tS_Kj H (fun w H => ?_)) | (refine toSets ?_; refine tG_Kj H (fun w H => ?_)) | refine H.drewK (fun w H => ?_) | refine H.allocK (fun w H => ?_)))
      (refine (seatEnd a.sa (s.unS p t u).ss t (s.unE p t u)).go H [_, _, _, _] _ rfl (fun w H => ?_); (try simp only [List.cons_append, List.nil_append, List.append_assoc] at H); (first | refine ⟨_, rfl, ?_⟩ | refine ⟨rfl, ?_⟩ | refine ⟨_, _, _, _, rfl, ?_⟩ | refine ⟨_, _, rfl, ?_⟩))
      (try simp only [List.cons_append, List.nil_append, List.append_assoc, hieL] at H ⊢)
      (repeat (first | refine PtrSome_at ?_ | refine andOne ?_ | ((first | apply exSlice | apply exInt | apply exBool | apply exPtr | apply exVal | apply andCell | apply andBd | apply andCan | apply andThere); · exact tC_Kj) | (refine toSet ?_; refine tS_Kj H (fun w H => ?_)) | (refine toSets ?_; refine tG_Kj H (fun w H => ?_)) | refine H.drewK (fun w H => ?_) | refine H.allocK (fun w H => ?_)))
      refine ⟨?_, H.tail.tail.to ?_⟩
      · simp [JS.stepE, c2]
      · simp [JS.stepS, JS.stepI, JS.stepE, JS.stepP, c2, hieL, l1]
    · refine Br_neq c2 ?_
      (repeat (first | refine PtrSome_at ?_ | refine andOne ?_ | ((first | apply exSlice | apply exInt | apply exBool | apply exPtr | apply exVal | apply andCell | apply andBd | apply andCan | apply andThere); · exact tC_Kj) | (refine toSet ?_; refine tS_Kj H (fun w H => ?_)) | (refine toSets ?_; refine tG_Kj H (fun w H => ?_)) | refine H.drewK (fun w H => ?_) | refine H.allocK (fun w H => ?_)))
      (refine (seatEnd a.sa s.ss t 0).go H [_, _, _, _] _ rfl (fun w H => ?_); (try simp only [List.cons_append, List.nil_append, List.append_assoc] at H); (first | refine ⟨_, rfl, ?_⟩ | refine ⟨rfl, ?_⟩ | refine ⟨_, _, _, _, rfl, ?_⟩ | refine ⟨_, _, rfl, ?_⟩))
      (try simp only [List.cons_append, List.nil_append, List.append_assoc, hieL] at H ⊢)
      (repeat (first | refine PtrSome_at ?_ | refine andOne ?_ | ((first | apply exSlice | apply exInt | apply exBool | apply exPtr | apply exVal | apply andCell | apply andBd | apply andCan | apply andThere); · exact tC_Kj) | (refine toSet ?_; refine tS_Kj H (fun w H => ?_)) | (refine toSets ?_; refine tG_Kj H (fun w H => ?_)) | refine H.drewK (fun w H => ?_) | refine H.allocK (fun w H => ?_)))
      refine ⟨?_, H.tail.tail.to ?_⟩
      · simp [JS.stepE, c1, c2]
      · simp [JS.stepS, JS.stepI, JS.stepE, JS.stepP, c1, c2, hieL]
end Go.Proofs.YtollfjfcdofbaaaGreat
