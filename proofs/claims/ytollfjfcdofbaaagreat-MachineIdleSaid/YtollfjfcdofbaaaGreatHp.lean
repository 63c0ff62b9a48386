/- Blocks of the heap, known whole; what a call leaves of them. -/
import Derived.Test.YtollfjfcdofbaaaGreatEng6
namespace Go.Proofs.YtollfjfcdofbaaaGreat
open Go
set_option linter.unusedSimpArgs false
set_option linter.unusedVariables false

/-- block b holds the cells cs -/
def Blk (w : World) (b : Nat) (cs : Array Value) (T : TypeId) : Prop := w.heap[b]? = some (.cells cs T (0, 0))
namespace Blk
variable {w : World} {b : Nat} {cs : Array Value} {T : TypeId}
theorem lt (h : Blk w b cs T) : b < w.heap.size := (Array.getElem?_eq_some_iff.1 h).1
theorem cells (h : Blk w b cs T) (o : Nat) : w.cell? ⟨b, o, none⟩ = cs[o]? := cell_of_row w b o cs T (0, 0) h
theorem cell (h : Blk w b cs T) {o : Nat} {v : Value} (hv : cs[o]? = some v) : w.cell? ⟨b, o, none⟩ = some v := (h.cells o).trans hv
theorem free (h : Blk w b cs T) (o : Nat) : w.frozen? ⟨b, o, none⟩ = false := frozen_of_row w b o cs T h
theorem can (h : Blk w b cs T) {o : Nat} (ho : o < cs.size) : CanSet w b o := ⟨⟨_, h.cell (Array.getElem?_eq_getElem ho)⟩, h.free o⟩
theorem there (h : Blk w b cs T) {o n : Nat} (ho : o + n ≤ cs.size) : w.there b o n := fun j hj =>
  ⟨by rw [h.cells, Array.getElem?_eq_getElem (by omega)]; rfl, h.free _⟩
theorem set (h : Blk w b cs T) (o : Nat) (v : Value) : Blk (w.setCell ⟨b, o, none⟩ v) b (cs.setIfInBounds o v) T := heap_setCell_same w b o cs T v h
theorem set_ne (h : Blk w b cs T) {b' : Nat} (hne : b ≠ b') (o : Nat) (v : Value) : Blk (w.setCell ⟨b', o, none⟩ v) b cs T := by
  unfold Blk; rw [heap_setCell_other w ⟨b', o, none⟩ b v hne]; exact h
theorem sets (h : Blk w b cs T) : ∀ (vs : List Value) (o : Nat), Blk (w.setCells b o vs) b (putCells cs o vs) T := by
  intro vs
  induction vs generalizing w cs with
  | nil => intro o; exact h
  | cons v vs ih => intro o; exact ih (h.set o v) (o + 1)
theorem sets_ne {b' : Nat} (hne : b ≠ b') : ∀ (vs : List Value) (o : Nat) {w : World}, Blk w b cs T → Blk (w.setCells b' o vs) b cs T
  | [], _, _, h => h
  | v :: vs, o, _, h => sets_ne hne vs (o + 1) (h.set_ne hne o v)
theorem alloc (h : Blk w b cs T) (o : Obj) : Blk (w.alloc o) b cs T := by
  unfold Blk; rw [Go.RowKit.Below.heap_alloc w o b h.lt]; exact h
theorem new (w : World) (cs : Array Value) (T : TypeId) : Blk (w.alloc (.cells cs T)) w.heap.size cs T := heap_alloc_new w _
theorem drew (h : Blk w b cs T) : Blk w.drew b cs T := h
theorem inj {cs' : Array Value} {T' : TypeId} (h : Blk w b cs T) (h' : Blk w b cs' T') : cs = cs' ∧ T = T' := by
  unfold Blk at h h'
  rw [h] at h'
  cases h'
  exact ⟨rfl, rfl⟩
end Blk

/-- from w0 to w nothing that was there has turned but the blocks of S -/
structure Upd (S : List Nat) (w0 w : World) : Prop where
  os : w.os = w0.os
  tape : w.tape = w0.tape
  output : w.output = w0.output
  size : w0.heap.size ≤ w.heap.size
  block : ∀ k, k < w0.heap.size → k ∉ S → w.heap[k]? = w0.heap[k]?
namespace Upd
variable {S : List Nat} {w0 w : World}
theorem refl (S : List Nat) (w : World) : Upd S w w := ⟨rfl, rfl, rfl, Nat.le_refl _, fun _ _ _ => rfl⟩
theorem trans {w1 w2 : World} (h : Upd S w0 w1) (k : Upd S w1 w2) : Upd S w0 w2 :=
  ⟨k.os.trans h.os, k.tape.trans h.tape, k.output.trans h.output, Nat.le_trans h.size k.size, fun i hi hn => (k.block i (Nat.lt_of_lt_of_le hi h.size) hn).trans (h.block i hi hn)⟩
theorem mono {S' : List Nat} (h : Upd S w0 w) (hs : ∀ k ∈ S, k ∈ S') : Upd S' w0 w := ⟨h.os, h.tape, h.output, h.size, fun k hk hn => h.block k hk (fun h => hn (hs k h))⟩
/-- two steps, the second one's blocks being old ones of S or new ones -/
theorem trans' {S' : List Nat} {w1 w2 : World} (h : Upd S w0 w1) (k : Upd S' w1 w2) (hs : ∀ x ∈ S', x ∈ S ∨ w0.heap.size ≤ x) : Upd S w0 w2 :=
  ⟨k.os.trans h.os, k.tape.trans h.tape, k.output.trans h.output, Nat.le_trans h.size k.size, fun i hi hn =>
    (k.block i (Nat.lt_of_lt_of_le hi h.size) (fun hi' => by rcases hs i hi' with h1 | h1; exact hn h1; omega)).trans (h.block i hi hn)⟩
theorem drew (h : Upd S w0 w) : Upd S w0 w.drew := ⟨h.os, h.tape, h.output, h.size, h.block⟩
theorem alloc (h : Upd S w0 w) (o : Obj) : Upd S w0 (w.alloc o) :=
  h.trans ⟨rfl, rfl, rfl, by simp, fun k hk _ => Go.RowKit.Below.heap_alloc w o k hk⟩
theorem set (h : Upd S w0 w) {b : Nat} (hb : b ∈ S ∨ w0.heap.size ≤ b) (o : Nat) (v : Value) : Upd S w0 (w.setCell ⟨b, o, none⟩ v) :=
  ⟨h.os, h.tape, h.output, by simpa using h.size, fun k hk hn => by
    rw [heap_setCell_other w ⟨b, o, none⟩ k v (fun e => by simp only at e; subst e; rcases hb with h1 | h1; exact hn h1; omega)]
    exact h.block k hk hn⟩
theorem sets {b : Nat} (hb : b ∈ S ∨ w0.heap.size ≤ b) : ∀ (vs : List Value) (o : Nat) {w : World}, Upd S w0 w → Upd S w0 (w.setCells b o vs)
  | [], _, _, h => h
  | v :: vs, o, _, h => sets hb vs (o + 1) (h.set hb o v)
theorem blk {b : Nat} {cs : Array Value} {T : TypeId} (h : Upd S w0 w) (hb : Blk w0 b cs T) (hn : b ∉ S) : Blk w b cs T := by
  unfold Blk; rw [h.block b hb.lt hn]; exact hb
theorem of_grown {row : Option Nat} (hg : w0.grownBy w row) (hr : ∀ k, row = some k → k ∈ S ∨ w0.heap.size ≤ k) : Upd S w0 w :=
  ⟨hg.os, hg.tape, hg.output, hg.size, fun k hk hn => hg.block k hk (fun e => by rcases hr k e.symm with h | h; exact hn h; omega)⟩
theorem below {B : Nat} (h : Upd S w0 w) (hB : B ≤ w0.heap.size) (hs : ∀ k ∈ S, B ≤ k) : Go.RowKit.Below B w0 w :=
  ⟨h.os, h.tape, h.output, h.size, fun k hk => h.block k (by omega) (fun hm => by have := hs k hm; omega)⟩
end Upd

/-! ## Rows -/
/-- rows of structs in one block -/
def rowsA {α : Type} (f : α → List Value) (xs : List α) : Array Value := (xs.flatMap f).toArray
section rows
variable {α : Type} {f : α → List Value} {s : Nat}
theorem rowsA_len (hf : ∀ x, (f x).length = s) : ∀ xs : List α, (xs.flatMap f).length = xs.length * s
  | [] => by simp
  | x :: xs => by
    rw [List.flatMap_cons, List.length_append, hf, rowsA_len hf xs, List.length_cons, Nat.add_mul, Nat.one_mul, Nat.add_comm]
theorem rowsA_size (hf : ∀ x, (f x).length = s) (xs : List α) : (rowsA f xs).size = xs.length * s := by
  simp only [rowsA, List.size_toArray]; exact rowsA_len hf xs
theorem rowsA_getL (hf : ∀ x, (f x).length = s) : ∀ (xs : List α) (i j : Nat) (x : α), xs[i]? = some x → j < s → (xs.flatMap f)[i * s + j]? = (f x)[j]?
  | [], _, _, _, h, _ => by simp at h
  | y :: ys, i, j, x, h, hj => by
    rw [List.flatMap_cons]
    cases i with
    | zero =>
      simp only [List.getElem?_cons_zero, Option.some.injEq] at h
      subst h
      rw [Nat.zero_mul, Nat.zero_add, List.getElem?_append_left (by rw [hf]; exact hj)]
    | succ i =>
      simp only [List.getElem?_cons_succ] at h
      rw [List.getElem?_append_right (by rw [hf, Nat.add_mul, Nat.one_mul]; omega), hf]
      rw [show (i + 1) * s + j - s = i * s + j from by rw [Nat.add_mul, Nat.one_mul]; omega]
      exact rowsA_getL hf ys i j x h hj
theorem rowsA_get (hf : ∀ x, (f x).length = s) {xs : List α} {i j : Nat} {x : α} (h : xs[i]? = some x) (hj : j < s) : (rowsA f xs)[i * s + j]? = (f x)[j]? := by
  simp only [rowsA, List.getElem?_toArray]; exact rowsA_getL hf xs i j x h hj
theorem rowsA_setL (hf : ∀ x, (f x).length = s) : ∀ (xs : List α) (i j : Nat) (x y : α) (v : Value), xs[i]? = some x → j < s → f y = (f x).set j v →
    (xs.flatMap f).set (i * s + j) v = (xs.set i y).flatMap f
  | [], _, _, _, _, _, h, _, _ => by simp at h
  | z :: zs, i, j, x, y, v, h, hj, hy => by
    rw [List.flatMap_cons]
    cases i with
    | zero =>
      simp only [List.getElem?_cons_zero, Option.some.injEq] at h
      subst h
      rw [Nat.zero_mul, Nat.zero_add, List.set_append_left _ _ (by rw [hf]; exact hj), List.set_cons_zero, List.flatMap_cons, hy]
    | succ i =>
      simp only [List.getElem?_cons_succ] at h
      rw [List.set_append_right _ _ (by rw [hf, Nat.add_mul, Nat.one_mul]; omega), hf]
      rw [show (i + 1) * s + j - s = i * s + j from by rw [Nat.add_mul, Nat.one_mul]; omega]
      rw [rowsA_setL hf zs i j x y v h hj hy, List.set_cons_succ, List.flatMap_cons]
theorem rowsA_set (hf : ∀ x, (f x).length = s) {xs : List α} {i j : Nat} {x y : α} {v : Value} (h : xs[i]? = some x) (hj : j < s) (hy : f y = (f x).set j v) :
    (rowsA f xs).setIfInBounds (i * s + j) v = rowsA f (xs.set i y) := by
  simp only [rowsA, List.setIfInBounds_toArray]
  rw [rowsA_setL hf xs i j x y v h hj hy]
theorem putCells_toArray : ∀ (vs : List Value) (o : Nat) (l : List Value), o + vs.length ≤ l.length → putCells l.toArray o vs = (l.take o ++ vs ++ l.drop (o + vs.length)).toArray
  | [], o, l, _ => by simp [putCells]
  | v :: vs, o, l, h => by
    simp only [putCells, List.setIfInBounds_toArray]
    rw [putCells_toArray vs (o + 1) (l.set o v) (by simp at h ⊢; omega)]
    congr 1
    have ho : o < l.length := by simp at h; omega
    have e : l.set o v = l.take o ++ v :: l.drop (o + 1) := by rw [List.set_eq_take_append_cons_drop, if_pos ho]
    have lt : (l.take o).length = o := by rw [List.length_take]; omega
    have t1 : (l.set o v).take (o + 1) = l.take o ++ [v] := by
      rw [e, List.take_append, lt, List.take_of_length_le (by omega)]
      simp
    have t2 : (l.set o v).drop (o + 1 + vs.length) = l.drop (o + (vs.length + 1)) := by
      rw [List.drop_set_of_lt (by omega)]
      congr 1; omega
    rw [t1, t2]
    simp [List.append_assoc]
theorem rowsA_put (hf : ∀ x, (f x).length = s) : ∀ (xs : List α) (i : Nat) (y : α), i < xs.length → putCells (rowsA f xs) (i * s) (f y) = rowsA f (xs.set i y) := by
  intro xs i y hi
  have hlen := rowsA_len hf xs
  have hle : i * s + (f y).length ≤ (xs.flatMap f).length := by
    rw [hf, hlen, show i * s + s = (i + 1) * s from by rw [Nat.add_mul, Nat.one_mul]]
    exact Nat.mul_le_mul_right _ hi
  simp only [rowsA]
  rw [putCells_toArray _ _ _ hle]
  congr 1
  clear hle hlen
  induction xs generalizing i with
  | nil => simp at hi
  | cons x xs ih =>
    cases i with
    | zero =>
      simp only [Nat.zero_mul, List.take_zero, List.nil_append, Nat.zero_add, List.set_cons_zero, List.flatMap_cons]
      rw [hf, List.drop_append_of_le_length (by rw [hf]; exact Nat.le_refl _), List.drop_of_length_le (by rw [hf]; exact Nat.le_refl _), List.nil_append]
    | succ i =>
      have := ih i (by simpa using hi)
      simp only [List.flatMap_cons, List.set_cons_succ]
      rw [← this]
      have e1 : (i + 1) * s = (f x).length + i * s := by rw [hf, Nat.add_mul, Nat.one_mul, Nat.add_comm]
      rw [e1, List.take_length_add_append, Nat.add_assoc, List.drop_length_add_append]
      simp [List.append_assoc]
end rows

/-- a row of integers -/
abbrev intRow (k : IntKind) (x : Int) : List Value := [.int k x]
def intsA (k : IntKind) (xs : List Int) : Array Value := (xs.map (Value.int k)).toArray
theorem intsA_size (k : IntKind) (xs : List Int) : (intsA k xs).size = xs.length := by simp [intsA]
theorem intsA_get {k : IntKind} {xs : List Int} {i : Nat} {x : Int} (h : xs[i]? = some x) : (intsA k xs)[i]? = some (.int k x) := by simp [intsA, h]
theorem intsA_set (k : IntKind) (xs : List Int) (i : Nat) (x : Int) : (intsA k xs).setIfInBounds i (.int k x) = intsA k (xs.set i x) := by simp [intsA]
def boolsA (xs : List Bool) : Array Value := (xs.map Value.bool).toArray
theorem boolsA_size (xs : List Bool) : (boolsA xs).size = xs.length := by simp [boolsA]
theorem boolsA_get {xs : List Bool} {i : Nat} {x : Bool} (h : xs[i]? = some x) : (boolsA xs)[i]? = some (.bool x) := by simp [boolsA, h]
theorem boolsA_set (xs : List Bool) (i : Nat) (x : Bool) : (boolsA xs).setIfInBounds i (.bool x) = boolsA (xs.set i x) := by simp [boolsA]
theorem madeCells_one (v : Value) (n : Nat) : madeCells #[v] n = (List.replicate n v).toArray := by
  apply Array.ext'
  simp only [madeCells, Array.toList_map, Array.toList_range]
  refine List.ext_getElem? fun i => ?_
  by_cases h : i < n
  · simp [h, Nat.mod_one]
  · simp [h]
theorem madeCells_ints (k : IntKind) (x : Int) (n : Nat) : madeCells #[.int k x] n = intsA k (List.replicate n x) := by rw [madeCells_one]; simp [intsA]
theorem madeCells_bools (x : Bool) (n : Nat) : madeCells #[.bool x] n = boolsA (List.replicate n x) := by rw [madeCells_one]; simp [boolsA]
theorem madeCells_rows {α : Type} (f : α → List Value) (x : α) (n : Nat) (h0 : 0 < (f x).length) : madeCells (f x).toArray (n * (f x).length) = rowsA f (List.replicate n x) := by
  apply Array.ext'
  simp only [madeCells, Array.toList_map, Array.toList_range, rowsA]
  refine List.ext_getElem? fun i => ?_
  have hlen : ∀ m, ((List.replicate m x).flatMap f).length = m * (f x).length := by
    intro m
    induction m with
    | zero => simp
    | succ m ih => rw [List.replicate_succ, List.flatMap_cons, List.length_append, ih, Nat.add_mul, Nat.one_mul, Nat.add_comm]
  by_cases h : i < n * (f x).length
  · have hget : ∀ m i, i < m * (f x).length → ((List.replicate m x).flatMap f)[i]? = (f x)[i % (f x).length]? := by
      intro m
      induction m with
      | zero => intro i hi; simp at hi
      | succ m ih =>
        intro i hi
        rw [List.replicate_succ, List.flatMap_cons]
        by_cases hi' : i < (f x).length
        · rw [List.getElem?_append_left hi', Nat.mod_eq_of_lt hi']
        · rw [List.getElem?_append_right (by omega), ih _ (by rw [Nat.add_mul, Nat.one_mul] at hi; omega)]
          rw [show i % (f x).length = (i - (f x).length) % (f x).length from Nat.mod_eq_sub_mod (by omega)]
    rw [hget n i h]
    have hm := Nat.mod_lt i h0
    simp [h, hm]
  · rw [List.getElem?_eq_none (by simp; omega), List.getElem?_eq_none (by rw [hlen]; omega)]

/-! ## Words of the computed Props, met -/
theorem PtrSome_at {b o : Nat} {K : Nat → Nat → Prop} (h : K b o) : PtrSome (some ⟨b, o, none⟩) K := h
@[simp] theorem PtrSome_some (b o : Nat) (K : Nat → Nat → Prop) : PtrSome (some ⟨b, o, none⟩) K = K b o := rfl
@[simp] theorem Br_true (A B : Prop) : Br true A B = A := rfl
@[simp] theorem Br_false (A B : Prop) : Br false A B = B := rfl
theorem Br_t {p : Prop} [Decidable p] {A B : Prop} (hp : p) (h : A) : Br (decide p) A B := by simpa [Br, hp] using h
theorem Br_f {p : Prop} [Decidable p] {A B : Prop} (hp : ¬ p) (h : B) : Br (decide p) A B := by simpa [Br, hp] using h
theorem Br_eq {x y : Int} {A B : Prop} (hp : x = y) (h : A) : Br (x == y) A B := by simpa [Br, hp] using h
theorem Br_neq {x y : Int} {A B : Prop} (hp : ¬ x = y) (h : B) : Br (x == y) A B := by
  have : (x == y) = false := by simpa using hp
  rw [this]; exact h
theorem Br_ne {x y : Int} {A B : Prop} (hp : ¬ x = y) (h : A) : Br (x != y) A B := by
  have : (x != y) = true := by simpa using hp
  rw [this]; exact h
theorem Br_nne {x y : Int} {A B : Prop} (hp : x = y) (h : B) : Br (x != y) A B := by
  have : (x != y) = false := by simpa using hp
  rw [this]; exact h
theorem wrap_i64 {x : Int} (h1 : -9223372036854775808 ≤ x) (h2 : x ≤ 9223372036854775807) : IntKind.i64.wrap x = x := by
  rw [IntKind.wrap_i64]; omega
end Go.Proofs.YtollfjfcdofbaaaGreat
