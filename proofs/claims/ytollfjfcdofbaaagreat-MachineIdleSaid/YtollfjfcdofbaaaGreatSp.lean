/- Blocks owned, and contracts over them. -/
import Derived.Test.YtollfjfcdofbaaaGreatHp
namespace Go.Proofs.YtollfjfcdofbaaaGreat
open Go
set_option linter.unusedSimpArgs false
set_option linter.unusedVariables false

/-- block b holds the cells cs, of whatever type -/
def Bk (w : World) (b : Nat) (cs : List Value) : Prop := ∃ T, Blk w b cs.toArray T
namespace Bk
variable {w : World} {b : Nat} {cs : List Value}
theorem lt (h : Bk w b cs) : b < w.heap.size := h.elim fun _ h => h.lt
theorem cells (h : Bk w b cs) (o : Nat) : w.cell? ⟨b, o, none⟩ = cs[o]? := h.elim fun _ h => (h.cells o).trans (by simp)
theorem cell (h : Bk w b cs) {o : Nat} {v : Value} (hv : cs[o]? = some v) : w.cell? ⟨b, o, none⟩ = some v := (h.cells o).trans hv
theorem free (h : Bk w b cs) (o : Nat) : w.frozen? ⟨b, o, none⟩ = false := h.elim fun _ h => h.free o
theorem can (h : Bk w b cs) {o : Nat} (ho : o < cs.length) : CanSet w b o := h.elim fun _ h => h.can (by simpa using ho)
theorem there (h : Bk w b cs) {o n : Nat} (ho : o + n ≤ cs.length) : w.there b o n := h.elim fun _ h => h.there (by simpa using ho)
theorem set (h : Bk w b cs) (o : Nat) (v : Value) : Bk (w.setCell ⟨b, o, none⟩ v) b (cs.set o v) := h.elim fun T h => ⟨T, by have := h.set o v; simpa using this⟩
theorem set_ne (h : Bk w b cs) {b' : Nat} (hne : b ≠ b') (o : Nat) (v : Value) : Bk (w.setCell ⟨b', o, none⟩ v) b cs := h.elim fun T h => ⟨T, h.set_ne hne o v⟩
theorem alloc (h : Bk w b cs) (o : Obj) : Bk (w.alloc o) b cs := h.elim fun T h => ⟨T, h.alloc o⟩
theorem new (w : World) (cs : Array Value) (T : TypeId) : Bk (w.alloc (.cells cs T)) w.heap.size cs.toList := ⟨T, by have := Blk.new w cs T; simpa using this⟩
theorem drew (h : Bk w b cs) : Bk w.drew b cs := h
theorem upd {S : List Nat} {w0 : World} (hb : Bk w0 b cs) (h : Upd S w0 w) (hn : b ∉ S) : Bk w b cs := hb.elim fun T hb => ⟨T, h.blk hb hn⟩
end Bk

abbrev Blocks := List (Nat × List Value)
/-- from w0, with the blocks S turned at most, we stand at w and own the blocks L -/
structure St (w0 : World) (S : List Nat) (w : World) (L : Blocks) : Prop where
  nd : (L.map (·.1)).Nodup
  bk : ∀ p ∈ L, Bk w p.1 p.2
  upd : Upd S w0 w
  own : ∀ p ∈ L, p.1 ∈ S ∨ w0.heap.size ≤ p.1
namespace St
variable {w0 w : World} {S : List Nat} {L : Blocks} {b : Nat} {cs : List Value}
theorem start {L : Blocks} (nd : (L.map (·.1)).Nodup) (bk : ∀ p ∈ L, Bk w p.1 p.2) : St w (L.map (·.1)) w L :=
  ⟨nd, bk, Upd.refl _ _, fun p hp => Or.inl (List.mem_map_of_mem hp)⟩
theorem bkAt (H : St w0 S w L) (i : Nat) (h : L[i]? = some (b, cs)) : Bk w b cs := H.bk _ (List.mem_of_getElem? h)
theorem cell (H : St w0 S w L) (i : Nat) (h : L[i]? = some (b, cs)) {o : Nat} {v : Value} (hv : cs[o]? = some v) : w.cell? ⟨b, o, none⟩ = some v := (H.bkAt i h).cell hv
theorem can (H : St w0 S w L) (i : Nat) (h : L[i]? = some (b, cs)) {o : Nat} (ho : o < cs.length) : CanSet w b o := (H.bkAt i h).can ho
theorem frz (H : St w0 S w L) (i : Nat) (h : L[i]? = some (b, cs)) (o : Nat) : w.frozen? ⟨b, o, none⟩ = false := (H.bkAt i h).free o
theorem to {L' : Blocks} (H : St w0 S w L) (h : L = L') : St w0 S w L' := h ▸ H
theorem perm {L' : Blocks} (H : St w0 S w L) (h : L.Perm L') : St w0 S w L' :=
  ⟨(h.map _).nodup_iff.1 H.nd, fun p hp => H.bk p (h.mem_iff.2 hp), H.upd, fun p hp => H.own p (h.mem_iff.2 hp)⟩
theorem tail {x : Nat × List Value} (H : St w0 S w (x :: L)) : St w0 S w L :=
  ⟨(List.nodup_cons.1 H.nd).2, fun p hp => H.bk p (List.mem_cons_of_mem _ hp), H.upd, fun p hp => H.own p (List.mem_cons_of_mem _ hp)⟩
theorem left {L' : Blocks} (H : St w0 S w (L ++ L')) : St w0 S w L :=
  ⟨by have := H.nd; rw [List.map_append] at this; exact (List.nodup_append.1 this).1, fun p hp => H.bk p (List.mem_append_left _ hp), H.upd, fun p hp => H.own p (List.mem_append_left _ hp)⟩
theorem right {L' : Blocks} (H : St w0 S w (L ++ L')) : St w0 S w L' :=
  ⟨by have := H.nd; rw [List.map_append] at this; exact (List.nodup_append.1 this).2.1, fun p hp => H.bk p (List.mem_append_right _ hp), H.upd, fun p hp => H.own p (List.mem_append_right _ hp)⟩
theorem keys_set (L : Blocks) (i : Nat) (h : L[i]? = some (b, cs)) (cs' : List Value) : (L.set i (b, cs')).map (·.1) = L.map (·.1) := by
  rw [List.map_set]
  refine List.ext_getElem? fun j => ?_
  rw [List.getElem?_set]
  by_cases hj : i = j
  · subst hj
    simp only [if_true, List.length_map, List.getElem?_map, h, Option.map_some]
    rw [if_pos (List.getElem?_eq_some_iff.1 h).1]
  · simp [hj]
theorem ne_of_nd {L : Blocks} (nd : (L.map (·.1)).Nodup) {i j : Nat} {p q : Nat × List Value} (hi : L[i]? = some p) (hj : L[j]? = some q) (hij : i ≠ j) : p.1 ≠ q.1 := by
  have hp := List.pairwise_iff_getElem.1 nd
  obtain ⟨h1, h2⟩ := List.getElem?_eq_some_iff.1 hi
  obtain ⟨h3, h4⟩ := List.getElem?_eq_some_iff.1 hj
  subst h2 h4
  rcases Nat.lt_or_gt_of_ne hij with hl | hl
  · have := hp i j (by simpa using h1) (by simpa using h3) hl
    simpa using this
  · have := hp j i (by simpa using h3) (by simpa using h1) hl
    simpa using this.symm
theorem set (H : St w0 S w L) (i : Nat) (h : L[i]? = some (b, cs)) (o : Nat) (v : Value) : St w0 S (w.setCell ⟨b, o, none⟩ v) (L.set i (b, cs.set o v)) := by
  have hm := List.mem_of_getElem? h
  refine ⟨by rw [keys_set L i h]; exact H.nd, fun p hp => ?_, H.upd.set (H.own _ hm) o v, fun p hp => ?_⟩
  · obtain ⟨j, hj⟩ := List.mem_iff_getElem?.1 hp
    rw [List.getElem?_set] at hj
    by_cases hij : i = j
    · subst hij
      simp only [if_true] at hj
      rw [if_pos (List.getElem?_eq_some_iff.1 h).1] at hj
      cases hj
      exact (H.bkAt i h).set o v
    · rw [if_neg hij] at hj
      exact (H.bk p (List.mem_of_getElem? hj)).set_ne (ne_of_nd H.nd hj h (fun e => hij e.symm)) o v
  · have : p.1 ∈ (L.set i (b, cs.set o v)).map (·.1) := List.mem_map_of_mem hp
    rw [keys_set L i h] at this
    obtain ⟨q, hq, e⟩ := List.mem_map.1 this
    rw [← e]; exact H.own q hq
theorem drew (H : St w0 S w L) : St w0 S w.drew L := ⟨H.nd, fun p hp => (H.bk p hp).drew, H.upd.drew, H.own⟩
theorem alloc (H : St w0 S w L) (cs : Array Value) (T : TypeId) : St w0 S (w.alloc (.cells cs T)) ((w.heap.size, cs.toList) :: L) := by
  refine ⟨?_, fun p hp => ?_, H.upd.alloc _, fun p hp => ?_⟩
  · rw [List.map_cons]
    refine List.nodup_cons.2 ⟨fun hm => ?_, H.nd⟩
    obtain ⟨q, hq, e⟩ := List.mem_map.1 hm
    have := (H.bk q hq).lt
    simp only at e; omega
  · rcases List.mem_cons.1 hp with rfl | hp
    · exact Bk.new _ _ _
    · exact (H.bk p hp).alloc _
  · rcases List.mem_cons.1 hp with rfl | hp
    · exact Or.inr H.upd.size
    · exact H.own p hp

/-! what the computed Props ask -/
variable {K : World → Prop} {o : Nat} {v : Value}
theorem setK (H : St w0 S w L) (i : Nat) (h : L[i]? = some (b, cs)) (k : ∀ w', St w0 S w' (L.set i (b, cs.set o v)) → K w') : ∀ w', w' = w.setCell ⟨b, o, none⟩ v → K w' := by
  rintro _ rfl; exact k _ (H.set i h o v)
theorem drewK (H : St w0 S w L) (k : ∀ w', St w0 S w' L → K w') : ∀ w', w' = w.drew → K w' := by rintro _ rfl; exact k _ H.drew
theorem allocK {cs : Array Value} {T : TypeId} (H : St w0 S w L) (k : ∀ w', St w0 S w' ((w.heap.size, cs.toList) :: L) → K w') : ∀ w', w' = w.alloc (.cells cs T) → K w' := by
  rintro _ rfl; exact k _ (H.alloc cs T)
end St

/-! ## Kinds of contents -/
def ints (k : IntKind) (xs : List Int) : List Value := xs.map (Value.int k)
def bools (xs : List Bool) : List Value := xs.map Value.bool
def rows {α : Type} (f : α → List Value) (xs : List α) : List Value := xs.flatMap f
@[simp] theorem ints_len (k : IntKind) (xs : List Int) : (ints k xs).length = xs.length := by simp [ints]
@[simp] theorem bools_len (xs : List Bool) : (bools xs).length = xs.length := by simp [bools]
theorem ints_at {k : IntKind} {xs : List Int} {i : Nat} (h : i < xs.length) : (ints k xs)[i]? = some (.int k (xs.getD i 0)) := by simp [ints, h]
theorem bools_at {xs : List Bool} {i : Nat} (h : i < xs.length) : (bools xs)[i]? = some (.bool (xs.getD i false)) := by simp [bools, h]
theorem ints_set (k : IntKind) (xs : List Int) (i : Nat) (x : Int) : (ints k xs).set i (.int k x) = ints k (xs.set i x) := by simp [ints, List.map_set]
theorem bools_set (xs : List Bool) (i : Nat) (x : Bool) : (bools xs).set i (.bool x) = bools (xs.set i x) := by simp [bools, List.map_set]
theorem rows_len {α : Type} {f : α → List Value} {s : Nat} (hf : ∀ x, (f x).length = s) (xs : List α) : (rows f xs).length = xs.length * s := rowsA_len hf xs
theorem rows_at {α : Type} [Inhabited α] {f : α → List Value} {s : Nat} (hf : ∀ x, (f x).length = s) {xs : List α} {i j : Nat} {v : Value} (h : i < xs.length) (hj : j < s)
    (hv : (f (xs.getD i default))[j]? = some v) : (rows f xs)[i * s + j]? = some v := by
  rw [← hv]; exact rowsA_getL hf xs i j _ (by simp [h]) hj
theorem rows_set {α : Type} [Inhabited α] {f : α → List Value} {s : Nat} (hf : ∀ x, (f x).length = s) {xs : List α} {i j : Nat} {y : α} {v : Value} (h : i < xs.length) (hj : j < s)
    (hy : f y = (f (xs.getD i default)).set j v) : (rows f xs).set (i * s + j) v = rows f (xs.set i y) := rowsA_setL hf xs i j _ y v (by simp [h]) hj hy

namespace St
variable {w0 w : World} {S : List Nat} {L : Blocks} {b : Nat}
section ints
variable {k : IntKind} {xs : List Int} {i : Nat}
theorem cellI (H : St w0 S w L) (n : Nat) (h : L[n]? = some (b, ints k xs)) (hi : i < xs.length) : w.cell? ⟨b, 0 + i, none⟩ = some (.int k (xs.getD i 0)) :=
  H.cell n h (by rw [Nat.zero_add]; exact ints_at hi)
theorem canI (H : St w0 S w L) (n : Nat) (h : L[n]? = some (b, ints k xs)) (hi : i < xs.length) : CanSet w b (0 + i) := H.can n h (by simpa using hi)
theorem setI (H : St w0 S w L) (n : Nat) (h : L[n]? = some (b, ints k xs)) {x : Int} {K : World → Prop} (kk : ∀ w', St w0 S w' (L.set n (b, ints k (xs.set i x))) → K w') :
    ∀ w', w' = w.setCell ⟨b, 0 + i, none⟩ (.int k x) → K w' := H.setK n h (by rw [Nat.zero_add, ints_set]; exact kk)
end ints
section bools
variable {xs : List Bool} {i : Nat}
theorem cellB (H : St w0 S w L) (n : Nat) (h : L[n]? = some (b, bools xs)) (hi : i < xs.length) : w.cell? ⟨b, 0 + i, none⟩ = some (.bool (xs.getD i false)) :=
  H.cell n h (by rw [Nat.zero_add]; exact bools_at hi)
theorem canB (H : St w0 S w L) (n : Nat) (h : L[n]? = some (b, bools xs)) (hi : i < xs.length) : CanSet w b (0 + i) := H.can n h (by simpa using hi)
theorem setB (H : St w0 S w L) (n : Nat) (h : L[n]? = some (b, bools xs)) {x : Bool} {K : World → Prop} (kk : ∀ w', St w0 S w' (L.set n (b, bools (xs.set i x))) → K w') :
    ∀ w', w' = w.setCell ⟨b, 0 + i, none⟩ (.bool x) → K w' := H.setK n h (by rw [Nat.zero_add, bools_set]; exact kk)
end bools
section rows
variable {α : Type} {f : α → List Value} {s : Nat} {xs : List α} {i j : Nat} {v : Value}
theorem cellR [Inhabited α] (hf : ∀ x, (f x).length = s) (H : St w0 S w L) (n : Nat) (h : L[n]? = some (b, rows f xs)) (hi : i < xs.length) (hj : j < s) (hv : (f (xs.getD i default))[j]? = some v) :
    w.cell? ⟨b, 0 + i * s + j, none⟩ = some v := H.cell n h (by rw [Nat.zero_add]; exact rows_at hf hi hj hv)
theorem cellR0 [Inhabited α] (hf : ∀ x, (f x).length = s) (H : St w0 S w L) (n : Nat) (h : L[n]? = some (b, rows f xs)) (hi : i < xs.length) (hj : 0 < s) (hv : (f (xs.getD i default))[0]? = some v) :
    w.cell? ⟨b, 0 + i * s, none⟩ = some v := cellR hf H n h hi hj hv
theorem canR (hf : ∀ x, (f x).length = s) (H : St w0 S w L) (n : Nat) (h : L[n]? = some (b, rows f xs)) (hi : i < xs.length) (hj : j < s) : CanSet w b (0 + i * s + j) :=
  H.can n h (by
    rw [rows_len hf]
    have : (i + 1) * s ≤ xs.length * s := Nat.mul_le_mul_right _ hi
    rw [Nat.add_mul, Nat.one_mul] at this
    omega)
theorem canR0 (hf : ∀ x, (f x).length = s) (H : St w0 S w L) (n : Nat) (h : L[n]? = some (b, rows f xs)) (hi : i < xs.length) (hj : 0 < s) : CanSet w b (0 + i * s) := canR hf H n h hi hj (j := 0)
theorem setR [Inhabited α] (hf : ∀ x, (f x).length = s) (H : St w0 S w L) (n : Nat) (h : L[n]? = some (b, rows f xs)) (y : α) (hi : i < xs.length) (hj : j < s) (hy : f y = (f (xs.getD i default)).set j v)
    {K : World → Prop} (kk : ∀ w', St w0 S w' (L.set n (b, rows f (xs.set i y))) → K w') : ∀ w', w' = w.setCell ⟨b, 0 + i * s + j, none⟩ v → K w' :=
  H.setK n h (by rw [Nat.zero_add, rows_set hf hi hj hy]; exact kk)
theorem setR0 [Inhabited α] (hf : ∀ x, (f x).length = s) (H : St w0 S w L) (n : Nat) (h : L[n]? = some (b, rows f xs)) (y : α) (hi : i < xs.length) (hj : 0 < s) (hy : f y = (f (xs.getD i default)).set 0 v)
    {K : World → Prop} (kk : ∀ w', St w0 S w' (L.set n (b, rows f (xs.set i y))) → K w') : ∀ w', w' = w.setCell ⟨b, 0 + i * s, none⟩ v → K w' := setR hf H n h y hi hj hy kk
theorem thereR (hf : ∀ x, (f x).length = s) (H : St w0 S w L) (n : Nat) (h : L[n]? = some (b, rows f xs)) (hi : i < xs.length) : w.there b (0 + i * s) s :=
  (H.bkAt n h).there (by
    rw [rows_len hf]
    have : (i + 1) * s ≤ xs.length * s := Nat.mul_le_mul_right _ hi
    rw [Nat.add_mul, Nat.one_mul] at this
    omega)
theorem setsV (cs : List Value) (H : St w0 S w L) (n : Nat) (h : L[n]? = some (b, cs)) (vs : List Value) (o : Nat) (ho : o + vs.length ≤ cs.length) :
    St w0 S (w.setCells b o vs) (L.set n (b, cs.take o ++ vs ++ cs.drop (o + vs.length))) := by
  induction vs generalizing w cs o L with
  | nil =>
    have e : cs.take o ++ [] ++ cs.drop (o + ([] : List Value).length) = cs := by simp
    rw [e]
    have e2 : L.set n (b, cs) = L := by
      obtain ⟨h1, h2⟩ := List.getElem?_eq_some_iff.1 h
      rw [← h2]; exact List.set_getElem_self h1
    rw [e2]; exact H
  | cons v vs ih =>
    have H1 := H.set n h o v
    have hl : o < cs.length := by simp at ho; omega
    have h1 : (L.set n (b, cs.set o v))[n]? = some (b, cs.set o v) := by
      rw [List.getElem?_set]; simp [(List.getElem?_eq_some_iff.1 h).1]
    have := ih (cs.set o v) H1 h1 (o + 1) (by simp at ho ⊢; omega)
    rw [List.set_set] at this
    have e : (cs.set o v).take (o + 1) ++ vs ++ (cs.set o v).drop (o + 1 + vs.length) = cs.take o ++ (v :: vs) ++ cs.drop (o + (v :: vs).length) := by
      have e : cs.set o v = cs.take o ++ v :: cs.drop (o + 1) := by rw [List.set_eq_take_append_cons_drop, if_pos hl]
      have lt : (cs.take o).length = o := by rw [List.length_take]; omega
      have t1 : (cs.set o v).take (o + 1) = cs.take o ++ [v] := by
        rw [e, List.take_append, lt, List.take_of_length_le (by omega)]
        simp
      have t2 : (cs.set o v).drop (o + 1 + vs.length) = cs.drop (o + (vs.length + 1)) := by
        rw [List.drop_set_of_lt (by omega)]
        congr 1; omega
      rw [t1, t2]
      simp [List.append_assoc]
    rw [e] at this
    exact this
theorem setsR (hf : ∀ x, (f x).length = s) (H : St w0 S w L) (n : Nat) (h : L[n]? = some (b, rows f xs)) (y : α) (hi : i < xs.length) {vs : List Value} (hv : vs = f y)
    {K : World → Prop} (kk : ∀ w', St w0 S w' (L.set n (b, rows f (xs.set i y))) → K w') : ∀ w', w' = w.setCells b (0 + i * s) vs → K w' := by
  rintro _ rfl
  subst hv
  refine kk _ ?_
  have hle : i * s + (f y).length ≤ (rows f xs).length := by
    rw [rows_len hf, hf, show i * s + s = (i + 1) * s from by rw [Nat.add_mul, Nat.one_mul]]
    exact Nat.mul_le_mul_right _ hi
  have H1 := setsV _ H n h (f y) (i * s) hle
  rw [Nat.zero_add]
  refine H1.to ?_
  congr 2
  have := rowsA_put hf xs i y hi
  change putCells (rows f xs).toArray (i * s) (f y) = (rows f (xs.set i y)).toArray at this
  rw [putCells_toArray _ _ _ hle] at this
  exact congrArg Array.toList this
end rows
end St

namespace St
variable {w0 w : World} {S : List Nat} {L : Blocks} {b : Nat} {cs vs : List Value} {K : World → Prop}
theorem thereF (H : St w0 S w L) (n : Nat) {k : Nat} (h : L[n]? = some (b, cs)) (hl : k = cs.length) : w.there b 0 k := (H.bkAt n h).there (by omega)
theorem setsF (H : St w0 S w L) (n : Nat) (h : L[n]? = some (b, cs)) (hl : vs.length = cs.length) (kk : ∀ w', St w0 S w' (L.set n (b, vs)) → K w') :
    ∀ w', w' = w.setCells b 0 vs → K w' := by
  rintro _ rfl
  refine kk _ ((setsV cs H n h vs 0 (by omega)).to ?_)
  rw [Nat.zero_add, hl, List.drop_length]; simp
end St

/-- pairs of whole numbers -/
abbrev accRow (x : Int × Int) : List Value := [.int .i64 x.1, .int .i64 x.2]
namespace St
variable {w0 w : World} {S : List Nat} {L : Blocks} {b : Nat} {xs : List (Int × Int)} {i : Nat} {v v' : Int} {K : World → Prop}
theorem setP0 (H : St w0 S w L) (n : Nat) (h : L[n]? = some (b, rows accRow xs)) (hi : i < xs.length) (kk : ∀ w', St w0 S w' (L.set n (b, rows accRow (xs.set i (v, (xs.getD i default).2)))) → K w') :
    ∀ w', w' = w.setCell ⟨b, 0 + i * 2, none⟩ (.int .i64 v) → K w' := setR0 (f := accRow) (s := 2) (fun _ => rfl) H n h (v, (xs.getD i default).2) hi (by decide) rfl kk
theorem setP1 (H : St w0 S w L) (n : Nat) (h : L[n]? = some (b, rows accRow xs)) (hi : i < xs.length) (kk : ∀ w', St w0 S w' (L.set n (b, rows accRow (xs.set i ((xs.getD i default).1, v)))) → K w') :
    ∀ w', w' = w.setCell ⟨b, 0 + i * 2 + 1, none⟩ (.int .i64 v) → K w' := setR (f := accRow) (s := 2) (fun _ => rfl) H n h ((xs.getD i default).1, v) hi (by decide) rfl kk
theorem setsP (H : St w0 S w L) (n : Nat) (h : L[n]? = some (b, rows accRow xs)) (hi : i < xs.length) (kk : ∀ w', St w0 S w' (L.set n (b, rows accRow (xs.set i (v, v')))) → K w') :
    ∀ w', w' = w.setCells b (0 + i * 2) [.int .i64 v, .int .i64 v'] → K w' := setsR (f := accRow) (s := 2) (fun _ => rfl) H n h (v, v') hi rfl kk
theorem thereP (H : St w0 S w L) (n : Nat) (h : L[n]? = some (b, rows accRow xs)) (hi : i < xs.length) : w.there b (0 + i * 2) 2 := thereR (f := accRow) (s := 2) (fun _ => rfl) H n h hi
end St

/-! ## Contracts -/
/-- f, where the blocks A lie, returns r and leaves A' of them; nothing else turns -/
def Sp (P : Program) (f : FuncId) (args : Array Value) (A : Blocks) (r : Value) (A' : Blocks) : Prop :=
  ∀ (w0 : World) (S : List Nat) (w : World) (B : Blocks), St w0 S w (A ++ B) → Calls P f args w fun e w' => e = .returned r ∧ St w0 S w' (A' ++ B)
def SpE (P : Program) (f : FuncId) (args : Array Value) (A : Blocks) (Q : Value → Blocks → Prop) : Prop :=
  ∀ (w0 : World) (S : List Nat) (w : World) (B : Blocks), St w0 S w (A ++ B) → Calls P f args w fun e w' => ∃ r A', e = .returned r ∧ Q r A' ∧ St w0 S w' (A' ++ B)
theorem mid_perm (X A B : Blocks) : (X ++ (A ++ B)).Perm (A ++ (X ++ B)) := by
  rw [← List.append_assoc, ← List.append_assoc]
  exact List.perm_append_comm.append_right B
section
variable {P : Program} {f : FuncId} {args : Array Value} {A A' : Blocks} {r : Value} {w0 w : World} {S : List Nat} {L : Blocks} {K : Ending → World → Prop}
theorem Sp.go (h : Sp P f args A r A') (H : St w0 S w L) (X B : Blocks) (hL : L = X ++ (A ++ B)) (k : ∀ w', St w0 S w' (X ++ (A' ++ B)) → K (.returned r) w') : Calls P f args w K := by
  subst hL
  refine (h w0 S w (X ++ B) (H.perm (mid_perm X A B))).mono ?_
  rintro e w' ⟨rfl, H'⟩
  exact k w' (H'.perm (mid_perm X A' B).symm)
theorem SpE.go {Q : Value → Blocks → Prop} (h : SpE P f args A Q) (H : St w0 S w L) (X B : Blocks) (hL : L = X ++ (A ++ B)) (k : ∀ r A' w', Q r A' → St w0 S w' (X ++ (A' ++ B)) → K (.returned r) w') : Calls P f args w K := by
  subst hL
  refine (h w0 S w (X ++ B) (H.perm (mid_perm X A B))).mono ?_
  rintro e w' ⟨r, A', rfl, hq, H'⟩
  exact k r A' w' hq (H'.perm (mid_perm X A' B).symm)
end
theorem Br_split {c : Bool} {A B : Prop} (h1 : c = true → A) (h2 : c = false → B) : Br c A B := by
  cases c
  · exact h2 rfl
  · exact h1 rfl
/-! the steps of a walk: first the block is found, then what is in it -/
def SetG (w : World) (b o : Nat) (v : Value) (K : World → Prop) : Prop := K (w.setCell ⟨b, o, none⟩ v)
def SetsG (w : World) (b o : Nat) (vs : List Value) (K : World → Prop) : Prop := K (w.setCells b o vs)
section
variable {w0 w : World} {S : List Nat} {L : Blocks} {b o : Nat} {cs vs : List Value} {v : Value} {K : World → Prop}
theorem toSet (h : SetG w b o v K) : ∀ w', w' = w.setCell ⟨b, o, none⟩ v → K w' := by rintro _ rfl; exact h
theorem toSets (h : SetsG w b o vs K) : ∀ w', w' = w.setCells b o vs → K w' := by rintro _ rfl; exact h
theorem bkCell (h : Bk w b cs) (hv : cs[o]? = some v) : w.cell? ⟨b, o, none⟩ = some v := h.cell hv
theorem bkCan (h : Bk w b cs) (ho : o < cs.length) : CanSet w b o := h.can ho
theorem bkThere {n : Nat} (h : Bk w b cs) (ho : o + n ≤ cs.length) : w.there b o n := h.there ho
theorem bkSet (H : St w0 S w L) (i : Nat) (h : L[i]? = some (b, cs)) (k : ∀ w', St w0 S w' (L.set i (b, cs.set o v)) → K w') : SetG w b o v K := k _ (H.set i h o v)
theorem bkSets (H : St w0 S w L) (i : Nat) (h : L[i]? = some (b, cs)) (hl : o + vs.length ≤ cs.length) (k : ∀ w', St w0 S w' (L.set i (b, cs.take o ++ vs ++ cs.drop (o + vs.length))) → K w') : SetsG w b o vs K :=
  k _ (H.setsV cs i h vs o hl)
theorem ints_at0 {k : IntKind} {xs : List Int} {i : Nat} (h : i < xs.length) : (ints k xs)[0 + i]? = some (.int k (xs.getD i 0)) := by rw [Nat.zero_add]; exact ints_at h
theorem bools_at0 {xs : List Bool} {i : Nat} (h : i < xs.length) : (bools xs)[0 + i]? = some (.bool (xs.getD i false)) := by rw [Nat.zero_add]; exact bools_at h
theorem ints_lt {k : IntKind} {xs : List Int} {i : Nat} (h : i < xs.length) : 0 + i < (ints k xs).length := by simpa using h
theorem bools_lt {xs : List Bool} {i : Nat} (h : i < xs.length) : 0 + i < (bools xs).length := by simpa using h
theorem ints_set0 (k : IntKind) (xs : List Int) (i : Nat) (x : Int) : (ints k xs).set (0 + i) (.int k x) = ints k (xs.set i x) := by rw [Nat.zero_add]; exact ints_set k xs i x
theorem bools_set0 (xs : List Bool) (i : Nat) (x : Bool) : (bools xs).set (0 + i) (.bool x) = bools (xs.set i x) := by rw [Nat.zero_add]; exact bools_set xs i x
section
variable {α : Type} {f : α → List Value} {s : Nat} {xs : List α} {i j : Nat}
theorem rows_at1 [Inhabited α] (hf : ∀ x, (f x).length = s) (hj : j < s) (h : i < xs.length) (hv : (f (xs.getD i default))[j]? = some v) : (rows f xs)[0 + i * s + j]? = some v := by rw [Nat.zero_add]; exact rows_at hf h hj hv
theorem rows_at0 [Inhabited α] (hf : ∀ x, (f x).length = s) (hj : 0 < s) (h : i < xs.length) (hv : (f (xs.getD i default))[0]? = some v) : (rows f xs)[0 + i * s]? = some v := rows_at1 hf hj h hv
theorem rows_lt1 (hf : ∀ x, (f x).length = s) (hj : j < s) (h : i < xs.length) : 0 + i * s + j < (rows f xs).length := by
  rw [rows_len hf]
  have : (i + 1) * s ≤ xs.length * s := Nat.mul_le_mul_right _ h
  rw [Nat.add_mul, Nat.one_mul] at this
  omega
theorem rows_lt0 (hf : ∀ x, (f x).length = s) (hj : 0 < s) (h : i < xs.length) : 0 + i * s < (rows f xs).length := rows_lt1 hf hj h
theorem rows_le (hf : ∀ x, (f x).length = s) (h : i < xs.length) : 0 + i * s + s ≤ (rows f xs).length := by
  rw [rows_len hf]
  have : (i + 1) * s ≤ xs.length * s := Nat.mul_le_mul_right _ h
  rw [Nat.add_mul, Nat.one_mul] at this
  omega
/-- a cell of a row, or no row -/
theorem rows_set1 [Inhabited α] (hf : ∀ x, (f x).length = s) (hj : j < s) (xs : List α) (i : Nat) (y : α) (hy : f y = (f (xs.getD i default)).set j v) : (rows f xs).set (0 + i * s + j) v = rows f (xs.set i y) := by
  by_cases h : i < xs.length
  · rw [Nat.zero_add]; exact rows_set hf h hj hy
  · rw [List.set_eq_of_length_le, List.set_eq_of_length_le (by omega)]
    rw [rows_len hf]
    have : xs.length * s ≤ i * s := Nat.mul_le_mul_right _ (by omega)
    omega
theorem rows_set0 [Inhabited α] (hf : ∀ x, (f x).length = s) (hj : 0 < s) (xs : List α) (i : Nat) (y : α) (hy : f y = (f (xs.getD i default)).set 0 v) : (rows f xs).set (0 + i * s) v = rows f (xs.set i y) := rows_set1 hf hj xs i y hy
/-- a whole row -/
theorem rows_sets (hf : ∀ x, (f x).length = s) (xs : List α) (i : Nat) (y : α) (h : i < xs.length) {vs : List Value} (hv : vs = f y) :
    (rows f xs).take (0 + i * s) ++ vs ++ (rows f xs).drop (0 + i * s + vs.length) = rows f (xs.set i y) := by
  subst hv
  rw [Nat.zero_add]
  have hle : i * s + (f y).length ≤ (rows f xs).length := by
    rw [hf]; have := rows_le hf h; omega
  have := rowsA_put hf xs i y h
  change putCells (rows f xs).toArray (i * s) (f y) = (rows f (xs.set i y)).toArray at this
  rw [putCells_toArray _ _ _ hle] at this
  exact congrArg Array.toList this
end
theorem pair_set0 (xs : List (Int × Int)) (i : Nat) (v : Int) : (rows accRow xs).set (0 + i * 2) (.int .i64 v) = rows accRow (xs.set i (v, (xs.getD i default).2)) :=
  rows_set0 (f := accRow) (s := 2) (fun _ => rfl) (by decide) xs i (v, (xs.getD i default).2) rfl
theorem pair_set1 (xs : List (Int × Int)) (i : Nat) (v : Int) : (rows accRow xs).set (0 + i * 2 + 1) (.int .i64 v) = rows accRow (xs.set i ((xs.getD i default).1, v)) :=
  rows_set1 (f := accRow) (s := 2) (fun _ => rfl) (by decide) xs i ((xs.getD i default).1, v) rfl
theorem bkSetsF (H : St w0 S w L) (i : Nat) (h : L[i]? = some (b, cs)) (hl : vs.length = cs.length) (k : ∀ w', St w0 S w' (L.set i (b, vs)) → K w') : SetsG w b 0 vs K := St.setsF H i h hl (K := fun w' => K w') k _ rfl
theorem bkSetsP {xs : List (Int × Int)} {j : Nat} {v v' : Int} (H : St w0 S w L) (i : Nat) (h : L[i]? = some (b, rows accRow xs)) (hj : j < xs.length) (k : ∀ w', St w0 S w' (L.set i (b, rows accRow (xs.set j (v, v')))) → K w') :
    SetsG w b (0 + j * 2) [.int .i64 v, .int .i64 v'] K := St.setsP H i h hj (K := fun w' => K w') k _ rfl
end
attribute [irreducible] ints bools rows
section
variable {w : World} {a : Addr}
theorem exSlice {p : Option Addr} {l c : Nat} {K : Option Addr → Nat → Nat → Prop} (h : w.cell? a = some (.slice p l c)) (k : K p l c) : ∃ p l c, w.cell? a = some (.slice p l c) ∧ K p l c := ⟨p, l, c, h, k⟩
theorem exInt {kd : IntKind} {n : Int} {K : Int → Prop} (h : w.cell? a = some (.int kd n)) (k : K n) : ∃ n, w.cell? a = some (.int kd n) ∧ K n := ⟨n, h, k⟩
theorem exBool {n : Bool} {K : Bool → Prop} (h : w.cell? a = some (.bool n)) (k : K n) : ∃ n, w.cell? a = some (.bool n) ∧ K n := ⟨n, h, k⟩
theorem exPtr {p : Option Addr} {K : Option Addr → Prop} (h : w.cell? a = some (.pointer p)) (k : K p) : ∃ p, w.cell? a = some (.pointer p) ∧ K p := ⟨p, h, k⟩
theorem exVal {v : Value} {K : Value → Prop} (h : w.cell? a = some v) (k : K v) : ∃ v, w.cell? a = some v ∧ K v := ⟨v, h, k⟩
theorem andCan {b o : Nat} {K : Prop} (h : CanSet w b o) (k : K) : CanSet w b o ∧ K := ⟨h, k⟩
theorem andThere {b o n : Nat} {K : Prop} (h : w.there b o n) (k : K) : w.there b o n ∧ K := ⟨h, k⟩
theorem andCell {w : World} {a : Addr} {v : Value} {K : Prop} (h : w.cell? a = some v) (k : K) : w.cell? a = some v ∧ K := ⟨h, k⟩
theorem andBd {x y : Int} {K : Prop} (h : 0 ≤ x ∧ x < y) (k : K) : (0 ≤ x ∧ x < y) ∧ K := ⟨h, k⟩
end
/-- what a step tells -/
structure Dd where
  ev : Int
  enq : Bool := false
  arr : Bool := false
  lead : Bool := false
@[reducible] def didV (d : Dd) : Value := .agg #[.int .i64 d.ev, .bool d.enq, .bool d.arr, .bool d.lead]
end Go.Proofs.YtollfjfcdofbaaaGreat
