/- Slices that grow. -/
import Derived.Test.YtollfjfcdofbaaaGreatSp
import Derived.Maps.AppendAt
namespace Go.Proofs.YtollfjfcdofbaaaGreat
open Go
set_option linter.unusedSimpArgs false
set_option linter.unusedVariables false

/-- a slice of rows: where, and all rows that its array has room for -/
def slB {α : Type} (f : α → List Value) (p : Option Nat) (all : List α) : Blocks := match p with
  | none => []
  | some b => [(b, rows f all)]
def slA (p : Option Nat) : Option Addr := p.map fun b => ⟨b, 0, none⟩
theorem run_append_room_any {P : Program} (w : World) (t ty e T : TypeId) (i : TypeInfo) (ht : P.underlying t = some (.slice e)) (hi : P.info? e = some i)
    (g sLen sCap : Nat) (cur : Array Value) (hg : w.heap[g]? = some (.cells cur T (0, 0)))
    (a : Addr) (m c : Nat) (news : List Value) (hl : news.length = m * i.size) (hnews : ∀ j u, news[j]? = some u → w.cell? (a.add j) = some u) (h1 : ∀ u ∈ news, u.oneCell' = true)
    (hroom : sLen + m ≤ sCap) (hfit : sLen * i.size + news.length ≤ cur.size) :
    (Builtin.append_ #[t, t] ty #[.slice (some ⟨g, 0, none⟩) sLen sCap, .slice (some a) m c]).run P w =
      .ok (.slice (some ⟨g, 0, none⟩) (sLen + m) sCap) (w.setRow g (cur.toList.take (sLen * i.size) ++ news ++ cur.toList.drop (sLen * i.size + news.length)).toArray) := by
  have hf := run_firstCells_some (P := P) w i.size m a m c news hl hnews
  have hst := run_storeCells_at P g (sLen * i.size) T news 0 cur w hg (by simpa using hfit) h1
  simp only [Nat.add_zero] at hst
  simp [Builtin.append_, run_underlying ht, sizeOf, typeInfo, hi, Builtin.lenOf, hroom, hf, Addr.add_lit, hst]
theorem Bk.setRow {w : World} {b : Nat} {cs : List Value} (h : Bk w b cs) (cs' : List Value) : Bk (w.setRow b cs'.toArray) b cs' := h.elim fun T h => ⟨T, setRow_heap w b _ _ T _ h⟩
theorem Bk.setRow_ne {w : World} {b b' : Nat} {cs : List Value} (h : Bk w b cs) (hne : b ≠ b') (cs' : Array Value) : Bk (w.setRow b' cs') b cs := h.elim fun T h => ⟨T, by unfold Blk; rw [setRow_other w b' b cs' hne]; exact h⟩
theorem Upd.setRow {S : List Nat} {w0 w : World} (h : Upd S w0 w) {b : Nat} (hb : b ∈ S ∨ w0.heap.size ≤ b) (cs : Array Value) : Upd S w0 (w.setRow b cs) :=
  ⟨h.os, h.tape, h.output, by simpa [World.setRow] using h.size, fun k hk hn => by
    rw [setRow_other w b k cs (fun e => by subst e; rcases hb with h1 | h1; exact hn h1; omega)]
    exact h.block k hk hn⟩
theorem St.setRow {w0 w : World} {S : List Nat} {X B : Blocks} {b : Nat} {cs : List Value} (H : St w0 S w (X ++ ((b, cs) :: B))) (cs' : List Value) : St w0 S (w.setRow b cs'.toArray) (X ++ ((b, cs') :: B)) := by
  have hm : (b, cs) ∈ X ++ ((b, cs) :: B) := by simp
  have hnd := H.nd
  simp only [List.map_append, List.map_cons] at hnd
  have hne : ∀ p ∈ X ++ B, p.1 ≠ b := by
    intro p hp e
    have h1 := (List.perm_middle (a := b) (l₁ := X.map (·.1)) (l₂ := B.map (·.1))).nodup_iff.1 hnd
    rw [List.nodup_cons] at h1
    refine h1.1 ?_
    rw [← List.map_append, ← e]
    exact List.mem_map_of_mem hp
  refine ⟨by simpa using hnd, fun p hp => ?_, H.upd.setRow (H.own _ hm) _, fun p hp => ?_⟩
  · simp only [List.mem_append, List.mem_cons] at hp
    rcases hp with hp | rfl | hp
    · exact (H.bk p (by simp [hp])).setRow_ne (hne p (by simp [hp])) _
    · exact (H.bk _ hm).setRow cs'
    · exact (H.bk p (by simp [hp])).setRow_ne (hne p (by simp [hp])) _
  · simp only [List.mem_append, List.mem_cons] at hp
    rcases hp with hp | rfl | hp
    · exact H.own p (by simp [hp])
    · exact H.own (b, cs) hm
    · exact H.own p (by simp [hp])
theorem St.drop1 {w0 w : World} {S : List Nat} {X B : Blocks} {p : Nat × List Value} (H : St w0 S w (X ++ (p :: B))) : St w0 S w (X ++ B) := by
  have h := H.perm (List.perm_middle (a := p) (l₁ := X) (l₂ := B))
  exact h.tail
theorem zeroCells_rows {α : Type} (f : α → List Value) (z0 : α) (z : Array Value) (hz : f z0 = z.toList) (h0 : 0 < (f z0).length) (k : Nat) : (Builtin.zeroCells z k).toList = (List.replicate k z0).flatMap f := by
  have h := madeCells_rows f z0 k h0
  have e : z = (f z0).toArray := by rw [hz]
  have e2 : Builtin.zeroCells z k = madeCells (f z0).toArray (k * (f z0).length) := by rw [e]; simp [Builtin.zeroCells, madeCells]
  rw [e2, h]; simp [rowsA]
theorem app1 {P : Program} {w0 w : World} {S : List Nat} {L : Blocks} {α : Type} (f : α → List Value) (s bytes : Nat) (z0 : α) (t ty e : TypeId) (i : TypeInfo) (z : Value)
    (ht : P.underlying t = some (.slice e)) (hi : P.info? e = some i) (hz : i.zero = some z) (hsize : i.size = s) (hby : i.bytes = bytes) (hs : 0 < s) (hf : ∀ x, (f x).length = s) (hz0 : f z0 = z.cells.toList)
    (h1 : ∀ x, ∀ u ∈ f x, u.oneCell' = true)
    (H : St w0 S w L) (X B : Blocks) (p : Option Nat) (all : List α) (n : Nat) (x : α) (hL : L = X ++ (slB f p all ++ B)) (hn : n ≤ all.length) (hp : p = none → all = [])
    {nb : Nat} {c : Nat} (k : Nat) (hk : L[k]? = some (nb, f x)) (hb : (n + 1) * bytes ≤ 140737488355328) (hb0 : 0 < bytes)
    {K : Option Addr → Nat → Nat → World → Prop}
    (kk : ∀ p' all' w', all'.take (n + 1) = all.take n ++ [x] → n + 1 ≤ all'.length → St w0 S w' (X ++ (slB f (some p') all' ++ B)) → K (some ⟨p', 0, none⟩) (n + 1) all'.length w') :
    AppQ P #[t, t] ty #[.slice (slA p) n all.length, .slice (some ⟨nb, 0, none⟩) 1 c] w K := by
  subst hsize hby
  have hbk := H.bkAt k hk
  have hnews : ∀ j u, (f x)[j]? = some u → w.cell? ((⟨nb, 0, none⟩ : Addr).add j) = some u := by
    intro j u hu
    rw [Addr.add_lit, Nat.zero_add]
    exact hbk.cell hu
  have hm : n + 1 ≤ (n + 1) * i.bytes := Nat.le_mul_of_pos_right _ hb0
  have hl1 : (f x).length = 1 * i.size := by rw [hf]; omega
  have tk : ∀ m, ((all.take n).flatMap f ++ f x) ++ (List.replicate m z0).flatMap f = (all.take n ++ [x] ++ List.replicate m z0).flatMap f := by intro m; simp
  have tlen : (all.take n).length = n := by rw [List.length_take]; omega
  cases p with
  | none =>
    have ha := hp rfl
    subst ha
    simp only [List.length_nil, Nat.le_zero] at hn
    subst hn
    have hr := run_append_nil (P := P) w t ty e i z ht hi hz ⟨nb, 0, none⟩ 1 c (f x) hl1 hnews (by omega) (by omega) (by omega)
    refine ⟨_, _, _, _, hr, ?_⟩
    have hge := grownCap_ge w 1 0 e
    have e1 : grownCap w 1 0 e = (([] : List α).take 0 ++ [x] ++ List.replicate (grownCap w 1 0 e - 1) z0).length := by simp; omega
    subst hL
    have H2 := (H.drew).alloc ((f x).toArray ++ Builtin.zeroCells z.cells (grownCap w 1 0 e - 1)) e
    simp only [slB, List.nil_append] at H2
    have H3 := H2.perm (List.perm_middle (l₁ := X)).symm
    have e3 : ((f x).toArray ++ Builtin.zeroCells z.cells (grownCap w 1 0 e - 1)).toList = rows f (([] : List α).take 0 ++ [x] ++ List.replicate (grownCap w 1 0 e - 1) z0) := by
      rw [Array.toList_append, zeroCells_rows f z0 z.cells hz0 (by rw [hf]; exact hs), rows]; simp
    rw [e3] at H3
    have := kk w.heap.size _ _ (by simp) (by simp) H3
    rw [← e1] at this
    exact this
  | some b =>
    subst hL
    simp only [slB, List.cons_append, List.nil_append] at H kk
    have hbb : Bk w b (rows f all) := H.bk (b, rows f all) (by simp)
    by_cases hroom : n + 1 ≤ all.length
    · obtain ⟨T, hT⟩ := hbb
      have hle : (n + 1) * i.size ≤ all.length * i.size := Nat.mul_le_mul_right _ hroom
      have hr := run_append_room_any (P := P) w t ty e T i ht hi b n all.length _ hT ⟨nb, 0, none⟩ 1 c (f x) hl1 hnews (h1 x) hroom (by
        rw [List.size_toArray, rows_len hf, hf]; rw [Nat.add_mul, Nat.one_mul] at hle; omega)
      refine ⟨_, _, _, _, hr, ?_⟩
      have H2 := H.setRow ((rows f all).take (n * i.size) ++ f x ++ (rows f all).drop (n * i.size + (f x).length))
      have e1 : (rows f all).take (n * i.size) ++ f x ++ (rows f all).drop (n * i.size + (f x).length) = rows f (all.set n x) := by
        have := rows_sets hf all n x (by omega) (vs := f x) rfl
        rwa [Nat.zero_add] at this
      rw [e1] at H2
      have e2 : all.length = (all.set n x).length := by simp
      rw [e2]
      refine kk b _ _ ?_ (by simpa using hroom) ?_
      · refine List.ext_getElem? fun j => ?_
        rw [List.getElem?_take, List.getElem?_set, List.getElem?_append, tlen]
        by_cases hj : j < n
        · rw [if_pos (by omega), if_neg (by omega), if_pos hj, List.getElem?_take, if_pos hj]
        · by_cases hj2 : j = n
          · subst hj2; simp; omega
          · rw [if_neg (by omega), if_neg hj, List.getElem?_eq_none]; simp; omega
      · simp only [List.toList_toArray]
        rw [← e1] at H2 ⊢
        exact H2
    · have hnl : n = all.length := by omega
      have holds : ∀ j u, ((all.take n).flatMap f)[j]? = some u → w.cell? ((⟨b, 0, none⟩ : Addr).add j) = some u := by
        intro j u hu
        rw [Addr.add_lit, Nat.zero_add]
        refine hbb.cell ?_
        rw [hnl, List.take_length] at hu
        rw [rows]; exact hu
      have hr := run_append_grow (P := P) w t ty e i z ht hi hz ⟨b, 0, none⟩ n all.length ((all.take n).flatMap f) (by rw [rowsA_len hf, tlen]) holds ⟨nb, 0, none⟩ 1 c (f x) hl1 hnews (by omega) (by omega) (growslice_fits (by omega) hb)
      refine ⟨_, _, _, _, hr, ?_⟩
      have hge := grownCap_ge w (n + 1) all.length e
      have e1 : grownCap w (n + 1) all.length e = (all.take n ++ [x] ++ List.replicate (grownCap w (n + 1) all.length e - (n + 1)) z0).length := by simp [tlen]; omega
      have H2 := (H.drop1.drew).alloc (((all.take n).flatMap f).toArray ++ (f x).toArray ++ Builtin.zeroCells z.cells (grownCap w (n + 1) all.length e - (n + 1))) e
      have H3 := H2.perm (List.perm_middle (l₁ := X)).symm
      have e3 : (((all.take n).flatMap f).toArray ++ (f x).toArray ++ Builtin.zeroCells z.cells (grownCap w (n + 1) all.length e - (n + 1))).toList = rows f (all.take n ++ [x] ++ List.replicate (grownCap w (n + 1) all.length e - (n + 1)) z0) := by
        rw [Array.toList_append, Array.toList_append, zeroCells_rows f z0 z.cells hz0 (by rw [hf]; exact hs), rows, ← tk]
      rw [e3] at H3
      have := kk w.heap.size (all.take n ++ [x] ++ List.replicate (grownCap w (n + 1) all.length e - (n + 1)) z0) _ (by rw [List.take_append_of_le_length (by simp [tlen]), List.take_of_length_le (by simp [tlen])]) (by simp [tlen]) H3
      rw [← e1] at this
      exact this
/-- the same, what is asked of the types in two equations -/
theorem app1' {P : Program} {w0 w : World} {S : List Nat} {L : Blocks} {α : Type} (f : α → List Value) (s bytes : Nat) (z0 : α) (t ty e : TypeId) (z : Value)
    (ht : P.underlying t = some (.slice e)) (hi : (P.info? e).map (fun i => (i.zero, i.size, i.bytes)) = some (some z, s, bytes)) (hs : 0 < s) (hf : ∀ x, (f x).length = s) (hz0 : f z0 = z.cells.toList)
    (h1 : ∀ x, ∀ u ∈ f x, u.oneCell' = true)
    (H : St w0 S w L) (X B : Blocks) (p : Option Nat) (all : List α) (n : Nat) (x : α) (hL : L = X ++ (slB f p all ++ B)) (hn : n ≤ all.length) (hp : p = none → all = [])
    {nb : Nat} {c : Nat} (k : Nat) (hk : L[k]? = some (nb, f x)) (hb : (n + 1) * bytes ≤ 140737488355328) (hb0 : 0 < bytes)
    {K : Option Addr → Nat → Nat → World → Prop}
    (kk : ∀ p' all' w', all'.take (n + 1) = all.take n ++ [x] → n + 1 ≤ all'.length → St w0 S w' (X ++ (slB f (some p') all' ++ B)) → K (some ⟨p', 0, none⟩) (n + 1) all'.length w') :
    AppQ P #[t, t] ty #[.slice (slA p) n all.length, .slice (some ⟨nb, 0, none⟩) 1 c] w K := by
  cases h : P.info? e with
  | none => rw [h] at hi; cases hi
  | some i =>
    rw [h] at hi
    simp only [Option.map_some, Option.some.injEq, Prod.mk.injEq] at hi
    exact app1 f s bytes z0 t ty e i z ht h hi.1 hi.2.1 hi.2.2 hs hf hz0 h1 H X B p all n x hL hn hp k hk hb hb0 kk
end Go.Proofs.YtollfjfcdofbaaaGreat
