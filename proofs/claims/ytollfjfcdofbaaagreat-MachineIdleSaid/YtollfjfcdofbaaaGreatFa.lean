/- Contracts: pools made, the lock that can be given up made. -/
import Derived.Test.YtollfjfcdofbaaaGreatKc
namespace Go.Proofs.YtollfjfcdofbaaaGreat
open Go Go.Proofs
set_option linter.unusedSimpArgs false
set_option linter.unusedVariables false
set_option maxRecDepth 100000
set_option maxHeartbeats 4000000
-- NB 5

/-- the nodes of a thread's row, so many of them -/
def nodesOf (t e k : Nat) : List Int := (List.range k).map fun i => ((t * e + i + 1 : Nat) : Int)
theorem nodesOf_succ (t e k : Nat) : nodesOf t e (k + 1) = nodesOf t e k ++ [((t * e + k + 1 : Nat) : Int)] := by simp [nodesOf, List.range_succ]
structure QS.first (q : QS) (n e : Nat) : Prop where
  wf : q.wf
  each : q.each = e
  len : q.rws.length = n
  row : ∀ t, t < n → q.row ((t : Nat) : Int) = nodesOf t e e
  outs : q.outs = List.replicate (1 + n * e) false
structure PoolI (n e i : Nat) (done : List (Nat × List Int)) (cp : Option Nat) (call : List Int) : Prop where
  len : done.length = i / e
  row : ∀ t, (h : t < done.length) → e ≤ done[t].2.length ∧ done[t].2.take e = nodesOf t e e
  cur : call.take (i % e) = nodesOf (i / e) e (i % e)
  fit : i % e ≤ call.length
  no : cp = none → call = []
  nil0 : i % e = 0 → cp = none
def poolC (n e i : Nat) (done : List (Nat × List Int)) (cp : Option Nat) (call : List Int) : List Value :=
  done.map (fun x => Value.slice (some ⟨x.1, 0, none⟩) e x.2.length) ++ (if done.length < n then .slice (slA cp) (i % e) call.length :: List.replicate (n - done.length - 1) (.slice none 0 0) else [])
theorem PoolI.start {n e : Nat} (he : 0 < e) : PoolI n e 0 [] none [] := ⟨by simp, fun t h => by simp at h, by simp [nodesOf], by simp, fun _ => rfl, fun _ => rfl⟩
theorem poolC_start (n e : Nat) : poolC n e 0 [] none [] = List.replicate n (.slice none 0 0) := by
  unfold poolC
  cases n with
  | zero => simp
  | succ n => simp [slA, List.replicate_succ]
theorem poolC_get {n e i : Nat} {done : List (Nat × List Int)} {cp : Option Nat} {call : List Int} (h : PoolI n e i done cp call) (hn : i / e < n) :
    (poolC n e i done cp call)[0 + i / e]? = some (.slice (slA cp) (i % e) call.length) := by
  unfold poolC
  rw [Nat.zero_add, List.getElem?_append_right (by simp [h.len]), List.length_map, h.len, Nat.sub_self, if_pos hn]
  rfl
theorem poolC_set {n e i : Nat} {done : List (Nat × List Int)} {cp : Option Nat} {call : List Int} (h : PoolI n e i done cp call) (hn : i / e < n) (v : Value) :
    (poolC n e i done cp call).set (0 + i / e) v = done.map (fun x => Value.slice (some ⟨x.1, 0, none⟩) e x.2.length) ++ v :: List.replicate (n - done.length - 1) (.slice none 0 0) := by
  unfold poolC
  rw [Nat.zero_add, List.set_append_right _ _ (by simp [h.len]), List.length_map, h.len, Nat.sub_self, if_pos hn]
  rfl
theorem poolC_len {n e i : Nat} {done : List (Nat × List Int)} {cp : Option Nat} {call : List Int} (h : PoolI n e i done cp call) (hn : i / e < n) : (poolC n e i done cp call).length = n := by
  have hl := h.len
  unfold poolC
  rw [if_pos (by omega)]
  simp
  omega
/-- a round -/
theorem PoolI.step {n e i p' : Nat} {done : List (Nat × List Int)} {cp : Option Nat} {call all' : List Int} (he : 0 < e) (h : PoolI n e i done cp call) (hn : i < n * e)
    (t1 : all'.take (i % e + 1) = call.take (i % e) ++ [((i + 1 : Nat) : Int)]) (l1 : i % e + 1 ≤ all'.length) :
    ∃ done' cp' call', PoolI n e (i + 1) done' cp' call' ∧
      done.map (fun x => Value.slice (some ⟨x.1, 0, none⟩) e x.2.length) ++ (.slice (some ⟨p', 0, none⟩) (i % e + 1) all'.length) :: List.replicate (n - done.length - 1) (.slice none 0 0) = poolC n e (i + 1) done' cp' call' ∧
      done.map (fun x => (x.1, ints .i64 x.2)) ++ slB iRow (some p') all' = done'.map (fun x => (x.1, ints .i64 x.2)) ++ slB iRow cp' call' := by
  have hdm := Nat.div_add_mod i e
  have hk : i / e < n := (Nat.div_lt_iff_lt_mul he).2 hn
  have hm := Nat.mod_lt i he
  have hc := Nat.mul_comm e (i / e)
  have row1 : all'.take (i % e + 1) = nodesOf (i / e) e (i % e + 1) := by
    rw [t1, h.cur, nodesOf_succ]
    congr 3
    omega
  by_cases hw : i % e + 1 = e
  · have e1 : (i + 1) / e = i / e + 1 := by
      rw [show i + 1 = e * (i / e + 1) by rw [Nat.mul_add]; omega, Nat.mul_div_cancel_left _ he]
    have e2 : (i + 1) % e = 0 := by
      rw [show i + 1 = e * (i / e + 1) by rw [Nat.mul_add]; omega, Nat.mul_mod_right]
    refine ⟨done ++ [(p', all')], none, [], ⟨by simp [h.len, e1], fun t ht => ?_, by simp [e2, nodesOf], by simp [e2], fun _ => rfl, fun _ => rfl⟩, ?_, by simp [slB, rows_iRow]⟩
    · simp only [List.length_append, List.length_cons, List.length_nil] at ht
      by_cases h2 : t < done.length
      · rw [List.getElem_append_left h2]; exact h.row t h2
      · have e3 : t = done.length := by omega
        subst e3
        simp only [List.getElem_append_right (Nat.le_refl _), Nat.sub_self, List.getElem_cons_zero]
        rw [h.len] at *
        refine ⟨by omega, ?_⟩
        rw [← hw, row1, hw]
    · unfold poolC
      simp only [List.length_append, List.length_cons, List.length_nil, List.map_append, List.map_cons, List.map_nil, List.append_assoc, List.cons_append, List.nil_append, e2, slA, Option.map_none]
      congr 1
      rw [hw]
      congr 1
      split
      · rename_i h3
        rw [← List.replicate_succ]
        congr 1; omega
      · rename_i h3
        rw [show n - done.length - 1 = 0 by omega]; rfl
  · have e1 : (i + 1) / e = i / e := by
      rw [show i + 1 = (i % e + 1) + e * (i / e) by omega, Nat.add_mul_div_left _ _ he, Nat.div_eq_of_lt (by omega), Nat.zero_add]
    have e2 : (i + 1) % e = i % e + 1 := by
      rw [show i + 1 = (i % e + 1) + e * (i / e) by omega, Nat.add_mul_mod_self_left, Nat.mod_eq_of_lt (by omega)]
    refine ⟨done, some p', all', ⟨by rw [h.len, e1], h.row, by rw [e1, e2, row1], by omega, (by intro h; cases h), (by intro h; omega)⟩, ?_, rfl⟩
    unfold poolC
    rw [if_pos (by have := h.len; omega), e2]
    rfl
theorem made_nils (n : Nat) : (madeCells #[.slice none 0 0] n).toList = List.replicate n (.slice none 0 0) := by rw [madeCells_one]
theorem poolNew (n e : Nat) (hn : n ≤ 1000000) (he1 : e ≤ 1000000) : SpE Tryz.prog 190 #[i64 n, i64 e] [] (fun r A =>
    (¬ ((1 ≤ n ∧ n ≤ 64) ∧ 1 ≤ e ∧ e ≤ 8) ∧ r = .tuple #[.pointer none, i64 1] ∧ A = []) ∨
    (((1 ≤ n ∧ n ≤ 64) ∧ 1 ≤ e ∧ e ≤ 8) ∧ ∃ (a : Nat) (q : QS), r = .tuple #[ptr a, i64 0] ∧ A = poolL a q ∧ q.first n e)) := by
  intro w0 S w B H
  refine callsPoolNew _ _ _ _ ?_
  unfold prePoolNew
  by_cases c1 : ((n : Nat) : Int) < 1
  · exact Br_t c1 ⟨_, [], rfl, Or.inl ⟨by omega, rfl, rfl⟩, H⟩
  refine Br_f c1 ?_
  by_cases c2 : ((n : Nat) : Int) > 64
  · exact Br_t c2 ⟨_, [], rfl, Or.inl ⟨by omega, rfl, rfl⟩, H⟩
  refine Br_f c2 ?_
  by_cases c3 : ((e : Nat) : Int) < 1
  · exact Br_t c3 ⟨_, [], rfl, Or.inl ⟨by omega, rfl, rfl⟩, H⟩
  refine Br_f c3 ?_
  by_cases c4 : ((e : Nat) : Int) > 8
  · exact Br_t c4 ⟨_, [], rfl, Or.inl ⟨by omega, rfl, rfl⟩, H⟩
  refine Br_f c4 ?_
  have he : 0 < e := by omega
  have hne : n * e ≤ 512 := Nat.le_trans (Nat.mul_le_mul (show n ≤ 64 by omega) (show e ≤ 8 by omega)) (by decide)
  have wm : IntKind.i64.wrap (((n : Nat) : Int) * ((e : Nat) : Int)) = ((n : Nat) : Int) * ((e : Nat) : Int) := by
    rw [← Int.natCast_mul]; exact wrap_i64 (by omega) (by omega)
  have wm1 : IntKind.i64.wrap (1 + ((n : Nat) : Int) * ((e : Nat) : Int)) = (((1 + n * e : Nat) : Nat) : Int) := by
    rw [← Int.natCast_mul]; exact wrap_i64 (x := (((1 + n * e : Nat) : Nat) : Int)) (by omega) (by omega)
  have wne : ((n : Nat) : Int) * ((e : Nat) : Int) = ((n * e : Nat) : Int) := (Int.natCast_mul _ _).symm
  simp only [wm, wm1]
  refine H.drewK (fun w H => ⟨⟨⟨by omega, by omega, by omega, by omega⟩, H.allocK (fun w1 H1 => ⟨⟨by omega, by omega, by omega, by omega⟩, H1.allocK (fun w2 H2 => H2.allocK (fun w3 H3 => ?_))⟩)⟩,
    ⟨by omega, by omega, by omega, by omega⟩, H.allocK (fun w1 H1 => ⟨⟨by omega, by omega, by omega, by omega⟩, H1.allocK (fun w2 H2 => H2.allocK (fun w3 H3 => ?_))⟩)⟩)
  · have H := H3
    rw [made_nils, made_bools] at H
    generalize hpl : w2.heap.size = pl at H ⊢
    generalize hob : w1.heap.size = ob at H ⊢
    generalize hrb : w.heap.size = rb at H ⊢
    simp only [Int.toNat_natCast, List.nil_append] at H ⊢
    replace H := H.perm ((List.Perm.swap _ _ _).cons _)
    refine ⟨fun i w' => (0 ≤ i ∧ i ≤ n * e) ∧ ∃ done cp call, PoolI n e i.toNat done cp call ∧ St w0 S w' ((pl, [slv rb n, slv ob (1 + n * e)]) :: (rb, poolC n e i.toNat done cp call) :: (ob, bools (List.replicate (1 + n * e) false)) :: (done.map (fun x => (x.1, ints .i64 x.2)) ++ (slB iRow cp call ++ B))),
      fun i _ => (n * e - i).toNat, ⟨⟨by omega, by omega⟩, [], none, [], PoolI.start (by omega), H.to (by simp [poolC_start, slB])⟩, ?_⟩
    rintro _g w i ⟨⟨h0, h1⟩, done, cp, call, hI, H⟩
    obtain ⟨I, rfl⟩ := Int.eq_ofNat_of_zero_le h0
    simp only [Int.toNat_natCast] at hI H
    by_cases d : ((I : Nat) : Int) < n * e
    · have hI' : I < n * e := by omega
      have hk : I / e < n := (Nat.div_lt_iff_lt_mul he).2 hI'
      have hle := Nat.div_le_self I e
      have hmod := Nat.mod_lt I he
      obtain ⟨K, hK⟩ : ∃ K, I / e = K := ⟨_, rfl⟩
      rw [hK] at hk hle
      have hiw : IntKind.i64.wrap (Int.tdiv ((I : Nat) : Int) ((e : Nat) : Int)) = ((K : Nat) : Int) := by
        rw [← hK]; exact wrap_i64 (x := ((I / e : Nat) : Int)) (by rw [hK]; omega) (by rw [hK]; omega)
      have hget := poolC_get hI (by rw [hK]; exact hk)
      have hset := poolC_set hI (by rw [hK]; exact hk)
      have hlen := poolC_len hI (by rw [hK]; exact hk)
      rw [hK] at hget hset
      rw [wrap_succ h0 (by omega), hiw]
      refine Br_t d (H.drewK (fun w H => exSlice (H.cell 0 rfl rfl) ⟨by omega, exSlice (H.cell 0 rfl rfl) ⟨by omega, ⟨by omega, by omega⟩, PtrSome_at ?_⟩⟩))
      simp only [Int.toNat_natCast]
      refine exSlice (H.cell 1 rfl hget) (H.allocK (fun w2 H => ⟨H.cell 2 rfl hget, H.cell 1 rfl rfl, H.cell 1 rfl rfl, ?_⟩))
      refine app1' iRow 1 8 0 22 22 3 (.int .i64 0) (by kernel_rfl) (by kernel_rfl) (by decide) (fun _ => rfl) rfl (by intro x u hu; simp at hu; subst hu; rfl) H
        (_ :: _ :: _ :: _ :: done.map (fun x => (x.1, ints .i64 x.2))) B cp call (I % e) (((I : Nat) : Int) + 1) (by simp; exact ⟨rfl, rfl, rfl, rfl⟩) hI.fit hI.no 0 rfl (by omega) (by decide) ?_
      intro p1 all1 w3 t1 l1 H
      simp only [List.cons_append] at H
      have H := H.tail
      refine ⟨H.cell 0 rfl rfl, ⟨by omega, by omega⟩, PtrSome_at ⟨H.can 1 rfl (by rw [hlen]; omega), H.setK 1 rfl (fun w4 H => ?_)⟩⟩
      simp only [List.set_cons_succ, List.set_cons_zero, hset] at H
      obtain ⟨done', cp', call', hI2, ec, eb⟩ := hI.step (p' := p1) he hI' t1 l1
      rw [ec] at H
      refine ⟨⟨⟨by omega, by omega⟩, done', cp', call', hI2, H.to ?_⟩, show ((n * e : Int) - (((I : Nat) : Int) + 1)).toNat < ((n * e : Int) - ((I : Nat) : Int)).toNat by omega⟩
      rw [← List.append_assoc, ← List.append_assoc (done'.map _), ← eb]; rfl
    · have e0 : I = n * e := by omega
      subst e0
      refine Br_f d ?_
      have hz : n * e % e = 0 := Nat.mul_mod_left n e
      have hdv : n * e / e = n := Nat.mul_div_cancel n he
      have hcp := hI.nil0 hz
      subst hcp
      have hca := hI.no rfl
      subst hca
      have hdl : done.length = n := by rw [hI.len, hdv]
      refine ⟨_, poolL pl ⟨rb, ob, done, e, List.replicate (1 + n * e) false⟩, rfl, Or.inr ⟨⟨⟨by omega, by omega⟩, by omega, by omega⟩, pl, ⟨rb, ob, done, e, List.replicate (1 + n * e) false⟩, rfl, rfl, ⟨⟨fun x hx => ?_, show e ≤ 8 by omega, show 0 < e by omega⟩, rfl, hdl, fun t ht => ?_, rfl⟩⟩, H.to ?_⟩
      · obtain ⟨t, ht, rfl⟩ := List.mem_iff_getElem.1 hx
        exact (hI.row t ht).1
      · have ht' : t < done.length := by omega
        have := (hI.row t ht').2
        simp only [QS.row, Int.toNat_natCast, List.getD_eq_getElem?_getD, List.getElem?_eq_getElem ht', Option.getD_some]
        exact this
      · simp [poolL, QS.rowL, QS.slc, poolC, hdl, slB]
  · have H := H3
    rw [made_nils, made_bools] at H
    generalize hpl : w2.heap.size = pl at H ⊢
    generalize hrb : w1.heap.size = rb at H ⊢
    generalize hob : w.heap.size = ob at H ⊢
    simp only [Int.toNat_natCast, List.nil_append] at H ⊢
    refine ⟨fun i w' => (0 ≤ i ∧ i ≤ n * e) ∧ ∃ done cp call, PoolI n e i.toNat done cp call ∧ St w0 S w' ((pl, [slv rb n, slv ob (1 + n * e)]) :: (rb, poolC n e i.toNat done cp call) :: (ob, bools (List.replicate (1 + n * e) false)) :: (done.map (fun x => (x.1, ints .i64 x.2)) ++ (slB iRow cp call ++ B))),
      fun i _ => (n * e - i).toNat, ⟨⟨by omega, by omega⟩, [], none, [], PoolI.start (by omega), H.to (by simp [poolC_start, slB])⟩, ?_⟩
    rintro _g w i ⟨⟨h0, h1⟩, done, cp, call, hI, H⟩
    obtain ⟨I, rfl⟩ := Int.eq_ofNat_of_zero_le h0
    simp only [Int.toNat_natCast] at hI H
    by_cases d : ((I : Nat) : Int) < n * e
    · have hI' : I < n * e := by omega
      have hk : I / e < n := (Nat.div_lt_iff_lt_mul he).2 hI'
      have hle := Nat.div_le_self I e
      have hmod := Nat.mod_lt I he
      obtain ⟨K, hK⟩ : ∃ K, I / e = K := ⟨_, rfl⟩
      rw [hK] at hk hle
      have hiw : IntKind.i64.wrap (Int.tdiv ((I : Nat) : Int) ((e : Nat) : Int)) = ((K : Nat) : Int) := by
        rw [← hK]; exact wrap_i64 (x := ((I / e : Nat) : Int)) (by rw [hK]; omega) (by rw [hK]; omega)
      have hget := poolC_get hI (by rw [hK]; exact hk)
      have hset := poolC_set hI (by rw [hK]; exact hk)
      have hlen := poolC_len hI (by rw [hK]; exact hk)
      rw [hK] at hget hset
      rw [wrap_succ h0 (by omega), hiw]
      refine Br_t d (H.drewK (fun w H => exSlice (H.cell 0 rfl rfl) ⟨by omega, exSlice (H.cell 0 rfl rfl) ⟨by omega, ⟨by omega, by omega⟩, PtrSome_at ?_⟩⟩))
      simp only [Int.toNat_natCast]
      refine exSlice (H.cell 1 rfl hget) (H.allocK (fun w2 H => ⟨H.cell 2 rfl hget, H.cell 1 rfl rfl, H.cell 1 rfl rfl, ?_⟩))
      refine app1' iRow 1 8 0 22 22 3 (.int .i64 0) (by kernel_rfl) (by kernel_rfl) (by decide) (fun _ => rfl) rfl (by intro x u hu; simp at hu; subst hu; rfl) H
        (_ :: _ :: _ :: _ :: done.map (fun x => (x.1, ints .i64 x.2))) B cp call (I % e) (((I : Nat) : Int) + 1) (by simp; exact ⟨rfl, rfl, rfl, rfl⟩) hI.fit hI.no 0 rfl (by omega) (by decide) ?_
      intro p1 all1 w3 t1 l1 H
      simp only [List.cons_append] at H
      have H := H.tail
      refine ⟨H.cell 0 rfl rfl, ⟨by omega, by omega⟩, PtrSome_at ⟨H.can 1 rfl (by rw [hlen]; omega), H.setK 1 rfl (fun w4 H => ?_)⟩⟩
      simp only [List.set_cons_succ, List.set_cons_zero, hset] at H
      obtain ⟨done', cp', call', hI2, ec, eb⟩ := hI.step (p' := p1) he hI' t1 l1
      rw [ec] at H
      refine ⟨⟨⟨by omega, by omega⟩, done', cp', call', hI2, H.to ?_⟩, show ((n * e : Int) - (((I : Nat) : Int) + 1)).toNat < ((n * e : Int) - ((I : Nat) : Int)).toNat by omega⟩
      rw [← List.append_assoc, ← List.append_assoc (done'.map _), ← eb]; rfl
    · have e0 : I = n * e := by omega
      subst e0
      refine Br_f d ?_
      have hz : n * e % e = 0 := Nat.mul_mod_left n e
      have hdv : n * e / e = n := Nat.mul_div_cancel n he
      have hcp := hI.nil0 hz
      subst hcp
      have hca := hI.no rfl
      subst hca
      have hdl : done.length = n := by rw [hI.len, hdv]
      refine ⟨_, poolL pl ⟨rb, ob, done, e, List.replicate (1 + n * e) false⟩, rfl, Or.inr ⟨⟨⟨by omega, by omega⟩, by omega, by omega⟩, pl, ⟨rb, ob, done, e, List.replicate (1 + n * e) false⟩, rfl, rfl, ⟨⟨fun x hx => ?_, show e ≤ 8 by omega, show 0 < e by omega⟩, rfl, hdl, fun t ht => ?_, rfl⟩⟩, H.to ?_⟩
      · obtain ⟨t, ht, rfl⟩ := List.mem_iff_getElem.1 hx
        exact (hI.row t ht).1
      · have ht' : t < done.length := by omega
        have := (hI.row t ht').2
        simp only [QS.row, Int.toNat_natCast, List.getD_eq_getElem?_getD, List.getElem?_eq_getElem ht', Option.getD_some]
        exact this
      · simp [poolL, QS.rowL, QS.slc, poolC, hdl, slB]
end Go.Proofs.YtollfjfcdofbaaaGreat
