/- Contracts: memories, caches and ports made. -/
import Derived.Test.YtollfjfcdofbaaaGreatRo
import Derived.Test.YtollfjfcdofbaaaGreatSymD
namespace Go.Proofs.YtollfjfcdofbaaaGreat
open Go Go.Proofs
set_option linter.unusedSimpArgs false
set_option linter.unusedVariables false
set_option maxRecDepth 100000
set_option maxHeartbeats 400000
-- NB 5
theorem sliceNil {P : Program} {t e : TypeId} (ht : P.underlying t = some (.slice e)) (p : Option Addr) (l c : Nat) {xo yo : Operand} {K : Bool → Prop} (h : K p.isNone) : BinOpaque P .eql t xo yo (.slice p l c) (.slice none 0 0) K := by
  refine ⟨p.isNone, fun w => ?_, h⟩
  have hd : ∃ d, Op.maxDepth = d + 1 := ⟨Op.maxDepth - 1, rfl⟩
  obtain ⟨d, hd⟩ := hd
  have he : (Op.equal t (.slice p l c) (.slice none 0 0)).run P w = .ok p.isNone w := by
    unfold Op.equal
    rw [hd]
    unfold Op.equalIn
    cases p <;> simp [run_underlying ht]
  cases p <;> simp [eqGuard, binOp, he]
theorem iRow_map : ∀ xs : List Int, xs.flatMap iRow = xs.map (Value.int .i64)
  | [] => rfl
  | x :: xs => by rw [List.flatMap_cons, iRow_map xs]; rfl
theorem wRow_map : ∀ xs : List Int, xs.flatMap wRow = xs.map (Value.int .u32)
  | [] => rfl
  | x :: xs => by rw [List.flatMap_cons, wRow_map xs]; rfl
theorem rows_iRow (xs : List Int) : rows iRow xs = ints .i64 xs := by rw [rows, iRow_map, ints]
theorem rows_wRow (xs : List Int) : rows wRow xs = ints .u32 xs := by rw [rows, wRow_map, ints]
theorem cloneInt (p : Option Addr) (xs : List Int) (c : Nat) (hn : p = none → xs = []) (hl : xs.length ≤ 1000000) :
    SpR Tryz.prog 104 #[.slice p xs.length c] (fun w S => ROi w S p xs) [] (fun r A =>
      (p = none ∧ r = .slice none 0 0 ∧ A = []) ∨ (p.isSome = true ∧ ∃ (b cap : Nat) (more : List Int), r = .slice (some ⟨b, 0, none⟩) xs.length cap ∧ A = [(b, ints .i64 (xs ++ more))])) := by
  intro w0 S w B hr H
  refine callsSlicesCloneIntInt _ _ _ _ _ ?_
  unfold preSlicesCloneIntInt
  refine sliceNil (by kernel_rfl : Tryz.prog.underlying 22 = some (.slice 3)) _ _ _ ?_
  cases p with
  | none => exact ⟨_, [], rfl, Or.inl ⟨rfl, rfl, rfl⟩, H⟩
  | some a =>
    simp only [Option.isNone_some, Br_false]
    refine H.allocK (fun w1 H1 => ?_)
    simp only [List.nil_append] at H1
    have Hb : Bk w1 w.heap.size [] := H1.bkAt 0 rfl
    have hread : ∀ j v, (xs.map (Value.int .i64))[j]? = some v → w1.cell? (a.add j) = some v := by
      intro j v hv
      obtain ⟨b, o, e, hc⟩ := RO.read hr H1 hv
      cases e
      rw [Addr.add_lit]; exact hc
    have hty : Tryz.prog.underlying 22 = some (.slice 3) := by kernel_rfl
    have hinf : (Tryz.prog.info? 3).map (fun i => (i.zero, i.size, i.bytes)) = some (some (.int .i64 0), 1, 8) := by kernel_rfl
    cases hi : Tryz.prog.info? 3 with
    | none => rw [hi] at hinf; cases hinf
    | some i =>
      rw [hi] at hinf
      simp only [Option.map_some, Option.some.injEq, Prod.mk.injEq] at hinf
      obtain ⟨hz, hsz, hby⟩ := hinf
      by_cases h0 : xs = []
      · subst h0
        obtain ⟨T, hT⟩ := Hb
        have hrun := run_append_room_any (P := Tryz.prog) w1 22 22 3 T i hty hi w.heap.size 0 0 _ hT a 0 c [] (by simp) (by simp) (by simp) (by omega) (by simp)
        refine ⟨_, _, _, _, hrun, ?_⟩
        have H2 := St.setRow (X := []) H1 []
        refine ⟨_, [(w.heap.size, ints .i64 ([] ++ []))], rfl, Or.inr ⟨rfl, w.heap.size, 0, [], rfl, rfl⟩, ?_⟩
        have e0 : ints .i64 ([] ++ ([] : List Int)) = [] := by simp [ints]
        rw [e0]
        have e1 : ([] : List Value).toArray.toList.take (0 * i.size) ++ [] ++ ([] : List Value).toArray.toList.drop (0 * i.size + ([] : List Value).length) = [] := by simp
        rw [e1]; exact H2
      · have hpos : 0 < xs.length := by cases xs with | nil => exact absurd rfl h0 | cons x xs => simp
        have hrun := run_append_grow (P := Tryz.prog) w1 22 22 3 i (.int .i64 0) hty hi hz ⟨w.heap.size, 0, none⟩ 0 0 [] (by simp) (by simp) a xs.length c (xs.map (Value.int .i64)) (by simp [hsz]) hread (by omega) (by omega)
          (by rw [hby]; exact growslice_fits (by omega) (by omega))
        refine ⟨_, _, _, _, hrun, ?_⟩
        have H2 := (H1.tail.drew).alloc (([] : List Value).toArray ++ (xs.map (Value.int .i64)).toArray ++ Builtin.zeroCells (Value.int .i64 0).cells (grownCap w1 (0 + xs.length) 0 3 - (0 + xs.length))) 3
        have e3 : (([] : List Value).toArray ++ (xs.map (Value.int .i64)).toArray ++ Builtin.zeroCells (Value.int .i64 0).cells (grownCap w1 (0 + xs.length) 0 3 - (0 + xs.length))).toList = ints .i64 (xs ++ List.replicate (grownCap w1 (0 + xs.length) 0 3 - (0 + xs.length)) 0) := by
          have ez := zeroCells_rows iRow 0 (Value.int .i64 0).cells rfl (by decide) (grownCap w1 (0 + xs.length) 0 3 - (0 + xs.length))
          rw [Array.toList_append, Array.toList_append, ez, iRow_map, ints, List.map_append]
          rfl
        rw [e3] at H2
        refine ⟨_, [(w1.heap.size, ints .i64 (xs ++ List.replicate (grownCap w1 (0 + xs.length) 0 3 - (0 + xs.length)) 0))], rfl, Or.inr ⟨rfl, w1.heap.size, grownCap w1 (0 + xs.length) 0 3, List.replicate (grownCap w1 (0 + xs.length) 0 3 - (0 + xs.length)) 0, by simp only [Nat.zero_add], rfl⟩, H2⟩
theorem cacheNew (n m : Int) : SpE Tryz.prog 185 #[i64 n, i64 m] [] (fun r A =>
    (¬ ((1 ≤ n ∧ n ≤ 64) ∧ 0 ≤ m ∧ m ≤ 4096) ∧ r = .tuple #[.pointer none, i64 1] ∧ A = []) ∨
    (((1 ≤ n ∧ n ≤ 64) ∧ 0 ≤ m ∧ m ≤ 4096) ∧ ∃ c cb mb : Nat, r = .tuple #[ptr c, i64 0] ∧
      A = [(c, [slv cb m.toNat, slv mb n.toNat]), (cb, ints .u64 (List.replicate m.toNat 0)), (mb, ints .i64 (List.replicate n.toNat 0))])) := by
  intro w0 S w B H
  refine callsCacheNew _ _ _ _ ?_
  unfold preCacheNew
  by_cases c1 : n < 1
  · exact Br_t c1 ⟨_, [], rfl, Or.inl ⟨by omega, rfl, rfl⟩, H⟩
  refine Br_f c1 ?_
  by_cases c2 : n > 64
  · exact Br_t c2 ⟨_, [], rfl, Or.inl ⟨by omega, rfl, rfl⟩, H⟩
  refine Br_f c2 ?_
  by_cases c3 : m < 0
  · exact Br_t c3 ⟨_, [], rfl, Or.inl ⟨by omega, rfl, rfl⟩, H⟩
  refine Br_f c3 ?_
  by_cases c4 : m > 4096
  · exact Br_t c4 ⟨_, [], rfl, Or.inl ⟨by omega, rfl, rfl⟩, H⟩
  refine Br_f c4 (H.drewK (fun w H => ⟨⟨⟨by omega, by omega, by omega, by omega⟩, H.allocK (fun w1 H1 => ⟨⟨by omega, by omega, by omega, by omega⟩, H1.allocK (fun w2 H2 => H2.allocK (fun w3 H3 => ?_))⟩)⟩,
    ⟨by omega, by omega, by omega, by omega⟩, H.allocK (fun w1 H1 => ⟨⟨by omega, by omega, by omega, by omega⟩, H1.allocK (fun w2 H2 => H2.allocK (fun w3 H3 => ?_))⟩)⟩))
  · rw [made_ints, made_ints] at H3
    refine ⟨_, _, rfl, Or.inr ⟨⟨⟨by omega, by omega⟩, by omega, by omega⟩, w2.heap.size, w.heap.size, w1.heap.size, rfl, rfl⟩, H3.perm ?_⟩
    exact (List.Perm.swap _ _ _).cons _
  · rw [made_ints, made_ints] at H3
    exact ⟨_, _, rfl, Or.inr ⟨⟨⟨by omega, by omega⟩, by omega, by omega⟩, w2.heap.size, w1.heap.size, w.heap.size, rfl, rfl⟩, H3⟩
theorem any_take_succ (xs : List Int) (i : Nat) (h : i < xs.length) (g : Int → Bool) : (xs.take (i + 1)).any g = ((xs.take i).any g || g (xs.getD i 0)) := by
  rw [List.take_add_one, List.any_append]
  simp [h]
theorem memNew (p : Option Addr) (xs : List Int) (c : Nat) (hp : p.isSome = true) (hl : xs.length ≤ 1000000) :
    SpR Tryz.prog 183 #[.slice p xs.length c] (fun w S => ROi w S p xs) [] (fun r A =>
      (4096 < xs.length ∧ r = .tuple #[.pointer none, i64 5] ∧ A = []) ∨ (xs.length ≤ 4096 ∧ anyBad xs = true ∧ r = .tuple #[.pointer none, i64 1] ∧ A = []) ∨
      ((xs.length ≤ 4096 ∧ anyBad xs = false) ∧ ∃ (m wb hb hc : Nat) (more : List Int), r = .tuple #[ptr m, i64 0] ∧
        A = [(m, [slv wb xs.length, .slice (some ⟨hb, 0, none⟩) xs.length hc]), (wb, ints .u32 (List.replicate xs.length 0)), (hb, ints .i64 (xs ++ more))])) := by
  intro w0 S w B hr H
  refine callsMemNew _ _ _ _ _ ?_
  unfold preMemNew
  by_cases c1 : ((xs.length : Nat) : Int) > 4096
  · exact Br_t c1 ⟨_, [], rfl, Or.inl ⟨by omega, rfl, rfl⟩, H⟩
  refine Br_f c1 ?_
  refine ⟨fun _ _ i w' => (0 ≤ i ∧ i ≤ xs.length) ∧ (xs.take i.toNat).any badHome = false ∧ St w0 S w' ([] ++ B), fun _ _ i _ => (xs.length - i).toNat, ⟨⟨by omega, by omega⟩, by simp, H⟩, ?_⟩
  rintro _g w q z i ⟨⟨h0, h1⟩, hi, H⟩
  by_cases c2 : i < xs.length
  · refine Br_t c2 ⟨⟨h0, c2⟩, ?_⟩
    obtain ⟨b, o, e, hc⟩ := hr.read H (j := i.toNat) (by omega)
    subst e
    refine PtrSome_at (exInt hc ?_)
    have bad : ∀ x, badHome x = true → xs.getD i.toNat 0 = x → anyBad xs = true := by
      intro x hx e
      refine List.any_eq_true.2 ⟨x, ?_, hx⟩
      rw [← e]
      simp [show i.toNat < xs.length by omega]
    by_cases c3 : xs.getD i.toNat 0 < 0
    · exact Br_t c3 ⟨_, [], rfl, Or.inr (Or.inl ⟨by omega, bad _ (by simp [badHome]; left; exact c3) rfl, rfl, rfl⟩), H⟩
    refine Br_f c3 ?_
    by_cases c4 : xs.getD i.toNat 0 ≥ 8
    · exact Br_t c4 ⟨_, [], rfl, Or.inr (Or.inl ⟨by omega, bad _ (by simp [badHome]; right; exact c4) rfl, rfl, rfl⟩), H⟩
    refine Br_f c4 ?_
    rw [wrap_succ h0 (by omega)]
    refine ⟨⟨⟨by omega, by omega⟩, ?_, H⟩, show (xs.length - (i + 1)).toNat < (xs.length - i).toNat by omega⟩
    rw [show (i + 1).toNat = i.toNat + 1 by omega, any_take_succ _ _ (by omega), hi, Bool.false_or]
    simp only [badHome, decide_eq_false_iff_not]
    omega
  · refine Br_f c2 (H.drewK (fun w H => ?_))
    have hok : anyBad xs = false := by
      rw [List.take_of_length_le (by omega)] at hi; exact hi
    have hn : p = none → xs = [] := by intro e; rw [e] at hp; cases hp
    simp only [List.nil_append] at H
    refine ⟨⟨⟨by omega, by omega, by omega, by omega⟩, H.allocK (fun w1 H1 => ?_)⟩, ?_⟩
    · refine (cloneInt p xs c hn hl).go H1 [_] B rfl (hr.sub H1 (by simp)) (fun r A w2 hq H2 => ?_)
      rcases hq with ⟨e, _⟩ | ⟨_, b, cap, more, rfl, rfl⟩
      · rw [e] at hp; cases hp
      refine ⟨_, _, _, rfl, H2.allocK (fun w3 H3 => ?_)⟩
      rw [made_ints] at H3
      refine ⟨_, _, rfl, Or.inr (Or.inr ⟨⟨by omega, hok⟩, w2.heap.size, w.heap.size, b, cap, more, by simp, rfl⟩), H3.to (by simp)⟩
    · refine (cloneInt p xs c hn hl).go H [] B rfl (hr.sub H (by simp)) (fun r A w2 hq H2 => ?_)
      rcases hq with ⟨e, _⟩ | ⟨_, b, cap, more, rfl, rfl⟩
      · rw [e] at hp; cases hp
      refine ⟨_, _, _, rfl, ⟨by omega, by omega, by omega, by omega⟩, H2.allocK (fun w3 H3 => H3.allocK (fun w4 H4 => ?_))⟩
      rw [made_ints] at H4
      refine ⟨_, _, rfl, Or.inr (Or.inr ⟨⟨by omega, hok⟩, w3.heap.size, w2.heap.size, b, cap, more, by simp, rfl⟩), H4.to (by simp)⟩
/-- a port at first -/
def PS.first (n : Nat) (homes words : List Int) : PS := ⟨words, homes, List.replicate words.length 0, List.replicate n 0, List.replicate n (0, 0)⟩
theorem PS.first_wf (n : Nat) (homes words : List Int) (h : homes.length = words.length) : (PS.first n homes words).wf := ⟨h, by simp [PS.first], by simp [PS.first]⟩
def portOk (n : Int) (homes words : List Int) : Prop := (1 ≤ n ∧ n ≤ 64) ∧ homes.length = words.length ∧ homes.length ≤ 4096 ∧ anyBad homes = false
theorem portNew (n : Int) (p1 : Option Addr) (xs : List Int) (c1 : Nat) (p2 : Option Addr) (ws : List Int) (c2 : Nat) (hp : p1.isSome = true) (hl : xs.length ≤ 1000000) (hw : ws.length ≤ 1000000) :
    SpR Tryz.prog 146 #[i64 n, .slice p1 xs.length c1, .slice p2 ws.length c2] (fun w S => ROi w S p1 xs ∧ RO w S p2 (ws.map (Value.int .u32))) [] (fun r A =>
      (¬ portOk n xs ws ∧ ∃ e : Int, e ≠ 0 ∧ r = .tuple #[.pointer none, i64 e] ∧ A = []) ∨
      (portOk n xs ws ∧ ∃ a : PA, r = .tuple #[ptr a.p, i64 0] ∧ A = portL a (PS.first n.toNat xs ws))) := by
  intro w0 S w B hr H
  obtain ⟨hr1, hr2⟩ := hr
  refine callsPortNew _ _ _ _ _ _ _ _ _ ?_
  unfold prePortNew
  by_cases d1 : n < 1
  · exact Br_t d1 ⟨_, [], rfl, Or.inl ⟨fun h => by have := h.1.1; omega, 1, by decide, rfl, rfl⟩, H⟩
  refine Br_f d1 ?_
  by_cases d2 : n > 64
  · exact Br_t d2 ⟨_, [], rfl, Or.inl ⟨fun h => by have := h.1.2; omega, 1, by decide, rfl, rfl⟩, H⟩
  refine Br_f d2 ?_
  by_cases d3 : ¬ ((xs.length : Nat) : Int) = ((ws.length : Nat) : Int)
  · exact Br_ne d3 ⟨_, [], rfl, Or.inl ⟨fun h => by have := h.2.1; omega, 1, by decide, rfl, rfl⟩, H⟩
  refine Br_nne (Decidable.not_not.1 d3) ?_
  refine (memNew p1 xs c1 hp hl).go H [] B rfl (hr1.sub H (by simp)) (fun r A w hq H => ?_)
  simp only [List.nil_append] at H
  rcases hq with ⟨h1, rfl, rfl⟩ | ⟨h1, h2, rfl, rfl⟩ | ⟨⟨h1, h2⟩, m, wb, hb, hc, more, rfl, rfl⟩
  · exact ⟨_, _, rfl, Br_ne (by decide) ⟨_, [], rfl, Or.inl ⟨fun h => by have := h.2.2.1; omega, 5, by decide, rfl, rfl⟩, H⟩⟩
  · exact ⟨_, _, rfl, Br_ne (by decide) ⟨_, [], rfl, Or.inl ⟨fun h => absurd (h2.symm.trans h.2.2.2) (by decide), 1, by decide, rfl, rfl⟩, H⟩⟩
  refine ⟨_, _, rfl, Br_nne rfl ?_⟩
  have hxw : xs.length = ws.length := by omega
  refine ⟨fun i w' => (0 ≤ i ∧ i ≤ ws.length) ∧ St w0 S w' (memL ⟨0, m, 0, wb, hb, hc, more, 0, 0, 0⟩ ⟨ws.take i.toNat ++ List.replicate (ws.length - i.toNat) 0, xs, [], [], []⟩ ++ B), fun i _ => (ws.length - i).toNat, ⟨⟨by omega, by omega⟩, H.to ?_⟩, ?_⟩
  · simp [memL, hxw]
  rintro _g w i ⟨⟨h0, h3⟩, H⟩
  by_cases d4 : i < ws.length
  · refine Br_t d4 ⟨⟨h0, d4⟩, ?_⟩
    obtain ⟨b, o, e, hc2⟩ := hr2.read H (j := i.toNat) (v := .int .u32 (ws.getD i.toNat 0)) (by simp [show i.toNat < ws.length by omega])
    subst e
    refine PtrSome_at (exInt hc2 ?_)
    refine (memStore ⟨0, m, 0, wb, hb, hc, more, 0, 0, 0⟩ ⟨ws.take i.toNat ++ List.replicate (ws.length - i.toNat) 0, xs, [], [], []⟩ i (ws.getD i.toNat 0)).go H [] B rfl (fun w H => ⟨rfl, ?_⟩)
    rw [wrap_succ h0 (by omega)]
    refine ⟨⟨⟨by omega, by omega⟩, H.to ?_⟩, show (ws.length - (i + 1)).toNat < (ws.length - i).toNat by omega⟩
    have hin : PS.inA ⟨ws.take i.toNat ++ List.replicate (ws.length - i.toNat) 0, xs, [], [], []⟩ i = true := by
      simp [PS.inA]; omega
    rw [if_pos hin]
    simp only [PS.put, List.nil_append]
    have e1 : (ws.take i.toNat ++ List.replicate (ws.length - i.toNat) 0).set i.toNat (ws.getD i.toNat 0) = ws.take (i + 1).toNat ++ List.replicate (ws.length - (i + 1).toNat) 0 := by
      have lt : (ws.take i.toNat).length = i.toNat := by rw [List.length_take]; omega
      rw [List.set_append_right _ _ (by omega), lt, Nat.sub_self, show (i + 1).toNat = i.toNat + 1 by omega]
      have h : i.toNat < ws.length := by omega
      have e2 : ws.take (i.toNat + 1) = ws.take i.toNat ++ [ws.getD i.toNat 0] := by
        rw [List.take_add_one, List.getElem?_eq_getElem h, List.getD_eq_getElem?_getD, List.getElem?_eq_getElem h]; rfl
      rw [e2]
      rw [show ws.length - i.toNat = (ws.length - (i.toNat + 1)) + 1 by omega, List.replicate_succ, List.set_cons_zero, List.append_assoc]
      rfl
    rw [e1]
  · have e : i = ws.length := by omega
    subst e
    refine Br_f (by omega) ?_
    refine (cacheNew n ws.length).go H (memL ⟨0, m, 0, wb, hb, hc, more, 0, 0, 0⟩ ⟨ws.take ((ws.length : Int)).toNat ++ List.replicate (ws.length - ((ws.length : Int)).toNat) 0, xs, [], [], []⟩) B rfl (fun r A w hq H => ?_)
    rcases hq with ⟨hno, _⟩ | ⟨_, c, cb, mb, rfl, rfl⟩
    · exact absurd ⟨⟨by omega, by omega⟩, by omega, by omega⟩ hno
    refine ⟨_, _, rfl, ⟨by omega, by omega, by omega, by omega⟩, H.allocK (fun w1 H1 => H1.allocK (fun w2 H2 => ?_))⟩
    rw [made_pairs] at H2
    refine ⟨_, _, rfl, Or.inr ⟨⟨⟨by omega, by omega⟩, hxw, h1, h2⟩, ⟨w1.heap.size, m, c, wb, hb, hc, more, cb, mb, w.heap.size⟩, rfl, rfl⟩, H2.to ?_⟩
    simp [portL, PS.first, memL, cacL]
theorem planPort (a : LA) (s : LS) (hs : s.ok a) (h0 : 0 < s.n) (hb : s.n ≤ 1000000) : SpE Tryz.prog 94 #[ptr a.p] (planL a s) (fun r A =>
    (¬ portOk s.threads s.homes s.words ∧ ∃ e : Int, e ≠ 0 ∧ r = .tuple #[.pointer none, i64 e] ∧ A = planL a s) ∨
    (portOk s.threads s.homes s.words ∧ ∃ b : PA, r = .tuple #[ptr b.p, i64 0] ∧ A = portL b (PS.first s.threads.toNat s.homes s.words) ++ planL a s)) := by
  intro w0 S w B H
  refine callsPlanPlanPort _ _ _ ?_
  unfold prePlanPlanPort
  refine H.drewK (fun w H => ?_)
  refine exInt (H.cell 0 rfl rfl) (exSlice (H.cell 0 rfl rfl) (exSlice (H.cell 0 rfl rfl) ?_))
  have lh : s.homes.length = s.n := by have := hs.h; simp [LS.homes]; omega
  have lw : s.words.length = s.n := by have := hs.w; simp [LS.words]; omega
  cases hh : a.hp with
  | none => have := hs.hn hh; have h2 := hs.h; rw [this] at h2; simp at h2; omega
  | some hb1 =>
  cases hw : a.wp with
  | none => have := hs.wn hw; have h2 := hs.w; rw [this] at h2; simp at h2; omega
  | some wb1 =>
  have e1 : (Value.slice (slA (some hb1)) s.n s.hall.length) = .slice (some ⟨hb1, 0, none⟩) s.homes.length s.hall.length := by rw [lh]; rfl
  have e2 : (Value.slice (slA (some wb1)) s.n s.wall.length) = .slice (some ⟨wb1, 0, none⟩) s.words.length s.wall.length := by rw [lw]; rfl
  rw [e1, e2]
  have HH : St w0 S w ((a.p, [i64 s.threads, .slice (slA a.hp) s.n s.hall.length, .slice (slA a.wp) s.n s.wall.length]) :: (hb1, rows iRow s.hall) :: (wb1, rows wRow s.wall) :: B) := H.to (by simp [planL, slB, hh, hw])
  refine (portNew s.threads _ s.homes _ _ s.words _ rfl (by omega) (by omega)).go H [] (planL a s ++ B) rfl
    ⟨RO.own HH 1 rfl (by simp) (fun j v hv => ?_), RO.own HH 2 rfl (by simp) (fun j v hv => ?_)⟩ (fun r A w' hq H => ?_)
  · rw [rows_iRow, Nat.zero_add]
    rw [LS.homes, List.map_take, List.getElem?_take] at hv
    split at hv
    · simpa [ints] using hv
    · cases hv
  · rw [rows_wRow, Nat.zero_add]
    rw [LS.words, List.map_take, List.getElem?_take] at hv
    split at hv
    · simpa [ints] using hv
    · cases hv
  · rcases hq with ⟨h1, e, h2, rfl, rfl⟩ | ⟨h1, b, rfl, rfl⟩
    · exact ⟨_, _, rfl, _, _, rfl, Or.inl ⟨h1, e, h2, rfl, rfl⟩, H⟩
    · exact ⟨_, _, rfl, _, _, rfl, Or.inr ⟨h1, b, rfl, rfl⟩, H.to (by simp)⟩
end Go.Proofs.YtollfjfcdofbaaaGreat
