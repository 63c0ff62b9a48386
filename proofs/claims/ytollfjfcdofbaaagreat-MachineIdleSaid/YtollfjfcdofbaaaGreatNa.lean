/- What the document says of configurations: contracts; the document's example. -/
import Derived.Test.YtollfjfcdofbaaaGreatMd
import Derived.Test.YtollfjfcdofbaaaGreatSymE
namespace Go.Proofs.YtollfjfcdofbaaaGreat
open Go Go.Proofs
set_option linter.unusedSimpArgs false
set_option linter.unusedVariables false
set_option maxRecDepth 100000
set_option maxHeartbeats 4000000
-- NB 3

theorem refHomes (p : Option Addr) (xs : List Int) (c : Nat) (hl : xs.length ≤ 1000000) :
    SpR Tryz.prog 26 #[.slice p xs.length c] (fun w S => ROi w S p xs) [] (fun r A => r = .bool (!anyBad xs) ∧ A = []) := by
  intro w0 S w B hr H
  refine callsWeighlockref02Homes _ _ _ _ _ ?_
  unfold preWeighlockref02Homes
  refine ⟨fun _ i w' => (0 ≤ i ∧ i ≤ xs.length) ∧ (xs.take i.toNat).any badHome = false ∧ St w0 S w' ([] ++ B), fun _ i _ => (xs.length - i).toNat, ⟨⟨by omega, by omega⟩, by simp, H⟩, ?_⟩
  rintro _g w z i ⟨⟨h0, h1⟩, hi, H⟩
  by_cases c2 : i < xs.length
  · refine Br_t c2 ⟨⟨h0, c2⟩, ?_⟩
    obtain ⟨b, o, e, hc⟩ := hr.read H (j := i.toNat) (by omega)
    subst e
    refine PtrSome_at (exInt hc ?_)
    have bad : badHome (xs.getD i.toNat 0) = true → anyBad xs = true := fun hx => List.any_eq_true.2 ⟨_, List.mem_of_getElem? (getD_lt (by omega)), hx⟩
    by_cases c3 : xs.getD i.toNat 0 < 0
    · exact Br_t c3 ⟨_, [], rfl, ⟨by rw [bad (by simp [badHome]; left; exact c3)]; rfl, rfl⟩, H⟩
    refine Br_f c3 ?_
    by_cases c4 : xs.getD i.toNat 0 > 7
    · exact Br_t c4 ⟨_, [], rfl, ⟨by rw [bad (by simp only [badHome, decide_eq_true_eq]; right; omega)]; rfl, rfl⟩, H⟩
    refine Br_f c4 ?_
    rw [wrap_succ h0 (by omega)]
    refine ⟨⟨⟨by omega, by omega⟩, ?_, H⟩, show (xs.length - (i + 1)).toNat < (xs.length - i).toNat by omega⟩
    rw [show (i + 1).toNat = i.toNat + 1 by omega, any_take_succ _ _ (by omega), hi, Bool.false_or]
    simp only [badHome, decide_eq_false_iff_not]
    omega
  · refine Br_f c2 ⟨_, [], rfl, ⟨?_, rfl⟩, H⟩
    rw [List.take_of_length_le (by omega)] at hi
    rw [show anyBad xs = false from hi]; rfl
theorem refSize (n : Int) (A : Blocks) : Sp Tryz.prog 100 #[i64 n] A (.bool ((pows 7).any fun x => n == x)) A := by
  intro w0 S w B H
  refine callsWeighlockref01Size _ _ _ ?_
  unfold preWeighlockref01Size
  have e7 : ((pows 7).any fun x => n == x) = (n == 1 || (n == 2 || (n == 4 || (n == 8 || (n == 16 || (n == 32 || n == 64)))))) := by simp [pows, List.range_succ]
  rw [e7]
  refine ⟨fun _ i w' => ((i = 1) ∨ (i = 2 ∧ n ≠ 1) ∨ (i = 4 ∧ n ≠ 1 ∧ n ≠ 2) ∨ (i = 8 ∧ n ≠ 1 ∧ n ≠ 2 ∧ n ≠ 4) ∨ (i = 16 ∧ n ≠ 1 ∧ n ≠ 2 ∧ n ≠ 4 ∧ n ≠ 8) ∨ (i = 32 ∧ n ≠ 1 ∧ n ≠ 2 ∧ n ≠ 4 ∧ n ≠ 8 ∧ n ≠ 16) ∨ (i = 64 ∧ n ≠ 1 ∧ n ≠ 2 ∧ n ≠ 4 ∧ n ≠ 8 ∧ n ≠ 16 ∧ n ≠ 32) ∨
      (i = 128 ∧ n ≠ 1 ∧ n ≠ 2 ∧ n ≠ 4 ∧ n ≠ 8 ∧ n ≠ 16 ∧ n ≠ 32 ∧ n ≠ 64)) ∧ St w0 S w' (A ++ B), fun _ i _ => (200 - i).toNat, ⟨Or.inl rfl, H⟩, ?_⟩
  rintro _g w z i ⟨hi, H⟩
  have hr : 1 ≤ i ∧ i ≤ 128 := by omega
  have hw : IntKind.i64.wrap (i * 2) = i * 2 := wrap_i64 (by omega) (by omega)
  rw [hw]
  by_cases c1 : i ≤ 64
  · refine Br_t c1 ?_
    by_cases c2 : i = n
    · refine Br_eq c2 ⟨?_, H⟩
      subst c2
      rcases hi with h | ⟨h, _⟩ | ⟨h, _⟩ | ⟨h, _⟩ | ⟨h, _⟩ | ⟨h, _⟩ | ⟨h, _⟩ | ⟨h, _⟩ <;> first | (subst h; rfl) | omega
    · refine Br_neq c2 ⟨⟨by omega, H⟩, show (200 - i * 2).toNat < (200 - i).toNat by omega⟩
  · refine Br_f c1 ⟨?_, H⟩
    have : (n == 1 || (n == 2 || (n == 4 || (n == 8 || (n == 16 || (n == 32 || n == 64)))))) = false := by simp; omega
    rw [this]
theorem Br_end {b : Bool} {K : Bool → Prop} {A B : Prop} (h1 : b = true → A) (h2 : b = false → B) : Br b A B := Br_split h1 h2
theorem refCheck (c : Cf) (p : Option Addr) (cap : Nat) (hl : c.homes.length ≤ 1000000) :
    SpR Tryz.prog 38 #[c.val p cap] (fun w S => ROi w S p c.homes) [] (fun r A => r = i64 c.err ∧ A = []) := by
  intro w0 S w B hr H
  refine callsWeighlockref17Check _ _ _ _ _ _ _ _ _ _ _ _ ?_
  unfold preWeighlockref17Check
  refine H.allocK (fun w H => exInt (H.cell 0 rfl rfl) ?_)
  have fin : ∀ {w' : World} {e : Int} {L : Blocks}, e = c.err → St w0 S w' (L ++ B) → ∃ r A', Ending.returned (i64 e) = .returned r ∧ (r = i64 c.err ∧ A' = []) ∧ St w0 S w' (A' ++ B) :=
    fun he H => ⟨_, [], rfl, ⟨by rw [he], rfl⟩, H.sub (List.sublist_append_right _ _)⟩
  by_cases k1 : c.kind < 1
  · exact Br_t k1 (fin (L := [_]) (by simp [Cf.err]; omega) H)
  refine Br_f k1 (exInt (H.cell 0 rfl rfl) ?_)
  by_cases k2 : c.kind > 7
  · exact Br_t k2 (fin (L := [_]) (by simp [Cf.err]; omega) H)
  refine Br_f k2 (exSlice (H.cell 0 rfl rfl) ?_)
  have hk : ¬ (c.kind < 1 ∨ 7 < c.kind) := by omega
  by_cases n1 : ((c.homes.length : Nat) : Int) < 1
  · exact Br_t n1 (fin (L := [_]) (by rw [Cf.err, if_neg hk, if_pos (fun h => by have := h.1.1; omega)]) H)
  refine Br_f n1 (exSlice (H.cell 0 rfl rfl) ?_)
  by_cases n2 : ((c.homes.length : Nat) : Int) > 64
  · exact Br_t n2 (fin (L := [_]) (by rw [Cf.err, if_neg hk, if_pos (fun h => by have := h.1.2; omega)]) H)
  refine Br_f n2 (exSlice (H.cell 0 rfl rfl) ?_)
  refine (refHomes p c.homes cap hl).go H [_] B rfl (hr.sub H (by simp)) (fun r A w hq H => ?_)
  obtain ⟨rfl, rfl⟩ := hq
  refine ⟨_, rfl, ?_⟩
  by_cases hb : anyBad c.homes = true
  · rw [hb]
    exact Br_pos rfl (fin (L := [_]) (by rw [Cf.err, if_neg hk, if_pos (fun h => absurd (hb.symm.trans h.2) (by decide))]) H)
  rw [Bool.not_eq_true] at hb
  rw [hb]
  have hn : newOk c.homes := ⟨⟨by omega, by omega⟩, hb⟩
  simp only [List.cons_append, List.nil_append] at H
  refine Br_neg rfl (exInt (H.cell 0 rfl rfl) ?_)
  by_cases c2 : c.kind = 2
  · refine Br_eq c2 (exInt (H.cell 0 rfl rfl) ?_)
    refine (refSize c.slots []).go H [] _ rfl (fun w H => ⟨_, rfl, ?_⟩)
    simp only [List.nil_append] at H
    cases hp : (pows 7).any fun x => c.slots == x
    · exact Br_pos rfl (fin (L := [_]) (by rw [Cf.err, if_neg hk, if_neg (by simpa using hn), if_pos ⟨c2, fun h => by have := h.2.2; rw [hp] at this; cases this⟩]) H)
    · refine Br_neg rfl (exInt (H.cell 0 rfl rfl) (exSlice (H.cell 0 rfl rfl) ?_))
      by_cases c3 : c.slots < c.homes.length
      · exact Br_t c3 (fin (L := [_]) (by rw [Cf.err, if_neg hk, if_neg (by simpa using hn), if_pos ⟨c2, fun h => by have := h.2.1; omega⟩]) H)
      · exact Br_f c3 (fin (L := [_]) (by rw [Cf.err, if_neg hk, if_neg (by simpa using hn), if_neg (fun h => h.2 ⟨hn, by omega, hp⟩), if_neg (by omega), if_neg (by omega)]) H)
  refine Br_neq c2 ?_
  by_cases c5 : c.kind = 5
  · refine Br_eq c5 (exInt (H.cell 0 rfl rfl) ?_)
    have bad : ¬ (1 ≤ c.pool ∧ c.pool ≤ 8) → 7 = c.err := fun h => by rw [Cf.err, if_neg hk, if_neg (by simpa using hn), if_neg (by omega), if_pos ⟨c5, h⟩]
    by_cases d1 : c.pool < 1
    · exact Br_t d1 (fin (L := [_]) (bad (by omega)) H)
    refine Br_f d1 (exInt (H.cell 0 rfl rfl) ?_)
    by_cases d2 : c.pool > 8
    · exact Br_t d2 (fin (L := [_]) (bad (by omega)) H)
    exact Br_f d2 (fin (L := [_]) (by rw [Cf.err, if_neg hk, if_neg (by simpa using hn), if_neg (by omega), if_neg (by omega), if_neg (by omega)]) H)
  refine Br_neq c5 ?_
  by_cases c7 : c.kind = 7
  · refine Br_eq c7 (exInt (H.cell 0 rfl rfl) ?_)
    have bad : ¬ cohOk c.glob c.loc c.budget → 7 = c.err := fun h => by rw [Cf.err, if_neg hk, if_neg (by simpa using hn), if_neg (by omega), if_neg (by omega), if_pos ⟨c7, h⟩]
    have good : cohOk c.glob c.loc c.budget → 0 = c.err := fun h => by rw [Cf.err, if_neg hk, if_neg (by simpa using hn), if_neg (by omega), if_neg (by omega), if_neg (fun k => k.2 h)]
    have bud : (c.glob = 1 ∨ c.glob = 4) → (c.loc = 1 ∨ c.loc = 3 ∨ c.loc = 4) → ∀ {w' : World} {x : Nat × List Value}, St w0 S w' ([x] ++ B) → ∀ e : Int, (e = 7 ∧ (c.budget < 1 ∨ c.budget > 1000) ∨ e = 0 ∧ ¬ (c.budget < 1 ∨ c.budget > 1000)) →
        ∃ r A', Ending.returned (i64 e) = .returned r ∧ (r = i64 c.err ∧ A' = []) ∧ St w0 S w' (A' ++ B) := by
      intro hg hk2 w' x H e he
      rcases he with ⟨rfl, h⟩ | ⟨rfl, h⟩
      · exact fin (L := [_]) (bad (fun k => by have := k.2.2; omega)) H
      · exact fin (L := [_]) (good ⟨hg, hk2, by omega, by omega⟩) H
    by_cases g1 : c.glob = 1
    · refine Br_nne g1 ?_
      refine exInt (H.cell 0 rfl rfl) ?_
      by_cases l1 : c.loc = 1
      · refine Br_nne l1 ?_
        refine exInt (H.cell 0 rfl rfl) ?_
        by_cases b1 : c.budget < 1
        · exact Br_t b1 (bud (Or.inl g1) (Or.inl l1) H 7 (Or.inl ⟨rfl, Or.inl b1⟩))
        refine Br_f b1 (exInt (H.cell 0 rfl rfl) ?_)
        by_cases b2 : c.budget > 1000
        · exact Br_t b2 (bud (Or.inl g1) (Or.inl l1) H 7 (Or.inl ⟨rfl, Or.inr b2⟩))
        exact Br_f b2 (bud (Or.inl g1) (Or.inl l1) H 0 (Or.inr ⟨rfl, by omega⟩))
      refine Br_ne l1 (exInt (H.cell 0 rfl rfl) ?_)
      by_cases l3 : c.loc = 3
      · refine Br_nne l3 ?_
        refine exInt (H.cell 0 rfl rfl) ?_
        by_cases b1 : c.budget < 1
        · exact Br_t b1 (bud (Or.inl g1) (Or.inr (Or.inl l3)) H 7 (Or.inl ⟨rfl, Or.inl b1⟩))
        refine Br_f b1 (exInt (H.cell 0 rfl rfl) ?_)
        by_cases b2 : c.budget > 1000
        · exact Br_t b2 (bud (Or.inl g1) (Or.inr (Or.inl l3)) H 7 (Or.inl ⟨rfl, Or.inr b2⟩))
        exact Br_f b2 (bud (Or.inl g1) (Or.inr (Or.inl l3)) H 0 (Or.inr ⟨rfl, by omega⟩))
      refine Br_ne l3 (exInt (H.cell 0 rfl rfl) ?_)
      by_cases l4 : c.loc = 4
      · refine Br_nne l4 ?_
        refine exInt (H.cell 0 rfl rfl) ?_
        by_cases b1 : c.budget < 1
        · exact Br_t b1 (bud (Or.inl g1) (Or.inr (Or.inr l4)) H 7 (Or.inl ⟨rfl, Or.inl b1⟩))
        refine Br_f b1 (exInt (H.cell 0 rfl rfl) ?_)
        by_cases b2 : c.budget > 1000
        · exact Br_t b2 (bud (Or.inl g1) (Or.inr (Or.inr l4)) H 7 (Or.inl ⟨rfl, Or.inr b2⟩))
        exact Br_f b2 (bud (Or.inl g1) (Or.inr (Or.inr l4)) H 0 (Or.inr ⟨rfl, by omega⟩))
      exact Br_ne l4 (fin (L := [_]) (bad (fun h => by have := h.2.1; omega)) H)
    refine Br_ne g1 (exInt (H.cell 0 rfl rfl) ?_)
    by_cases g4 : c.glob = 4
    · refine Br_nne g4 ?_
      refine exInt (H.cell 0 rfl rfl) ?_
      by_cases l1 : c.loc = 1
      · refine Br_nne l1 ?_
        refine exInt (H.cell 0 rfl rfl) ?_
        by_cases b1 : c.budget < 1
        · exact Br_t b1 (bud (Or.inr g4) (Or.inl l1) H 7 (Or.inl ⟨rfl, Or.inl b1⟩))
        refine Br_f b1 (exInt (H.cell 0 rfl rfl) ?_)
        by_cases b2 : c.budget > 1000
        · exact Br_t b2 (bud (Or.inr g4) (Or.inl l1) H 7 (Or.inl ⟨rfl, Or.inr b2⟩))
        exact Br_f b2 (bud (Or.inr g4) (Or.inl l1) H 0 (Or.inr ⟨rfl, by omega⟩))
      refine Br_ne l1 (exInt (H.cell 0 rfl rfl) ?_)
      by_cases l3 : c.loc = 3
      · refine Br_nne l3 ?_
        refine exInt (H.cell 0 rfl rfl) ?_
        by_cases b1 : c.budget < 1
        · exact Br_t b1 (bud (Or.inr g4) (Or.inr (Or.inl l3)) H 7 (Or.inl ⟨rfl, Or.inl b1⟩))
        refine Br_f b1 (exInt (H.cell 0 rfl rfl) ?_)
        by_cases b2 : c.budget > 1000
        · exact Br_t b2 (bud (Or.inr g4) (Or.inr (Or.inl l3)) H 7 (Or.inl ⟨rfl, Or.inr b2⟩))
        exact Br_f b2 (bud (Or.inr g4) (Or.inr (Or.inl l3)) H 0 (Or.inr ⟨rfl, by omega⟩))
      refine Br_ne l3 (exInt (H.cell 0 rfl rfl) ?_)
      by_cases l4 : c.loc = 4
      · refine Br_nne l4 ?_
        refine exInt (H.cell 0 rfl rfl) ?_
        by_cases b1 : c.budget < 1
        · exact Br_t b1 (bud (Or.inr g4) (Or.inr (Or.inr l4)) H 7 (Or.inl ⟨rfl, Or.inl b1⟩))
        refine Br_f b1 (exInt (H.cell 0 rfl rfl) ?_)
        by_cases b2 : c.budget > 1000
        · exact Br_t b2 (bud (Or.inr g4) (Or.inr (Or.inr l4)) H 7 (Or.inl ⟨rfl, Or.inr b2⟩))
        exact Br_f b2 (bud (Or.inr g4) (Or.inr (Or.inr l4)) H 0 (Or.inr ⟨rfl, by omega⟩))
      exact Br_ne l4 (fin (L := [_]) (bad (fun h => by have := h.2.1; omega)) H)
    exact Br_ne g4 (fin (L := [_]) (bad (fun h => by have := h.1; omega)) H)
  refine Br_neq c7 ?_
  exact fin (L := [_]) (by rw [Cf.err, if_neg hk, if_neg (by simpa using hn), if_neg (by omega), if_neg (by omega), if_neg (by omega)]) H
theorem law17Ref (c : Cf) (p : Option Addr) (cap : Nat) (A : Blocks) : Sp Tryz.prog 39 #[c.val p cap] A (c.val p cap) A := by
  intro w0 S w B H
  refine callsWeighlocklaw17Ref _ _ _ _ _ _ _ _ _ _ _ _ ?_
  unfold preWeighlocklaw17Ref
  refine H.allocK (fun w1 H => H.allocK (fun w2 H => exInt (H.cell 1 rfl rfl) (exSlice (H.cell 1 rfl rfl) (exInt (H.cell 1 rfl rfl) (exInt (H.cell 1 rfl rfl) (exInt (H.cell 1 rfl rfl) (exInt (H.cell 1 rfl rfl) (exInt (H.cell 1 rfl rfl) (exInt (H.cell 1 rfl rfl) ⟨H.thereF 0 rfl rfl, H.setsF 0 rfl rfl (fun w H => ?_)⟩)))))))))
  exact exInt (H.cell 0 rfl rfl) (exSlice (H.cell 0 rfl rfl) (exInt (H.cell 0 rfl rfl) (exInt (H.cell 0 rfl rfl) (exInt (H.cell 0 rfl rfl) (exInt (H.cell 0 rfl rfl) (exInt (H.cell 0 rfl rfl) (exInt (H.cell 0 rfl rfl) ⟨rfl, H.tail.tail⟩)))))))
/-! ## the document's example -/
def cfA : Cf := ⟨1, [0], 0, 0, 0, 0, 0, 0⟩
def evA : List MS.Ev := [(3, 0, -1), (1, 0, 0), (1, 0, 0)]
theorem cfA_err : cfA.err = 0 := by decide +kernel
theorem evA_n : (MS.first cfA).runN evA = 3 := by decide +kernel
theorem evA_tr : ((MS.first cfA).run evA).tr = [(1, 0, 0, false), (2, 0, 0, false), (4, 0, 0, false)] := by decide +kernel
theorem evA_st : ((MS.first cfA).run evA).lk.ss.state 0 = 2 := by decide +kernel
theorem awake18 : Sp Tryz.prog 50 #[] [] (.bool true) [] := by
  intro w0 S w B H
  refine callsWeighlocklaw18Awake _ _ ?_
  unfold preWeighlocklaw18Awake
  refine H.allocK (fun w1 H => ?_)
  refine (machNew cfA (some ⟨w.heap.size, 0, none⟩) 1 (by decide)).go H [] _ rfl (RO.own H 0 rfl (by simp) (fun j v hv => by simpa [cfA] using hv)) (fun r A w2 hq H => ?_)
  rcases hq with ⟨he, _⟩ | ⟨he, a, rfl, htp, htm, hok, rfl⟩
  · exact absurd cfA_err he
  simp only [List.nil_append] at H
  refine ⟨_, _, rfl, Br_nne rfl (Br_neg rfl (H.allocK (fun w3 H => ?_)))⟩
  have hok' : (MS.first cfA).ok a := hok.ok (fun _ => by rw [htm]; rfl)
  refine (machRun a (MS.first cfA) hok' (some ⟨w2.heap.size, 0, none⟩) evA 3 (by decide)).go H [_] _ rfl (RO.own H 0 rfl (St.notin2 (X := [_]) (A := machL a (MS.first cfA)) H (p := (w2.heap.size, _)) (List.mem_singleton.2 rfl)) (fun j v hv => by rw [Nat.zero_add]; exact hv)) (fun r A w4 hq H => ?_)
  obtain ⟨rfl, tp, tm, rfl, htn⟩ := hq
  rw [evA_n]
  have hok2 : ((MS.first cfA).run evA).ok (a.at_ tp tm) := MS.ok1.ok (a := a.at_ tp tm) (MS.ok1_run hok evA) htn
  refine ⟨_, rfl, ?_⟩
  refine (machTrace (a.at_ tp tm) ((MS.first cfA).run evA) hok2 (by rw [evA_tr]; decide)).go H [_] _ rfl (fun r A w5 hq H => ?_)
  obtain ⟨bp, more, rfl, hn, rfl⟩ := hq
  rw [evA_tr] at hn H ⊢
  cases bp with
  | none => have := hn rfl; simp at this
  | some b =>
  refine ⟨_, _, _, rfl, Br_eq rfl (Br_eq rfl ⟨⟨by decide, by decide⟩, PtrSome_at ?_⟩)⟩
  have hb : Bk w5 b (rows enRow ([(1, 0, 0, false), (2, 0, 0, false), (4, 0, 0, false)] ++ more)) := H.bk (b, _) (by simp [slB])
  have hc : ∀ j v, j < 12 → (([(1, 0, 0, false), (2, 0, 0, false), (4, 0, 0, false)] : List En).flatMap enRow)[j]? = some v → w5.cell? ⟨b, 0 + j, none⟩ = some v := fun j v _ hv => hb.cell (rows_get j v hv)
  refine exInt (hc 0 _ (by decide) rfl) (Br_eq rfl ⟨⟨by decide, by decide⟩, PtrSome_at (exInt (hc 4 _ (by decide) rfl) (Br_eq rfl ⟨⟨by decide, by decide⟩, PtrSome_at (exInt (hc 8 _ (by decide) rfl) (Br_eq rfl ?_))⟩))⟩)
  refine (machStateS (a.at_ tp tm) ((MS.first cfA).run evA) hok2 0).go H (_ :: slB enRow (some b) ([(1, 0, 0, false), (2, 0, 0, false), (4, 0, 0, false)] ++ more)) ((w.heap.size, [Value.int .i64 0]) :: B) (by simp; rfl) (fun w6 H => ⟨_, rfl, ?_⟩)
  rw [evA_st]
  exact ⟨rfl, H.sub (((List.Sublist.cons _ (List.Sublist.refl B)).trans (List.sublist_append_right _ _)).trans (List.sublist_append_right _ _))⟩
/-- the call returns true, and nothing of what was there has turned -/
def True_ (W : World) (e : Ending) (w : World) : Prop := e = .returned (.bool true) ∧ Upd [] W w
end Go.Proofs.YtollfjfcdofbaaaGreat
