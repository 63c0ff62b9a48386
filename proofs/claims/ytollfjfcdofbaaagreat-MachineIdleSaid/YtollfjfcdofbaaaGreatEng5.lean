/- The engine, part 5: regions, drawn or not. -/
import Derived.Test.YtollfjfcdofbaaaGreatEng4
namespace Go.Proofs.YtollfjfcdofbaaaGreat
open Go
set_option linter.unusedSimpArgs false
set_option linter.unusedVariables false

/-! ## One operation, under its guard -/
def guardQ (ops : Array Oper) (o : Oper) (S : Sl) (k : Sl → Bool → Prop) : Prop := match o.guard with
  | none => k S true
  | some (j, want) => (match (ops[j]?).bind (·.dst) with
    | some d => (match (S d).2 with
      | .bool b => Br b (k (setV S d (.bool true)) want) (k (setV S d (.bool false)) (!want))
      | .tuple _ => k S false
      | _ => False)
    | none => False)

theorem guardQ.ex {ops : Array Oper} {o : Oper} {S : Sl} {k : Sl → Bool → Prop} {N : Nat} {a : Act} (hs : Sim N S a) (h : guardQ ops o S k) :
    ∃ b, Region.wanted o (yielded ops a.tmps) = b ∧ k S b := by
  unfold guardQ at h
  split at h
  · rename_i hg; exact ⟨true, by simp [Region.wanted, hg], h⟩
  · rename_i j want hg
    split at h
    · rename_i d hd
      have hget := hs.get d
      have hy : ∀ v, (S d).2 = v → (∀ b, v ≠ .bool b) → yielded ops a.tmps j = none := by
        intro v hv hne
        unfold yielded
        rw [hd]
        simp only [Option.bind_some]
        rw [hv] at hget
        rw [Array.getD_eq_getD_getElem?] at hget
        cases hq : a.tmps[d]? with
        | none => rfl
        | some u => rw [hq] at hget; simp only [Option.getD_some] at hget; subst hget; split <;> simp_all
      split at h
      · rename_i b hb
        have hyb : yielded ops a.tmps j = some b := by
          unfold yielded
          rw [hd]
          simp only [Option.bind_some]
          rw [hb, Array.getD_eq_getD_getElem?] at hget
          cases hq : a.tmps[d]? with
          | none => rw [hq] at hget; simp [undef] at hget
          | some u => rw [hq] at hget; simp only [Option.getD_some] at hget; subst hget; rfl
        cases b with
        | true =>
          rw [Br, setV_same hb] at h
          refine ⟨want, ?_, h⟩
          simp only [Region.wanted, hg, hyb]
          cases want <;> rfl
        | false =>
          rw [Br, setV_same hb] at h
          refine ⟨!want, ?_, h⟩
          simp only [Region.wanted, hg, hyb]
          cases want <;> rfl
      · rename_i t ht
        refine ⟨false, ?_, h⟩
        simp only [Region.wanted, hg, hy _ ht (by simp)]
        cases want <;> rfl
      · exact h.elim
    · exact h.elim

/-! ## A region whose order is fixed -/
def seqOps (P : Program) (N : Nat) (ops : Array Oper) (K : Sl → World → Prop) : List Oper → Sl → World → Prop
  | [], S, w => K S w
  | o :: r, S, w => match dstOk N o.dst with
    | true => guardQ ops o S fun S' wanted => (match wanted with
      | true => (match isQuiet o.op with
        | true => qOp P S' o (fun S'' v _ => seqOps P N ops K r (dput S'' o.dst v) w) w
        | false => eOp P S' o (fun v w' => seqOps P N ops K r (dput S' o.dst v) w') w)
      | false => seqOps P N ops K r (dput S' o.dst undef) w)
    | false => False

/-- outside D the slots are as they were -/
def Fr (D : Nat → Bool) (S0 S : Sl) : Prop := ∀ j, D j = false → S j = S0 j
theorem Fr.put {D : Nat → Bool} {S0 S : Sl} (h : Fr D S0 S) {d : Option Nat} (hd : ∀ x, d = some x → D x = true) (v : Value) : Fr D S0 (dput S d v) := by
  intro j hj
  cases d with
  | none => exact h j hj
  | some d =>
    have hne : ¬ j = d := fun e => by subst e; rw [hd j rfl] at hj; cases hj
    simp only [dput, sput, nbeq_false hne]
    exact h j hj

theorem seqOps.sound {P : Program} {N : Nat} {ops : Array Oper} {K : Sl → World → Prop} {Q : Exit → Act → World → Prop} {D : Nat → Bool} {S0 : Sl}
    (hQ : ∀ S a w, Sim N S a → Fr D S0 S → K S w → Q .normal a w) : ∀ (l : List Oper), (∀ o ∈ l, ∀ d, o.dst = some d → D d = true) → ∀ (S : Sl) (a : Act) (w : World), Sim N S a → Fr D S0 S → seqOps P N ops K l S w → wpList P ops Q l a w
  | [], _, S, a, w, hs, hf, h => hQ S a w hs hf h
  | o :: r, hD, S, a, w, hs, hf, h => by
    unfold seqOps at h
    have hDr : ∀ o ∈ r, ∀ d, o.dst = some d → D d = true := fun o ho => hD o (by simp [ho])
    have hDo := hD o (by simp)
    split at h
    · rename_i hd
      obtain ⟨b, hb, hk⟩ := guardQ.ex hs h
      unfold wpList
      rw [hb]
      cases b with
      | true =>
        simp only [if_true]
        simp only at hk
        refine .inl ?_
        split at hk
        · obtain ⟨v, F, h1, h2, h3⟩ := qOp.run hk
          unfold Oper.wp
          rw [hs.eval, h3 w h2]
          exact seqOps.sound hQ r hDr _ _ _ (hs.put hd v) (hf.put hDo v) h1
        · exact eOp.run hk hs.eval (fun v w' hv => seqOps.sound hQ r hDr _ _ _ (hs.put hd v) (hf.put hDo v) hv) Q
      | false =>
        simp only [Bool.false_eq_true, if_false]
        exact seqOps.sound hQ r hDr _ _ _ (hs.put hd undef) (hf.put hDo undef) hk
    · exact h.elim

/-! ## A region that draws its order -/
/-- masks of what comes before each operation, by whatever edges -/
def maskOf (acc : List Nat) : List Edge → Nat
  | [] => 0
  | e :: es => match Region.binds .any e with
    | true => (2 ^ e.on ||| acc.getD e.on 0) ||| maskOf acc es
    | false => maskOf acc es
def masks : List Nat → List Oper → List Nat
  | acc, [] => acc
  | acc, o :: os => masks (acc ++ [maskOf acc o.after.toList]) os
def bfM (ops : Array Oper) : List Nat := masks [] ops.toList
def bf (ms : List Nat) (j i : Nat) : Bool := (ms.getD j 0).testBit i

/-- i is reached from j by edges -/
inductive Reach (ops : Array Oper) : Nat → Nat → Prop
  | one {j i : Nat} {o : Oper} {e : Edge} : ops[j]? = some o → e ∈ o.after → Region.binds .any e = true → e.on = i → Reach ops j i
  | more {j m i : Nat} {o : Oper} {e : Edge} : ops[j]? = some o → e ∈ o.after → Region.binds .any e = true → e.on = m → Reach ops m i → Reach ops j i

theorem maskOf_bit {acc : List Nat} {i : Nat} : ∀ {es : List Edge}, (maskOf acc es).testBit i = true → ∃ e ∈ es, Region.binds .any e = true ∧ (e.on = i ∨ (acc.getD e.on 0).testBit i = true)
  | [], h => by simp [maskOf] at h
  | e :: es, h => by
    unfold maskOf at h
    split at h
    · rename_i hb
      simp only [Nat.testBit_or, Bool.or_eq_true, Nat.testBit_two_pow] at h
      rcases h with (h | h) | h
      · exact ⟨e, by simp, hb, .inl (by simpa using h)⟩
      · exact ⟨e, by simp, hb, .inr h⟩
      · obtain ⟨e', h1, h2⟩ := maskOf_bit h
        exact ⟨e', by simp [h1], h2⟩
    · obtain ⟨e', h1, h2⟩ := maskOf_bit h
      exact ⟨e', by simp [h1], h2⟩

theorem masks_reach {ops : Array Oper} : ∀ (os : List Oper) (acc : List Nat),
    (∀ k, k < os.length → ops[acc.length + k]? = os[k]?) →
    (∀ j i, (acc.getD j 0).testBit i = true → Reach ops j i) →
    ∀ j i, ((masks acc os).getD j 0).testBit i = true → Reach ops j i
  | [], _, _, h => h
  | o :: os, acc, ho, h => by
    refine masks_reach os _ (fun k hk => ?_) ?_
    · have := ho (k + 1) (by simp; omega)
      simpa [Nat.add_assoc, Nat.add_comm 1 k] using this
    · intro j i hj
      by_cases hlt : j < acc.length
      · rw [List.getD_eq_getElem?_getD, List.getElem?_append_left hlt, ← List.getD_eq_getElem?_getD] at hj
        exact h j i hj
      · rw [List.getD_eq_getElem?_getD, List.getElem?_append_right (by omega)] at hj
        by_cases he : j = acc.length
        · subst he
          simp only [Nat.sub_self, List.getElem?_cons_zero, Option.getD_some] at hj
          have ho0 : ops[acc.length]? = some o := by simpa using ho 0 (by simp)
          obtain ⟨e, h1, h2, h3⟩ := maskOf_bit hj
          have h1' : e ∈ o.after := by simpa using h1
          rcases h3 with h3 | h3
          · exact .one ho0 h1' h2 h3
          · exact .more ho0 h1' h2 rfl (h _ _ h3)
        · have : [maskOf acc o.after.toList][j - acc.length]? = none := by
            rw [List.getElem?_eq_none]; simp; omega
          rw [this] at hj
          simp at hj

theorem bfM_reach {ops : Array Oper} {j i : Nat} (h : bf (bfM ops) j i = true) : Reach ops j i :=
  masks_reach ops.toList [] (fun k _ => by simp) (fun j i hj => by simp at hj) j i h

/-- what has come up is closed downwards -/
def Down (ops : Array Oper) (listed : Array Bool) : Prop := ∀ j, listed.getD j false = true → ∀ o, ops[j]? = some o → ∀ e ∈ o.after, Region.binds .any e = true → listed.getD e.on false = true
theorem Down.reach {ops : Array Oper} {listed : Array Bool} (hd : Down ops listed) {j i : Nat} (h : Reach ops j i) : listed.getD j false = true → listed.getD i false = true := by
  induction h with
  | one ho he hb hi => intro hj; subst hi; exact hd _ hj _ ho _ he hb
  | more ho he hb hm _ ih => intro hj; subst hm; exact ih (hd _ hj _ ho _ he hb)
theorem Down.set {ops : Array Oper} {listed : Array Bool} (hd : Down ops listed) {i : Nat} (hi : i ∈ Region.ready .any ops listed) : Down ops (listed.setIfInBounds i true) := by
  obtain ⟨_, oi, hoi, hall⟩ := mem_ready.1 hi
  intro j hj o ho e he hb
  by_cases hij : i = j
  · subst hij
    rw [hoi] at ho
    cases ho
    exact getD_set_true (hall e he hb)
  · rw [getD_set_ne false hij] at hj
    exact getD_set_true (hd j hj o ho e he hb)
theorem Down.notBefore {ops : Array Oper} {listed : Array Bool} (hd : Down ops listed) {i j : Nat} (hj : j ∈ Region.ready .any ops listed) (hi : listed.getD i true = false) : bf (bfM ops) j i = false := by
  cases h : bf (bfM ops) j i with
  | false => rfl
  | true =>
    exfalso
    obtain ⟨_, oj, hoj, hall⟩ := mem_ready.1 hj
    have hi' : listed.getD i false = false := by
      rw [Array.getD_eq_getD_getElem?] at hi ⊢
      cases hq : listed[i]? with
      | none => rw [hq] at hi; simp at hi
      | some b => rw [hq] at hi; simpa using hi
    have : listed.getD i false = true := by
      cases bfM_reach h with
      | one ho he hb hon =>
        rw [hoj] at ho; cases ho
        subst hon; exact hall _ he hb
      | more ho he hb hon hr =>
        rw [hoj] at ho; cases ho
        subst hon
        exact hd.reach hr (hall _ he hb)
    rw [hi'] at this; cases this

abbrev Facts := List (Nat × (World → Prop))
/-- those facts that are still wanted behind j -/
def still (ms : List Nat) (j : Nat) (F : Facts) : Facts := F.filter fun p => !bf ms j p.1
def holdAll (F : Facts) (w : World) : Prop := ∀ p ∈ F, p.2 w

section
variable {P : Program} {ops : Array Oper} {Q : Exit → Act → World → Prop}
/-- whatever order is picked from here on; the facts hold behind each operation till what they are for must have come up -/
def wpAnyG (P : Program) (ops : Array Oper) (Q : Exit → Act → World → Prop) : Nat → Array Bool → Facts → Act → World → Prop
  | 0, listed, _, a, w => Region.ready .any ops listed = [] ∧ Q .normal a w
  | fuel + 1, listed, F, a, w =>
    (Region.ready .any ops listed = [] → Q .normal a w) ∧
    ∀ i ∈ Region.ready .any ops listed, wpOp P ops Q i (fun a' w' => holdAll (still (bfM ops) i F) w' ∧ wpAnyG P ops Q fuel (listed.setIfInBounds i true) (still (bfM ops) i F) a' w') a w

theorem wpAny_of_G : ∀ (fuel : Nat) (listed : Array Bool) (F : Facts) (a : Act) (w : World), wpAnyG P ops Q fuel listed F a w → wpAny P .any ops Q fuel listed a w
  | 0, _, _, _, _, h => h
  | fuel + 1, _, _, _, _, h => ⟨h.1, fun i hi => wpOp_mono (fun a' w' h' => wpAny_of_G fuel _ _ a' w' h'.2) (h.2 i hi)⟩

theorem wpAnyG_facts : ∀ (fuel : Nat) (listed : Array Bool) (F F' : Facts) (a : Act) (w : World), (∀ p ∈ F', p ∈ F ∨ ∀ w, p.2 w) → wpAnyG P ops Q fuel listed F a w → wpAnyG P ops Q fuel listed F' a w
  | 0, _, _, _, _, _, _, h => h
  | fuel + 1, listed, F, F', a, w, hF, h => by
    refine ⟨h.1, fun i hi => wpOp_mono (fun a' w' h' => ?_) (h.2 i hi)⟩
    have hF2 : ∀ p ∈ still (bfM ops) i F', p ∈ still (bfM ops) i F ∨ ∀ w, p.2 w := by
      intro p hp
      simp only [still, List.mem_filter] at hp ⊢
      rcases hF p hp.1 with h1 | h1
      · exact .inl ⟨h1, hp.2⟩
      · exact .inr h1
    refine ⟨fun p hp => ?_, wpAnyG_facts fuel _ _ _ _ _ hF2 h'.2⟩
    rcases hF2 p hp with h1 | h1
    · exact h'.1 p h1
    · exact h1 w'

theorem wpAnyG_first {i : Nat} {oi : Oper} {v : Value} {S : World → Prop} (hi : ops[i]? = some oi) (hsel : ∀ (j : Nat) (o : Oper) cs b, ops[j]? = some o → o.op ≠ .select cs b)
    (hQ : ∀ c a w, Q (.panic c) (a.put oi.dst v) w → Q (.panic c) a w) :
    ∀ (fuel : Nat) (listed : Array Bool) (F : Facts) (a : Act) (w : World),
      (∀ j oj, ops[j]? = some oj → j ≠ i → listed.getD j true = false → (∀ e ∈ oj.after, Region.binds .any e = true → e.on ≠ i) → oi.apart ops oj = true) →
      Down ops listed → i ∈ Region.ready .any ops listed → YieldsIf P ops S oi v a → S w → holdAll F w →
      wpAnyG P ops Q fuel (listed.setIfInBounds i true) ((i, S) :: F) (a.put oi.dst v) w → wpAnyG P ops Q (fuel + 1) listed F a w := by
  intro fuel
  induction fuel with
  | zero =>
    intro listed F a w _ _ hr hy hS hF H
    refine ⟨fun h => (by rw [h] at hr; cases hr), fun j hj => ?_⟩
    by_cases hji : j = i
    · subst hji; exact hy.wpOp hi hS ⟨fun p hp => hF p (by simp only [still, List.mem_filter] at hp; exact hp.1), H⟩
    · have := ready_mono hj hji
      rw [H.1] at this
      cases this
  | succ fuel ih =>
    intro listed F a w hfree hdown hr hy hS hF H
    refine ⟨fun h => (by rw [h] at hr; cases hr), fun j hj => ?_⟩
    by_cases hji : j = i
    · subst hji
      refine hy.wpOp hi hS ⟨fun p hp => hF p (by simp only [still, List.mem_filter] at hp; exact hp.1), ?_⟩
      exact wpAnyG_facts _ _ _ _ _ _ (fun p hp => .inl (by simp only [still, List.mem_filter] at hp; simp [hp.1])) H
    · have h1 := H.2 j (ready_mono hj hji)
      obtain ⟨hjun, oj, hoj, hall⟩ := mem_ready.1 hj
      have hnot : ∀ e ∈ oj.after, Region.binds .any e = true → e.on ≠ i := fun e he hb heq => by
        have h1 := hall e he hb
        have h0 := (mem_ready.1 hr).1
        rw [heq] at h1
        rcases Nat.lt_or_ge i listed.size with h' | h'
        · simp [h'] at h0 h1; rw [h0] at h1; cases h1
        · simp [Array.getElem?_eq_none h'] at h1
      have hbf : bf (bfM ops) j i = false := hdown.notBefore hj (mem_ready.1 hr).1
      have h2 := wpOp_putIf hoj (hfree j oj hoj hji hjun hnot) (fun cs b => hsel i oi cs b hi) (fun cs b => hsel j oj cs b hoj) hQ hy h1
      have hfree' : ∀ k ok, ops[k]? = some ok → k ≠ i → (listed.setIfInBounds j true).getD k true = false →
          (∀ e ∈ ok.after, Region.binds .any e = true → e.on ≠ i) → oi.apart ops ok = true := fun k ok hk hki hun hno => by
        refine hfree k ok hk hki ?_ hno
        by_cases hjk : j = k
        · subst hjk; exact hjun
        · rw [getD_set_ne true hjk] at hun; exact hun
      have hst : still (bfM ops) j ((i, S) :: F) = (i, S) :: still (bfM ops) j F := by simp [still, hbf]
      rw [hst] at h2
      refine wpOp_mono (fun a' w' h3 => ?_) h2
      obtain ⟨hy', hall', H'⟩ := h3
      have hF' : holdAll (still (bfM ops) j F) w' := fun p hp => hall' p (by simp [hp])
      refine ⟨hF', ih (listed.setIfInBounds j true) _ a' w' hfree' (hdown.set hj) (ready_mono hr (Ne.symm hji)) hy' (hall' (i, S) (by simp)) hF' ?_⟩
      rw [Array.setIfInBounds_comm _ _ hji]
      exact H'

theorem wpAnyG_done {listed : Array Bool} {F : Facts} {a : Act} {w : World} (hr : Region.ready .any ops listed = []) (h : Q .normal a w) :
    ∀ fuel, wpAnyG P ops Q fuel listed F a w
  | 0 => ⟨hr, h⟩
  | _ + 1 => ⟨fun _ => h, by rw [hr]; simp⟩
end

/-! the tables, by lists -/
def readyL (ops : Array Oper) (listed : Array Bool) : List Nat :=
  (List.range ops.toList.length).filter fun i =>
    !listed.getD i true && ((ops[i]?).map (·.after.toList.all fun e => !Region.binds .any e || listed.getD e.on false)).getD false
theorem readyL_eq (ops : Array Oper) (listed : Array Bool) : readyL ops listed = Region.ready .any ops listed := by
  simp [readyL, Region.ready]
def freeL (ops : Array Oper) (listed : Array Bool) (i : Nat) : Bool :=
  match ops[i]? with
  | none => false
  | some oi => (List.range ops.toList.length).all fun j => j == i || listed.getD j true || match ops[j]? with
      | some oj => oj.after.toList.any (fun e => Region.binds .any e && e.on == i) || oi.apart ops oj
      | none => true
theorem freeL_eq (ops : Array Oper) (listed : Array Bool) (i : Nat) : freeL ops listed i = Region.free .any ops listed i := by
  simp [freeL, Region.free]
  rfl
def noSelL (ops : Array Oper) : Bool := ops.toList.all fun o => match o.op with | .select .. => false | _ => true
theorem noSelL_eq (ops : Array Oper) : noSelL ops = Region.noSelect ops := by
  simp [noSelL, Region.noSelect]
  rfl

/-- the first of those that may come up and only read -/
def firstQuiet (ops : Array Oper) : List Nat → Option Nat
  | [] => none
  | i :: r => match ops[i]? with
    | some o => (match isQuiet o.op with
      | true => some i
      | false => firstQuiet ops r)
    | none => firstQuiet ops r
theorem firstQuiet_mem {ops : Array Oper} : ∀ {l : List Nat} {i : Nat}, firstQuiet ops l = some i → i ∈ l ∧ ∃ o, ops[i]? = some o ∧ isQuiet o.op = true
  | [], _, h => by simp [firstQuiet] at h
  | j :: r, i, h => by
    unfold firstQuiet at h
    split at h
    · rename_i o ho
      split at h
      · rename_i hq; cases h; exact ⟨by simp, o, ho, hq⟩
      · obtain ⟨h1, h2⟩ := firstQuiet_mem h; exact ⟨by simp [h1], h2⟩
    · obtain ⟨h1, h2⟩ := firstQuiet_mem h; exact ⟨by simp [h1], h2⟩

def addFact (i : Nat) (f : Fact) (F : Facts) : Facts := match f with
  | some g => (i, g) :: F
  | none => F
/-- the facts that must hold again -/
def again (F : Facts) (w : World) (A : Prop) : Prop := match F with
  | [] => A
  | p :: r => p.2 w ∧ again r w A
theorem again.ok : ∀ {F : Facts} {w : World} {A : Prop}, again F w A → holdAll F w ∧ A
  | [], _, _, h => ⟨fun p hp => (List.not_mem_nil hp).elim, h⟩
  | p :: r, _, _, h => by
    obtain ⟨h1, h2⟩ := again.ok h.2
    exact ⟨fun q hq => by rcases List.mem_cons.1 hq with rfl | hq; exact h.1; exact h1 q hq, h2⟩
def allL : List Nat → (Nat → Prop) → Prop
  | [], _ => True
  | [i], f => f i
  | i :: r, f => f i ∧ allL r f
theorem allL.all : ∀ {l : List Nat} {f : Nat → Prop}, allL l f → ∀ i ∈ l, f i
  | [], _, _, _, hi => by cases hi
  | [j], _, h, i, hi => by rcases List.mem_singleton.1 hi with rfl; exact h
  | j :: k :: r, f, h, i, hi => by
    rcases List.mem_cons.1 hi with rfl | hi
    · exact h.1
    · exact allL.all h.2 i hi

def can (P : Program) (N : Nat) (ops : Array Oper) (ms : List Nat) (K : Sl → World → Prop) : Nat → Array Bool → Facts → Sl → World → Prop
  | 0, listed, _, S, w => (match readyL ops listed with
    | [] => K S w
    | _ => False)
  | fuel + 1, listed, F, S, w => (match firstQuiet ops (readyL ops listed) with
    | some i => (match ops[i]? with
      | some o => (match freeL ops listed i && dstOk N o.dst with
        | true => guardQ ops o S fun S' wanted => (match wanted with
          | true => qOp P S' o (fun S'' v f => can P N ops ms K fuel (listed.setIfInBounds i true) (addFact i f F) (dput S'' o.dst v) w) w
          | false => can P N ops ms K fuel (listed.setIfInBounds i true) F (dput S' o.dst undef) w)
        | false => False)
      | none => False)
    | none => (match readyL ops listed with
      | [] => K S w
      | rs => allL rs fun i => (match ops[i]? with
        | some o => (match dstOk N o.dst with
          | true => guardQ ops o S fun S' wanted => (match wanted with
            | true => eOp P S' o (fun v w' => again (still ms i F) w' (can P N ops ms K fuel (listed.setIfInBounds i true) (still ms i F) (dput S' o.dst v) w')) w
            | false => can P N ops ms K fuel (listed.setIfInBounds i true) (still ms i F) (dput S' o.dst undef) w)
          | false => False)
        | none => False)))

theorem can.sound {P : Program} {N : Nat} {ops : Array Oper} {K : Sl → World → Prop} {Q : Exit → Act → World → Prop} {D : Nat → Bool} {S0 : Sl} (hns : Region.noSelect ops = true) (hD : ∀ (i : Nat) o, ops[i]? = some o → ∀ d, o.dst = some d → D d = true)
    (hQ : ∀ S a w, Sim N S a → Fr D S0 S → K S w → Q .normal a w) (hQp : ∀ c a w, ¬ Q (.panic c) a w) :
    ∀ (fuel : Nat) (listed : Array Bool) (F : Facts) (S : Sl) (a : Act) (w : World), Sim N S a → Fr D S0 S → Down ops listed → holdAll F w → can P N ops (bfM ops) K fuel listed F S w → wpAnyG P ops Q fuel listed F a w
  | 0, listed, F, S, a, w, hs, hf, _, _, h => by
    unfold can at h
    simp only [readyL_eq, freeL_eq] at h
    split at h
    · rename_i hr; exact ⟨hr, hQ S a w hs hf h⟩
    · exact h.elim
  | fuel + 1, listed, F, S, a, w, hs, hf, hdown, hF, h => by
    unfold can at h
    simp only [readyL_eq, freeL_eq] at h
    split at h
    · rename_i i hfq
      obtain ⟨hmem, _, _, hq⟩ := firstQuiet_mem hfq
      split at h
      · rename_i o ho
        split at h
        · rename_i hc
          simp only [Bool.and_eq_true] at hc
          obtain ⟨b, hb, hk⟩ := guardQ.ex hs h
          cases b with
          | true =>
            simp only at hk
            obtain ⟨v, f, h1, h2, h3⟩ := qOp.run hk
            have hy : YieldsIf P ops (fun w => f.holds w) o v a := .inl ⟨hb, fun w' hw' => by rw [hs.eval]; exact h3 w' hw'⟩
            have hF' : holdAll (addFact i f F) w := by
              intro p hp
              unfold addFact at hp
              split at hp
              · rcases List.mem_cons.1 hp with rfl | hp
                · exact h2
                · exact hF p hp
              · exact hF p hp
            have hrec := can.sound hns hD hQ hQp fuel _ _ _ _ w (hs.put hc.2 v) (hf.put (hD _ _ ho) v) (hdown.set hmem) hF' h1
            refine wpAnyG_first ho (Region.noSelect_spec hns) (fun c a w hc => absurd hc (hQp c _ w)) fuel listed F a w (Region.free_spec ho hc.1) hdown hmem hy h2 hF ?_
            refine wpAnyG_facts _ _ _ _ _ _ (fun p hp => ?_) hrec
            unfold addFact
            rcases List.mem_cons.1 hp with rfl | hp1
            · cases f with
              | some g => exact .inl (by simp [Fact.holds])
              | none => exact .inr fun _ => trivial
            · cases f <;> simp [hp1]
          | false =>
            simp only at hk
            have hy : YieldsIf P ops (fun _ => True) o undef a := .inr ⟨hb, rfl⟩
            have hrec := can.sound hns hD hQ hQp fuel _ _ _ _ w (hs.put hc.2 undef) (hf.put (hD _ _ ho) undef) (hdown.set hmem) hF hk
            refine wpAnyG_first ho (Region.noSelect_spec hns) (fun c a w hc => absurd hc (hQp c _ w)) fuel listed F a w (Region.free_spec ho hc.1) hdown hmem hy trivial hF ?_
            refine wpAnyG_facts _ _ _ _ _ _ (fun p hp => ?_) hrec
            rcases List.mem_cons.1 hp with rfl | hp
            · exact .inr fun _ => trivial
            · exact .inl hp
        · exact h.elim
      · exact h.elim
    · split at h
      · rename_i hr; exact wpAnyG_done hr (hQ S a w hs hf h) _
      · rename_i rs hne
        refine ⟨fun h0 => absurd h0 hne, fun i hi => ?_⟩
        have hk := allL.all h i hi
        unfold wpOp
        split at hk
        · rename_i o ho
          simp only [ho]
          split at hk
          · rename_i hd
            obtain ⟨b, hb, hk⟩ := guardQ.ex hs hk
            cases b with
            | true =>
              rw [hb, if_pos rfl]
              simp only at hk
              refine .inl (eOp.run hk hs.eval (fun v w' hv => ?_) Q)
              obtain ⟨h1, h2⟩ := again.ok hv
              exact ⟨h1, can.sound hns hD hQ hQp fuel _ _ _ _ w' (hs.put hd v) (hf.put (hD _ _ ho) v) (hdown.set hi) h1 h2⟩
            | false =>
              rw [hb]
              simp only [Bool.false_eq_true, if_false]
              simp only at hk
              have hF' : holdAll (still (bfM ops) i F) w := fun p hp => hF p (by simp only [still, List.mem_filter] at hp; exact hp.1)
              exact ⟨hF', can.sound hns hD hQ hQp fuel _ _ _ _ w (hs.put hd undef) (hf.put (hD _ _ ho) undef) (hdown.set hi) hF' hk⟩
          · exact hk.elim
        · exact hk.elim

def regionQ (P : Program) (N : Nat) (ops : Array Oper) (draw : Bool) (K : Sl → World → Prop) (S : Sl) (w : World) : Prop := match draw with
  | false => seqOps P N ops K ops.toList S w
  | true => (match P.follows .mixedOrders && noSelL ops with
    | true => Nx w.drew fun w1 => can P N ops (bfM ops) K ops.size (Array.replicate ops.size false) [] S w1
    | false => False)
theorem down_none (ops : Array Oper) (n : Nat) : Down ops (Array.replicate n false) := by
  intro j hj
  exfalso
  rw [Array.getD_eq_getD_getElem?] at hj
  simp only [Array.getElem?_replicate] at hj
  split at hj <;> simp at hj
theorem regionQ.sound {P : Program} {N : Nat} {id : Nat} {ops : Array Oper} {draw : Bool} {K : Sl → World → Prop} {S S0 : Sl} {D : Nat → Bool} {a : Act} {w : World} (hs : Sim N S a) (hf : Fr D S0 S)
    (hD : ∀ o ∈ ops.toList, ∀ d, o.dst = some d → D d = true) (h : regionQ P N ops draw K S w) :
    (Code.region id ops draw).wp P (fun e a' w' => e = .normal ∧ ∃ S', Sim N S' a' ∧ Fr D S0 S' ∧ K S' w') a w := by
  unfold regionQ at h
  split at h
  · refine wp_region_list ?_
    exact seqOps.sound (Q := fun e a' w' => e = .normal ∧ ∃ S', Sim N S' a' ∧ Fr D S0 S' ∧ K S' w') (fun S' a' w' h1 h2 h3 => ⟨rfl, S', h1, h2, h3⟩) _ hD S a w hs hf h
  · split at h
    · rename_i hc
      simp only [Bool.and_eq_true, noSelL_eq] at hc
      refine wp_region_any hc.1 (wpAny_of_G _ _ [] _ _ ?_)
      exact can.sound (Q := fun e a' w' => e = .normal ∧ ∃ S', Sim N S' a' ∧ Fr D S0 S' ∧ K S' w') hc.2 (fun i o ho => hD o (by simpa using Array.mem_of_getElem? ho)) (fun S' a' w' h1 h2 h3 => ⟨rfl, S', h1, h2, h3⟩) (fun c a w hq => by cases hq.1) _ _ _ S a _ hs hf (down_none ops _) (fun p hp => by cases hp) h.ok
    · exact h.elim
end Go.Proofs.YtollfjfcdofbaaaGreat
