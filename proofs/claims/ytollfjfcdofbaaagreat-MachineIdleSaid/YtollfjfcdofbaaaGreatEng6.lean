/- The engine, part 6: code; functions. -/
import Derived.Test.YtollfjfcdofbaaaGreatEng5
namespace Go.Proofs.YtollfjfcdofbaaaGreat
open Go
set_option linter.unusedSimpArgs false
set_option linter.unusedVariables false

/-! ## Loops: what is told of the slots at a round's head -/
inductive SK where
  | dead | leaf (l : Leaf) | agg (ls : List Leaf)
def leafOfV : Value → Leaf
  | .int k _ => .int k
  | .bool _ => .bool
  | .string _ => .str
  | .pointer _ => .ptr
  | .slice .. => .slice
  | .map _ => .map
  | _ => .raw
def skOf : Value → SK
  | .int k _ => .leaf (.int k)
  | .bool _ => .leaf .bool
  | .string _ => .leaf .str
  | .pointer _ => .leaf .ptr
  | .slice .. => .leaf .slice
  | .map _ => .leaf .map
  | .func .. | .nilFunc | .iface .. | .nilIface => .leaf .raw
  | .agg cs => (match cs.toList with
    | [] => .dead
    | v :: vs => .agg (leafOfV v :: vs.map leafOfV))
  | _ => .dead

def dstsOps : List Oper → List Nat
  | [] => []
  | o :: r => (match o.dst with
    | some d => d :: dstsOps r
    | none => dstsOps r)
theorem dstsOps_mem {l : List Oper} {o : Oper} {d : Nat} (ho : o ∈ l) (hd : o.dst = some d) : d ∈ dstsOps l := by
  induction l with
  | nil => cases ho
  | cons x r ih =>
    rcases List.mem_cons.1 ho with rfl | ho
    · simp [dstsOps, hd]
    · have := ih ho
      cases hx : x.dst <;> simp [dstsOps, hx, this]
def dsts : Code → List Nat
  | .region _ ops _ => dstsOps ops.toList
  | .seq a b => dsts a ++ dsts b
  | .cond _ a b => dsts a ++ dsts b
  | .block _ c => dsts c
  | .loop c => dsts c
  | _ => []
/-- each but once, rising -/
def insertN (d : Nat) : List Nat → List Nat
  | [] => [d]
  | x :: r => match Nat.blt d x with
    | true => d :: x :: r
    | false => (match Nat.beq d x with
      | true => x :: r
      | false => x :: insertN d r)
theorem mem_insertN {d y : Nat} : ∀ {l : List Nat}, y ∈ insertN d l ↔ y = d ∨ y ∈ l
  | [] => by simp [insertN]
  | x :: r => by
    unfold insertN
    split
    · simp
    · split
      · rename_i hb
        have : d = x := Nat.eq_of_beq_eq_true hb
        subst this; simp
      · simp only [List.mem_cons, mem_insertN (l := r)]
        constructor
        · rintro (h | h | h) <;> simp [h]
        · rintro (h | h | h) <;> simp [h]
def sortN : List Nat → List Nat
  | [] => []
  | d :: r => insertN d (sortN r)
theorem mem_sortN {y : Nat} : ∀ {l : List Nat}, y ∈ sortN l ↔ y ∈ l
  | [] => by simp [sortN]
  | d :: r => by simp [sortN, mem_insertN, mem_sortN (l := r)]

abbrev Heads := List (Nat × SK)
def skS (x : Bool × Value) : SK := match x.1 with
  | true => .dead
  | false => skOf x.2
def headsOf (S : Sl) : List Nat → Heads
  | [] => []
  | j :: r => (j, skS (S j)) :: headsOf S r
theorem headsOf_keys {S : Sl} {j : Nat} : ∀ {l : List Nat}, j ∈ l ↔ ∃ k, (j, k) ∈ headsOf S l
  | [] => by simp [headsOf]
  | x :: r => by
    simp only [headsOf, List.mem_cons, Prod.mk.injEq, headsOf_keys (S := S) (l := r)]
    constructor
    · rintro (rfl | ⟨k, h⟩)
      · exact ⟨_, .inl ⟨rfl, rfl⟩⟩
      · exact ⟨k, .inr h⟩
    · rintro ⟨k, ⟨rfl, rfl⟩ | h⟩
      · exact .inl rfl
      · exact .inr ⟨k, h⟩
def leavesOfH : Heads → List Leaf
  | [] => []
  | (_, .dead) :: r => leavesOfH r
  | (_, .leaf l) :: r => l :: leavesOfH r
  | (_, .agg ls) :: r => ls ++ leavesOfH r
def headVals : Heads → (Nat → Value) → Option (List Value)
  | [], _ => some []
  | (_, .dead) :: r, S => headVals r S
  | (j, .leaf _) :: r, S => (match headVals r S with
    | some vs => some (S j :: vs)
    | none => none)
  | (j, .agg ls) :: r, S => (match S j with
    | .agg cs => (match Nat.beq cs.toList.length ls.length with
      | true => (match headVals r S with
        | some vs => some (cs.toList ++ vs)
        | none => none)
      | false => none)
    | _ => none)

def alL : Leaf → (Value → Prop) → Prop
  | .int k, K => ∀ n : Int, K (.int k n)
  | .bool, K => ∀ b : Bool, K (.bool b)
  | .str, K => ∀ s : ByteArray, K (.string s)
  | .ptr, K => ∀ p : Option Addr, K (.pointer p)
  | .slice, K => ∀ (p : Option Addr) (l c : Nat), K (.slice p l c)
  | .map, K => ∀ m : Option Nat, K (.map m)
  | .raw, K => ∀ v : Value, K v
def fitL : Leaf → Value → Bool
  | .int k, .int k' _ => decide (k = k')
  | .bool, .bool _ => true
  | .str, .string _ => true
  | .ptr, .pointer _ => true
  | .slice, .slice .. => true
  | .map, .map _ => true
  | .raw, _ => true
  | _, _ => false
theorem alL.inst {l : Leaf} {K : Value → Prop} {v : Value} (h : alL l K) (hv : fitL l v = true) : K v := by
  cases l <;> cases v <;> simp only [fitL, decide_eq_true_eq] at hv <;> first | (subst hv; exact h _) | exact h _ | exact h _ _ _ | cases hv
def alLs : List Leaf → (List Value → Prop) → Prop
  | [], K => K []
  | l :: ls, K => alL l fun v => alLs ls fun vs => K (v :: vs)
def fitLs : List Leaf → List Value → Bool
  | [], [] => true
  | l :: ls, v :: vs => fitL l v && fitLs ls vs
  | _, _ => false
theorem alLs.inst : ∀ {ls : List Leaf} {K : List Value → Prop} {vs : List Value}, alLs ls K → fitLs ls vs = true → K vs
  | [], _, [], h, _ => h
  | l :: ls, K, v :: vs, h, hv => by
    simp only [fitLs, Bool.and_eq_true] at hv
    exact alLs.inst (K := fun vs => K (v :: vs)) (alL.inst h hv.1) hv.2
def sjunk (S : Sl) (j : Nat) (v : Value) : Sl := fun i => bif Nat.beq i j then (true, v) else S i
def headAll : Heads → Sl → (Nat → Value) → (Sl → List Value → Prop) → Prop
  | [], S, _, K => K S []
  | (j, .dead) :: r, S, g, K => headAll r (sjunk S j (g j)) g K
  | (j, .leaf l) :: r, S, g, K => alL l fun v => headAll r (sput S j v) g fun S' vs => K S' (v :: vs)
  | (j, .agg ls) :: r, S, g, K => alLs ls fun vs0 => headAll r (sput S j (.agg vs0.toArray)) g fun S' vs => K S' (vs0 ++ vs)
/-- the slots at a round's head -/
def updH : Heads → Sl → (Nat → Value) → Sl
  | [], S, _ => S
  | (j, .dead) :: r, S, g => updH r (sjunk S j (g j)) g
  | (j, .leaf _) :: r, S, g => updH r (sput S j (g j)) g
  | (j, .agg _) :: r, S, g => updH r (sput S j (g j)) g
theorem updH_val : ∀ (ms : Heads) (S : Sl) (g : Nat → Value) (j : Nat), ((∃ k, (j, k) ∈ ms) → (updH ms S g j).2 = g j) ∧ ((¬ ∃ k, (j, k) ∈ ms) → updH ms S g j = S j)
  | [], S, g, j => ⟨fun ⟨k, hk⟩ => (List.not_mem_nil hk).elim, fun _ => rfl⟩
  | (i, sk) :: r, S, g, j => by
    have main : ∀ S1 : Sl, updH ((i, sk) :: r) S g = updH r S1 g → (S1 i).2 = g i → (∀ x, ¬ x = i → S1 x = S x) →
        ((∃ k, (j, k) ∈ (i, sk) :: r) → (updH ((i, sk) :: r) S g j).2 = g j) ∧ ((¬ ∃ k, (j, k) ∈ (i, sk) :: r) → updH ((i, sk) :: r) S g j = S j) := by
      intro S1 he h1 h2
      obtain ⟨ih1, ih2⟩ := updH_val r S1 g j
      rw [he]
      constructor
      · rintro ⟨k, hk⟩
        by_cases hr : ∃ k, (j, k) ∈ r
        · exact ih1 hr
        · rw [ih2 hr]
          rcases List.mem_cons.1 hk with h | h
          · obtain ⟨rfl, _⟩ := Prod.mk.inj h
            exact h1
          · exact absurd ⟨k, h⟩ hr
      · intro hn
        rw [ih2 (fun ⟨k, hk⟩ => hn ⟨k, by simp [hk]⟩)]
        exact h2 j (fun e => hn ⟨sk, by simp [e]⟩)
    cases sk with
    | dead => exact main _ rfl (by simp [sjunk]) (fun x hx => by simp [sjunk, nbeq_false hx])
    | leaf l => exact main _ rfl (by simp [sput]) (fun x hx => by simp [sput, nbeq_false hx])
    | agg l => exact main _ rfl (by simp [sput]) (fun x hx => by simp [sput, nbeq_false hx])
theorem fitLs_append : ∀ {ls : List Leaf} {us vs : List Value} {ls' : List Leaf}, us.length = ls.length → fitLs (ls ++ ls') (us ++ vs) = true → fitLs ls us = true ∧ fitLs ls' vs = true
  | [], [], _, _, _, h => ⟨rfl, h⟩
  | l :: ls, u :: us, vs, ls', hl, h => by
    simp only [List.cons_append, fitLs, Bool.and_eq_true] at h
    obtain ⟨h1, h2⟩ := fitLs_append (by simpa using hl) h.2
    exact ⟨by simp [fitLs, h.1, h1], h2⟩
theorem headAll.inst : ∀ {ms : Heads} {S : Sl} {g : Nat → Value} {K : Sl → List Value → Prop} {vs : List Value}, headAll ms S g K → headVals ms g = some vs → fitLs (leavesOfH ms) vs = true → K (updH ms S g) vs := by
  intro ms
  induction ms with
  | nil => intro S g K vs h hv _; cases hv; exact h
  | cons x r ih =>
    obtain ⟨j, sk⟩ := x
    intro S g K vs h hv hf
    cases sk with
    | dead => exact ih (S := sjunk S j (g j)) (K := K) h hv hf
    | leaf l =>
      simp only [headVals] at hv
      split at hv
      · rename_i us hus
        cases hv
        simp only [leavesOfH, fitLs, Bool.and_eq_true] at hf
        exact ih (S := sput S j (g j)) (K := fun S'' vs => K S'' (g j :: vs)) (alL.inst (K := fun v => headAll r (sput S j v) g fun S'' vs => K S'' (v :: vs)) h hf.1) hus hf.2
      · cases hv
    | agg ls =>
      simp only [headVals] at hv
      split at hv
      · rename_i cs hcs
        split at hv
        · rename_i hl
          have hl : cs.toList.length = ls.length := Nat.eq_of_beq_eq_true hl
          split at hv
          · rename_i us hus
            cases hv
            simp only [leavesOfH] at hf
            obtain ⟨h1, h2⟩ := fitLs_append hl hf
            have h3 := alLs.inst (K := fun vs0 => headAll r (sput S j (.agg vs0.toArray)) g fun S'' vs => K S'' (vs0 ++ vs)) h h1
            have := ih (K := fun S'' vs => K S'' (cs.toList ++ vs)) h3 hus h2
            simp only [Array.toArray_toList] at this
            simp only [updH, hcs]
            exact this
          · cases hv
        · cases hv
      · cases hv

def Cur (α : Type) : List Leaf → Type
  | [] => α
  | .int _ :: ls => Int → Cur α ls
  | .bool :: ls => Bool → Cur α ls
  | .str :: ls => ByteArray → Cur α ls
  | .ptr :: ls => Option Addr → Cur α ls
  | .slice :: ls => Option Addr → Nat → Nat → Cur α ls
  | .map :: ls => Option Nat → Cur α ls
  | .raw :: ls => Value → Cur α ls
def apIL (_w : World) : (l : Leaf) → (ls : List Leaf) → Cur (World → Prop) (l :: ls) → Value → (Cur (World → Prop) ls → Prop) → Prop
  | .int k, _, f, v, K => (match v with
    | .int k' n => (match decide (k = k') with
      | true => K (f n)
      | false => False)
    | _ => False)
  | .bool, _, f, v, K => (match v with
    | .bool b => K (f b)
    | _ => False)
  | .str, _, f, v, K => (match v with
    | .string b => K (f b)
    | _ => False)
  | .ptr, _, f, v, K => (match v with
    | .pointer b => K (f b)
    | _ => False)
  | .slice, _, f, v, K => (match v with
    | .slice p l c => K (f p l c)
    | _ => False)
  | .map, _, f, v, K => (match v with
    | .map b => K (f b)
    | _ => False)
  | .raw, _, f, v, K => K (f v)
def apI (w : World) : (ls : List Leaf) → Cur (World → Prop) ls → List Value → Prop
  | [], f, vs => (match vs with
    | [] => f w
    | _ :: _ => False)
  | l :: ls, f, vs => (match vs with
    | [] => False
    | v :: vs => apIL w l ls f v fun f' => apI w ls f' vs)
def apML (_w : World) : (l : Leaf) → (ls : List Leaf) → Cur (World → Nat) (l :: ls) → Value → (Cur (World → Nat) ls → Nat) → Nat
  | .int k, _, f, v, K => (match v with
    | .int k' n => (match decide (k = k') with
      | true => K (f n)
      | false => 0)
    | _ => 0)
  | .bool, _, f, v, K => (match v with
    | .bool b => K (f b)
    | _ => 0)
  | .str, _, f, v, K => (match v with
    | .string b => K (f b)
    | _ => 0)
  | .ptr, _, f, v, K => (match v with
    | .pointer b => K (f b)
    | _ => 0)
  | .slice, _, f, v, K => (match v with
    | .slice p l c => K (f p l c)
    | _ => 0)
  | .map, _, f, v, K => (match v with
    | .map b => K (f b)
    | _ => 0)
  | .raw, _, f, v, K => K (f v)
def apM (w : World) : (ls : List Leaf) → Cur (World → Nat) ls → List Value → Nat
  | [], f, vs => (match vs with
    | [] => f w
    | _ :: _ => 0)
  | l :: ls, f, vs => (match vs with
    | [] => 0
    | v :: vs => apML w l ls f v fun f' => apM w ls f' vs)
theorem apIL_fits {w : World} {l : Leaf} {ls : List Leaf} {f : Cur (World → Prop) (l :: ls)} {v : Value} {K : Cur (World → Prop) ls → Prop} (h : apIL w l ls f v K) : fitL l v = true ∧ ∃ f', K f' := by
  cases l with
  | int k =>
    cases v with
    | int k' n =>
      have h' : (match decide (k = k') with
        | true => K (f n)
        | false => False) := h
      split at h'
      · rename_i hk; exact ⟨hk, _, h'⟩
      · exact h'.elim
    | _ => exact False.elim h
  | bool =>
    cases v with
    | bool b => exact ⟨rfl, _, h⟩
    | _ => exact False.elim h
  | str =>
    cases v with
    | string b => exact ⟨rfl, _, h⟩
    | _ => exact False.elim h
  | ptr =>
    cases v with
    | pointer b => exact ⟨rfl, _, h⟩
    | _ => exact False.elim h
  | slice =>
    cases v with
    | slice p n c => exact ⟨rfl, _, h⟩
    | _ => exact False.elim h
  | map =>
    cases v with
    | map b => exact ⟨rfl, _, h⟩
    | _ => exact False.elim h
  | raw => exact ⟨by cases v <;> rfl, _, h⟩
theorem apC_fits : ∀ {ls : List Leaf} {I : Cur (World → Prop) ls} {vs : List Value} {w : World}, apI w ls I vs → fitLs ls vs = true := by
  intro ls
  induction ls with
  | nil =>
    intro I vs w h
    cases vs with
    | nil => rfl
    | cons v vs => exact False.elim h
  | cons l ls ih =>
    intro I vs w h
    cases vs with
    | nil => exact False.elim h
    | cons v vs =>
      obtain ⟨h1, f', h2⟩ := apIL_fits (w := w) h
      simp only [fitLs, h1, Bool.true_and]
      exact ih h2

/-! ## Code -/
def symb (P : Program) (N : Nat) : Code → (Exit → Sl → World → Prop) → Sl → World → Prop
  | .skip, K, S, w => K .normal S w
  | .region _ ops draw, K, S, w => regionQ P N ops draw (K .normal) S w
  | .seq a b, K, S, w => symb P N a (fun e S' w' => (match e with
    | .normal => symb P N b K S' w'
    | e => K e S' w')) S w
  | .cond c x y, K, S, w => (match oev S c with
    | .bool t => Br t (symb P N x K S w) (symb P N y K S w)
    | _ => False)
  | .block id c, K, S, w => symb P N c (fun e S' w' => (match e with
    | .exit id' => (match Nat.beq id' id with
      | true => K .normal S' w'
      | false => K (.exit id') S' w')
    | e => K e S' w')) S w
  | .loop c, K, S, w =>
    ∃ (I : Cur (World → Prop) (leavesOfH (headsOf S (sortN (dsts c))))) (μ : Cur (World → Nat) (leavesOfH (headsOf S (sortN (dsts c))))),
      (match headVals (headsOf S (sortN (dsts c))) (fun j => (S j).2) with
      | some vs => apI w _ I vs
      | none => False) ∧
      ∀ (g : Nat → Value) (w1 : World), headAll (headsOf S (sortN (dsts c))) S g fun S1 vs => apI w1 _ I vs →
        symb P N c (fun e S' w' => (match e with
          | .normal => (match headVals (headsOf S (sortN (dsts c))) (fun j => (S' j).2) with
            | some vs' => apI w' _ I vs' ∧ apM w' _ μ vs' < apM w1 _ μ vs
            | none => False)
          | e => K e S' w')) S1 w1
  | .exit id, K, S, w => K (.exit id) S w
  | .ret, K, S, w => K .ret S w
  | _, _, _, _ => False

theorem Sim.fn {N : Nat} {S : Sl} {a : Act} (h : Sim N S a) : (fun j => (S j).2) = fun j => a.tmps.getD j undef := funext fun j => (h.get j).symm

theorem symb.sound {P : Program} {N : Nat} : ∀ (c : Code) (K : Exit → Sl → World → Prop) (D : Nat → Bool) (S0 S : Sl) (a : Act) (w : World),
    Sim N S a → Fr D S0 S → (∀ d ∈ dsts c, D d = true) → symb P N c K S w →
    c.wp P (fun e a' w' => ∃ S', Sim N S' a' ∧ Fr D S0 S' ∧ K e S' w') a w := by
  intro c
  induction c with
  | skip => intro K D S0 S a w hs hf hd h; exact wp_skip ⟨S, hs, hf, h⟩
  | region id ops draw =>
    intro K D S0 S a w hs hf hd h
    refine wp_mono (regionQ.sound (id := id) hs hf (fun o ho d hdd => hd d (dstsOps_mem ho hdd)) h) ?_
    rintro e a' w' ⟨rfl, S', h1, h2, h3⟩
    exact ⟨S', h1, h2, h3⟩
  | seq x y ihx ihy =>
    intro K D S0 S a w hs hf hd h
    refine wp_seq (wp_mono (ihx _ D S0 S a w hs hf (fun d hdd => hd d (by simp [dsts, hdd])) h) ?_)
    rintro e a' w' ⟨S', h1, h2, h3⟩
    cases e with
    | normal => exact ihy K D S0 S' a' w' h1 h2 (fun d hdd => hd d (by simp [dsts, hdd])) h3
    | exit id => exact ⟨S', h1, h2, h3⟩
    | goto l => exact ⟨S', h1, h2, h3⟩
    | ret => exact ⟨S', h1, h2, h3⟩
    | panic ch => exact ⟨S', h1, h2, h3⟩
    | outgrown => exact ⟨S', h1, h2, h3⟩
  | cond c x y ihx ihy =>
    intro K D S0 S a w hs hf hd h
    unfold symb at h
    split at h
    · rename_i t ht
      have hc : a.eval c = .bool t := by rw [hs.eval]; exact ht
      cases t with
      | true => exact wp_cond_true hc (ihx K D S0 S a w hs hf (fun d hdd => hd d (by simp [dsts, hdd])) h)
      | false => exact wp_cond_false hc (ihy K D S0 S a w hs hf (fun d hdd => hd d (by simp [dsts, hdd])) h)
    · exact h.elim
  | block id c ih =>
    intro K D S0 S a w hs hf hd h
    refine wp_block (wp_mono (ih _ D S0 S a w hs hf hd h) ?_)
    rintro e a' w' ⟨S', h1, h2, h3⟩
    cases e with
    | exit id' =>
      simp only at h3
      by_cases hid : id' = id
      · subst hid
        simp only [nbeq_true] at h3
        simp only [Exit.inBlock, if_true]
        exact ⟨S', h1, h2, h3⟩
      · simp only [nbeq_false hid] at h3
        simp only [Exit.inBlock, if_neg hid]
        exact ⟨S', h1, h2, h3⟩
    | normal => exact ⟨S', h1, h2, h3⟩
    | goto l => exact ⟨S', h1, h2, h3⟩
    | ret => exact ⟨S', h1, h2, h3⟩
    | panic ch => exact ⟨S', h1, h2, h3⟩
    | outgrown => exact ⟨S', h1, h2, h3⟩
  | loop c ih =>
    intro K D S0 S a w hs hf hd h
    unfold symb at h
    obtain ⟨I, μ, h0, hr⟩ := h
    generalize hms : headsOf S (sortN (dsts c)) = ms at I μ h0 hr
    have hkeys : ∀ j, (∃ k, (j, k) ∈ ms) ↔ j ∈ dsts c := fun j => by rw [← hms, ← headsOf_keys, mem_sortN]
    let DM : Nat → Bool := fun j => decide (j ∈ dsts c)
    let tm : Act → Nat → Value := fun a j => a.tmps.getD j undef
    refine wp_loop (fun a' w' => a'.tmps.size = N ∧ a'.defers = [] ∧ (∀ j, DM j = false → tm a' j = (S j).2) ∧ (match headVals ms (tm a') with
      | some vs => apI w' _ I vs
      | none => False)) (fun a' w' => match headVals ms (tm a') with
      | some vs => apM w' _ μ vs
      | none => 0) ?_ ?_
    · have e1 : tm a = fun j => (S j).2 := hs.fn.symm
      simp only [e1]
      exact ⟨hs.size, hs.defers, fun _ _ => trivial, h0⟩
    · rintro a' w' ⟨hsz, hdf, hf', hi'⟩
      split at hi'
      · rename_i vs hvs
        have hbody := headAll.inst (hr (tm a') w') hvs (apC_fits hi')
        have hs' : Sim N (updH ms S (tm a')) a' := by
          refine ⟨hsz, hdf, fun j => ?_⟩
          obtain ⟨h1, h2⟩ := updH_val ms S (tm a') j
          by_cases hn : ∃ k, (j, k) ∈ ms
          · exact (h1 hn).symm
          · rw [h2 hn]
            refine hf' j ?_
            rw [hkeys] at hn
            simpa [DM] using hn
        have hfS : Fr DM S (updH ms S (tm a')) := by
          intro j hj
          refine (updH_val ms S (tm a') j).2 ?_
          rw [hkeys]
          simpa [DM] using hj
        refine wp_mono (ih _ DM S _ a' w' hs' hfS (fun d hdd => by simpa [DM] using hdd) (hbody hi')) ?_
        rintro e a2 w2 ⟨S2, h1, h2, h3⟩
        have e2 : tm a2 = fun j => (S2 j).2 := h1.fn.symm
        have hfr : Fr D S0 S2 := fun j hj => by
          rw [h2 j ?_]
          · exact hf j hj
          · simp only [DM, decide_eq_false_iff_not]
            intro hm
            rw [hd j hm] at hj
            cases hj
        cases e with
        | normal =>
          have h3' : (match headVals ms (fun j => (S2 j).2) with
            | some vs' => apI w2 _ I vs' ∧ apM w2 _ μ vs' < apM w' _ μ vs
            | none => False) := h3
          show (a2.tmps.size = N ∧ a2.defers = [] ∧ (∀ j, DM j = false → tm a2 j = (S j).2) ∧ (match headVals ms (tm a2) with
            | some vs => apI w2 _ I vs
            | none => False)) ∧ (match headVals ms (tm a2) with
            | some vs => apM w2 _ μ vs
            | none => 0) < apM w' _ μ vs
          rw [e2]
          have hout : ∀ j, DM j = false → (S2 j).2 = (S j).2 := fun j hj => by rw [h2 j hj]
          cases hv2 : headVals ms (fun j => (S2 j).2) with
          | none => rw [hv2] at h3'; exact h3'.elim
          | some vs' => rw [hv2] at h3'; exact ⟨⟨h1.size, h1.defers, hout, h3'.1⟩, h3'.2⟩
        | exit id => exact ⟨S2, h1, hfr, h3⟩
        | goto l => exact ⟨S2, h1, hfr, h3⟩
        | ret => exact ⟨S2, h1, hfr, h3⟩
        | panic ch => exact ⟨S2, h1, hfr, h3⟩
        | outgrown => exact ⟨S2, h1, hfr, h3⟩
      · exact hi'.elim
  | exit id => intro K D S0 S a w hs hf hd h; exact wp_exit ⟨S, hs, hf, h⟩
  | ret => intro K D S0 S a w hs hf hd h; exact wp_ret ⟨S, hs, hf, h⟩
  | rangeFunc => intro K D S0 S a w hs hf hd h; exact h.elim
  | scope => intro K D S0 S a w hs hf hd h; exact h.elim
  | label => intro K D S0 S a w hs hf hd h; exact h.elim
  | goto => intro K D S0 S a w hs hf hd h; exact h.elim
  | refuse => intro K D S0 S a w hs hf hd h; exact h.elim

/-! ## Functions -/
def resQ (P : Program) (S : Sl) (w : World) : List ResultVar → (List Value → Prop) → Prop
  | [], K => K []
  | .tmp t :: r, K => resQ P S w r fun vs => K ((S t).2 :: vs)
  | .cell t ty :: r, K => (match (S t).2 with
    | .pointer p => PtrSome p fun b o => loadQ P ty b o (fun v _ => resQ P S w r fun vs => K (v :: vs)) w
    | _ => False)
def retQ (vs : List Value) : Value := match vs with
  | [v] => v
  | vs => .tuple vs.toArray
def resOne (tmps : Array Value) : ResultVar → Sem Value
  | .tmp t => pure (tmps.getD t undef)
  | .cell a t => do loadVar t (← asAddr (tmps.getD a undef))
theorem resQ.run {P : Program} {S : Sl} {tmps : Array Value} (ht : ∀ j, tmps.getD j undef = (S j).2) {w : World} {l : List ResultVar} : ∀ {K : List Value → Prop}, resQ P S w l K →
    ∃ vs, K vs ∧ (l.mapM (resOne tmps)).run P w = .ok vs w := by
  induction l with
  | nil => intro K h; exact ⟨[], h, by simp⟩
  | cons x r ih =>
    intro K h
    cases x with
    | tmp t =>
      obtain ⟨vs, h1, h2⟩ := ih h
      exact ⟨_, h1, by simp only [List.mapM_cons, resOne, Sem.run_bind, Sem.run_pure, Result.andThen_ok, h2, ht]⟩
    | cell t ty =>
      unfold resQ at h
      split at h
      · rename_i p hp
        obtain ⟨b, o, rfl, hk⟩ := PtrSome.ex h
        obtain ⟨v, F, h1, h2, h3⟩ := loadQ.run hk
        obtain ⟨vs, h4, h5⟩ := ih h1
        have hl : (loadVar ty ⟨b, o, none⟩).run P w = .ok v w := by
          have := h3 w h2
          simpa [Instr.loadAt, Instr.sureAddr] using this
        exact ⟨_, h4, by simp only [List.mapM_cons, resOne, Sem.run_bind, ht, hp, asAddr, Sem.run_pure, Result.andThen_ok, hl, h5]⟩
      · exact h.elim

def fnK (P : Program) (rs : List ResultVar) (R : Ending → World → Prop) (e : Exit) (S : Sl) (w : World) : Prop := match e with
  | .normal | .ret => resQ P S w rs fun vs => R (.returned (retQ vs)) w
  | _ => False

def bodyOf (f : Func) : Code := f.body.getD .skip
/-- a call's meaning -/
def SymC (P : Program) (fn : Func) (c : Code) (args : List Value) (R : Ending → World → Prop) (w : World) : Prop :=
  symb P (args.length + (fn.ntmps - args.length)) c (fnK P fn.results.toList R) (fun j => (false, args.getD j undef)) w

theorem calls_of_sym {P : Program} {f : FuncId} {fn : Func} {c : Code} {args : List Value} {w : World} {R : Ending → World → Prop}
    (hf : P.funcs[f]? = some fn) (hb : fn.body = some c) (h : SymC P fn c args R w) : Calls P f args.toArray w R := by
  refine calls_of_wp hf hb ?_
  have hs : Sim (args.length + (fn.ntmps - args.length)) (fun j => (false, args.getD j undef)) { tmps := args.toArray ++ Array.replicate (fn.ntmps - args.toArray.size) undef, defers := [] } := by
    refine ⟨by simp, rfl, fun j => ?_⟩
    simp only [Array.getD_eq_getD_getElem?, List.getD_eq_getElem?_getD, Array.getElem?_append]
    split
    · rename_i hj; simp
    · rename_i hj
      simp only [List.size_toArray, Nat.not_lt] at hj
      rw [List.getElem?_eq_none (by omega)]
      simp only [Array.getElem?_replicate]
      split <;> rfl
  refine wp_mono (symb.sound c _ (fun _ => true) (fun j => (false, args.getD j undef)) _ _ w hs (fun j hj => by cases hj) (fun _ _ => rfl) h) ?_
  rintro e a' w' ⟨S', h1, h2, h3⟩
  have key : ∀ (hh : resQ P S' w' fn.results.toList fun vs => R (.returned (retQ vs)) w'), a'.defers = [] ∧ ∃ v, (results fn a'.tmps).run P w' = .ok v w' ∧ R (.returned v) w' := by
    intro hh
    obtain ⟨vs, h4, h5⟩ := resQ.run h1.get hh
    refine ⟨h1.defers, _, ?_, h4⟩
    have hres : results fn a'.tmps = (do let vs ← fn.results.mapM (resOne a'.tmps); pure (if h : vs.size = 1 then vs[0] else .tuple vs)) := rfl
    rw [hres]
    rw [Array.mapM_eq_mapM_toList, Sem.run_bind, Sem.run_map, h5]
    simp only [Result.andThen_ok, Sem.run_pure]
    congr 1
    unfold retQ
    split
    · rename_i hsz
      match vs, hsz with
      | [v], _ => rfl
    · rename_i hsz
      match vs, hsz with
      | [], _ => rfl
      | [v], hsz => exact absurd rfl hsz
      | _ :: _ :: _, _ => rfl
  cases e with
  | normal => exact key h3
  | ret => exact key h3
  | exit id => exact h3.elim
  | goto l => exact h3.elim
  | panic ch => exact h3.elim
  | outgrown => exact h3.elim
end Go.Proofs.YtollfjfcdofbaaaGreat
