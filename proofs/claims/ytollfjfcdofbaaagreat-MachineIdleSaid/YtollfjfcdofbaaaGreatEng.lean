/- The engine: a symbolic executor of the model's code, as a Prop that the kernel computes, and its soundness. -/
import Derived.WalkKit
import Derived.WalkLawsBesides
import Derived.WalkSpells
import Derived.Deep.MidRow
import Derived.OrdersHeld
import Derived.Laws.MakeOwn
import Derived.Laws.OwnMore
namespace Go.Proofs.YtollfjfcdofbaaaGreat
open Go
set_option linter.unusedSimpArgs false
set_option linter.unusedVariables false

/-! ## Slots -/
theorem nbeq_false {a b : Nat} (h : ¬ a = b) : Nat.beq a b = false := by
  cases hb : Nat.beq a b with
  | true => exact absurd (Nat.eq_of_beq_eq_true hb) h
  | false => rfl
theorem nbeq_true (a : Nat) : Nat.beq a a = true := Nat.beq_refl a
/-- of each slot its value, and whether that is whatever (it is written ahead of every reading) -/
abbrev Sl := Nat → Bool × Value
def sput (S : Sl) (d : Nat) (v : Value) : Sl := fun j => bif Nat.beq j d then (false, v) else S j
/-- the same value, told otherwise -/
def setV (S : Sl) (d : Nat) (v : Value) : Sl := fun j => bif Nat.beq j d then ((S d).1, v) else S j
theorem setV_same {S : Sl} {d : Nat} {v : Value} (h : (S d).2 = v) : setV S d v = S := by
  funext j
  simp only [setV]
  by_cases hj : j = d
  · subst hj; simp only [nbeq_true, cond_true]; exact Prod.ext rfl h.symm
  · rw [nbeq_false hj]; rfl
def dput (S : Sl) : Option Nat → Value → Sl
  | some d, v => sput S d v
  | none, _ => S
def oev (S : Sl) : Operand → Value
  | .tmp t => (S t).2
  | .const v => v
  | .global g => .pointer (some ⟨g, 0, none⟩)
  | .func f => .func (.func f) #[] #[]
structure Sim (N : Nat) (S : Sl) (a : Act) : Prop where
  size : a.tmps.size = N
  defers : a.defers = []
  get : ∀ j, a.tmps.getD j undef = (S j).2
def dstOk (N : Nat) : Option Nat → Bool
  | none => true
  | some d => Nat.blt d N

theorem Sim.eval {N : Nat} {S : Sl} {a : Act} (h : Sim N S a) : a.eval = oev S := by
  funext x
  cases x with
  | tmp t => exact h.get t
  | _ => rfl

theorem Sim.put {N : Nat} {S : Sl} {a : Act} (h : Sim N S a) {d : Option Nat} (hd : dstOk N d = true) (v : Value) : Sim N (dput S d v) (a.put d v) := by
  cases d with
  | none => exact h
  | some d =>
    have hlt : d < N := by simpa [dstOk, Nat.blt_eq] using hd
    refine ⟨by simp [Act.put, h.size], h.defers, fun j => ?_⟩
    simp only [dput, sput, Act.put]
    by_cases hj : j = d
    · subst hj
      simp [Array.getD_eq_getD_getElem?, h.size, hlt]
    · have hb : Nat.beq j d = false := nbeq_false hj
      rw [hb]
      have := h.get j
      simp only [Array.getD_eq_getD_getElem?, Array.getElem?_setIfInBounds_ne (Ne.symm hj)] at this ⊢
      simpa using this

/-! ## Words of the computed Prop -/
def Br (b : Bool) (A B : Prop) : Prop := match b with
  | true => A
  | false => B
theorem Br_iff (b : Bool) (A B : Prop) : Br b A B ↔ (if b = true then A else B) := by cases b <;> simp [Br]
theorem Br_dec (p : Prop) [Decidable p] (A B : Prop) : Br (decide p) A B ↔ (if p then A else B) := by by_cases h : p <;> simp [h, Br]
theorem Br_pos {b : Bool} {A B : Prop} (h : b = true) (ha : A) : Br b A B := by subst h; exact ha
theorem Br_neg {b : Bool} {A B : Prop} (h : b = false) (hb : B) : Br b A B := by subst h; exact hb

/-- the next world, by a name of its own -/
def Nx (w' : World) (K : World → Prop) : Prop := ∀ w1 : World, w1 = w' → K w1
theorem Nx.ok {w' : World} {K : World → Prop} (h : Nx w' K) : K w' := h w' rfl

def PtrSome (p : Option Addr) (K : Nat → Nat → Prop) : Prop := match p with
  | some a => (match a.spot with
    | none => K a.block a.off
    | some _ => False)
  | none => False
theorem PtrSome.ex {p : Option Addr} {K : Nat → Nat → Prop} (h : PtrSome p K) : ∃ b o, p = some ⟨b, o, none⟩ ∧ K b o := by
  unfold PtrSome at h
  split at h
  · rename_i a
    obtain ⟨b, o, s⟩ := a
    cases s with
    | none => exact ⟨b, o, rfl, h⟩
    | some _ => exact h.elim
  · exact h.elim
def RawFn (v : Value) (K : FuncId → Array Value → Array Value → Prop) : Prop := match v with
  | .func (.func f) a c => K f a c
  | _ => False
theorem RawFn.ex {v : Value} {K : FuncId → Array Value → Array Value → Prop} (h : RawFn v K) : ∃ f a c, v = .func (.func f) a c ∧ K f a c := by
  unfold RawFn at h
  split at h
  · exact ⟨_, _, _, rfl, h⟩
  · exact h.elim
def RawIf (v : Value) (K : TypeId → Value → Prop) : Prop := match v with
  | .iface t x => K t x
  | _ => False
theorem RawIf.ex {v : Value} {K : TypeId → Value → Prop} (h : RawIf v K) : ∃ t x, v = .iface t x ∧ K t x := by
  unfold RawIf at h
  split at h
  · exact ⟨_, _, rfl, h⟩
  · exact h.elim
def isIfaceV : Value → Bool
  | .iface .. | .nilIface => true
  | _ => false
def isFuncV : Value → Bool
  | .func .. | .nilFunc => true
  | _ => false
def isNilI : Value → Bool
  | .nilIface => true
  | _ => false
def isNilF : Value → Bool
  | .nilFunc => true
  | _ => false

def addo (o n : Nat) : Nat := bif Nat.beq n 0 then o else o + n
theorem addo_eq (o n : Nat) : addo o n = o + n := by
  unfold addo
  cases n with
  | zero => rfl
  | succ n => rfl

/-! ## Shapes of values -/
inductive Leaf where
  | int (k : IntKind) | bool | str | ptr | slice | map | raw

def leaves (P : Program) : Nat → TypeId → List Leaf
  | 0, _ => []
  | n + 1, t => match P.underlying t with
    | some .bool => [.bool]
    | some (.int k) => [.int k]
    | some .string => [.str]
    | some (.pointer _) => [.ptr]
    | some (.slice _) => [.slice]
    | some (.map ..) => [.map]
    | some (.struct fs) => (fs.toList.map fun f => leaves P n f.type).flatten
    | some (.array k e) => (List.replicate k (leaves P n e)).flatten
    | some _ => [.raw]
    | none => []

def exL : Leaf → (Value → Prop) → Prop
  | .int k, K => ∃ n : Int, K (.int k n)
  | .bool, K => ∃ b : Bool, K (.bool b)
  | .str, K => ∃ s : ByteArray, K (.string s)
  | .ptr, K => ∃ p : Option Addr, K (.pointer p)
  | .slice, K => ∃ (p : Option Addr) (l c : Nat), K (.slice p l c)
  | .map, K => ∃ m : Option Nat, K (.map m)
  | .raw, K => ∃ v : Value, K v
theorem exL.ex {l : Leaf} {K : Value → Prop} (h : exL l K) : ∃ v, K v := by
  cases l <;> simp only [exL] at h
  · exact ⟨_, h.choose_spec⟩
  · exact ⟨_, h.choose_spec⟩
  · exact ⟨_, h.choose_spec⟩
  · exact ⟨_, h.choose_spec⟩
  · obtain ⟨p, l, c, h⟩ := h; exact ⟨_, h⟩
  · exact ⟨_, h.choose_spec⟩
  · exact h

def exCells (w : World) (b o : Nat) : Nat → List Leaf → (List Value → Prop) → Prop
  | _, [], K => K []
  | i, l :: ls, K => exL l fun v => w.cell? ⟨b, addo o i, none⟩ = some v ∧ exCells w b o (i + 1) ls fun vs => K (v :: vs)

theorem exCells.ex {w : World} {b o : Nat} : ∀ {ls : List Leaf} {i : Nat} {K : List Value → Prop}, exCells w b o i ls K →
    ∃ vs : List Value, vs.length = ls.length ∧ w.rangeAt b (o + i) vs ∧ K vs
  | [], _, _, h => ⟨[], rfl, fun j v hv => by simp at hv, h⟩
  | l :: ls, i, K, h => by
    obtain ⟨v, hc, hr⟩ := exL.ex h
    obtain ⟨vs, hl, hra, hk⟩ := exCells.ex hr
    refine ⟨v :: vs, by simp [hl], fun j u hu => ?_, hk⟩
    cases j with
    | zero => simp only [List.getElem?_cons_zero, Option.some.injEq] at hu; subst hu; rw [addo_eq] at hc; exact hc
    | succ j =>
      simp only [List.getElem?_cons_succ] at hu
      have := hra j u hu
      rw [show o + i + (j + 1) = o + (i + 1) + j from by omega]; exact this

/-- the cells' facts, as they are told again -/
def cellsFact (w : World) (b o : Nat) : Nat → List Value → Prop
  | _, [] => True
  | i, [v] => w.cell? ⟨b, addo o i, none⟩ = some v
  | i, v :: vs => w.cell? ⟨b, addo o i, none⟩ = some v ∧ cellsFact w b o (i + 1) vs
theorem cellsFact_iff {w : World} {b o : Nat} : ∀ {vs : List Value} {i : Nat}, cellsFact w b o i vs ↔ w.rangeAt b (o + i) vs
  | [], _ => ⟨fun _ j v hv => by simp at hv, fun _ => trivial⟩
  | [v], i => by
    simp only [cellsFact, addo_eq]
    constructor
    · intro h j u hu
      cases j with
      | zero => simp only [List.getElem?_cons_zero, Option.some.injEq] at hu; subst hu; exact h
      | succ j => simp at hu
    · intro h; exact h 0 v rfl
  | v :: u :: vs, i => by
    have ih := cellsFact_iff (w := w) (b := b) (o := o) (vs := u :: vs) (i := i + 1)
    simp only [cellsFact, addo_eq] at ih ⊢
    constructor
    · rintro ⟨h, hr⟩ j x hx
      cases j with
      | zero => simp only [List.getElem?_cons_zero, Option.some.injEq] at hx; subst hx; exact h
      | succ j =>
        simp only [List.getElem?_cons_succ] at hx
        have := ih.1 hr j x hx
        rw [show o + i + (j + 1) = o + (i + 1) + j from by omega]; exact this
    · intro h
      refine ⟨h 0 v rfl, ih.2 fun j x hx => ?_⟩
      have := h (j + 1) x (by simpa using hx)
      rw [show o + (i + 1) + j = o + i + (j + 1) from by omega]; exact this

inductive Pat where
  | leaf (l : Leaf) | agg (ls : List Leaf)
def isRowT (P : Program) (t : TypeId) : Bool := match P.underlying t with
  | some (.struct _) | some (.array ..) => true
  | _ => false
def patOf (P : Program) (t : TypeId) : Pat := match isRowT P t with
  | true => .agg (leaves P 20 t)
  | false => match leaves P 20 t with
    | [l] => .leaf l
    | _ => .leaf .raw
def exLs : List Leaf → (List Value → Prop) → Prop
  | [], K => K []
  | l :: ls, K => exL l fun v => exLs ls fun vs => K (v :: vs)
theorem exLs.ex : ∀ {ls : List Leaf} {K : List Value → Prop}, exLs ls K → ∃ vs, K vs
  | [], _, h => ⟨[], h⟩
  | _ :: _, _, h => let ⟨_, h1⟩ := exL.ex h; let ⟨_, h2⟩ := exLs.ex h1; ⟨_, h2⟩
def exPat : Pat → (Value → Prop) → Prop
  | .leaf l, K => exL l K
  | .agg ls, K => exLs ls fun vs => K (.agg vs.toArray)
theorem exPat.ex {p : Pat} {K : Value → Prop} (h : exPat p K) : ∃ v, K v := by
  cases p with
  | leaf l => exact exL.ex h
  | agg ls => obtain ⟨vs, h⟩ := exLs.ex h; exact ⟨_, h⟩
def exPats : List Pat → (List Value → Prop) → Prop
  | [], K => K []
  | p :: ps, K => exPat p fun v => exPats ps fun vs => K (v :: vs)
theorem exPats.ex : ∀ {ps : List Pat} {K : List Value → Prop}, exPats ps K → ∃ vs, K vs
  | [], _, h => ⟨[], h⟩
  | _ :: _, _, h => let ⟨_, h1⟩ := exPat.ex h; let ⟨_, h2⟩ := exPats.ex h1; ⟨_, h2⟩
/-- the call ended by returning a value of type t -/
def RetV (P : Program) (t : TypeId) (e : Ending) (K : Value → Prop) : Prop := match P.underlying t with
  | some (.tuple ts) => exPats (ts.toList.map (patOf P)) fun vs => e = .returned (.tuple vs.toArray) ∧ K (.tuple vs.toArray)
  | _ => exPat (patOf P t) fun v => e = .returned v ∧ K v
theorem RetV.ex {P : Program} {t : TypeId} {e : Ending} {K : Value → Prop} (h : RetV P t e K) : ∃ v, e = .returned v ∧ K v := by
  unfold RetV at h
  split at h
  · obtain ⟨vs, h1, h2⟩ := exPats.ex h; exact ⟨_, h1, h2⟩
  · obtain ⟨v, h1, h2⟩ := exPat.ex h; exact ⟨_, h1, h2⟩

def sizeIs (P : Program) (t : TypeId) (n : Nat) : Bool := match P.info? t with
  | some i => Nat.beq i.size n
  | none => false
theorem sizeIs.eq {P : Program} {t : TypeId} {n : Nat} (h : sizeIs P t n = true) : (P.info? t).map (·.size) = some n := by
  unfold sizeIs at h
  split at h
  · rename_i i hi; simp only [hi, Option.map_some]; exact congrArg some (Nat.eq_of_beq_eq_true h)
  · cases h
end Go.Proofs.YtollfjfcdofbaaaGreat
