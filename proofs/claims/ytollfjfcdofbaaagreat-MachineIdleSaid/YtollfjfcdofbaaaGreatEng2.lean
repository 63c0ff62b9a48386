/- The engine, part 2: quiet operations. -/
import Derived.Test.YtollfjfcdofbaaaGreatEng
namespace Go.Proofs.YtollfjfcdofbaaaGreat
open Go
set_option linter.unusedSimpArgs false
set_option linter.unusedVariables false

abbrev Fact := Option (World → Prop)
def Fact.holds (f : Fact) (w : World) : Prop := match f with
  | some F => F w
  | none => True

/-- an integer operation -/
def intQ (op : BinOp) (k : IntKind) (x : Int) (k' : IntKind) (y : Int) (K : Value → Prop) : Prop :=
  match op with
  | .shl => 0 ≤ y ∧ K (.int k (k.wrap (x * 2 ^ min y.toNat k.bits)))
  | .shr => 0 ≤ y ∧ K (.int k (x.fdiv (2 ^ min y.toNat k.bits)))
  | _ => match decide (k = k') with
    | false => False
    | true => match op with
      | .add => K (.int k (k.wrap (x + y)))
      | .sub => K (.int k (k.wrap (x - y)))
      | .mul => K (.int k (k.wrap (x * y)))
      | .quo => y ≠ 0 ∧ K (.int k (k.wrap (x.tdiv y)))
      | .rem => y ≠ 0 ∧ K (.int k (x.tmod y))
      | .and => K (.int k (k.wrap (BitVec.ofInt k.bits x &&& BitVec.ofInt k.bits y).toNat))
      | .or => K (.int k (k.wrap (BitVec.ofInt k.bits x ||| BitVec.ofInt k.bits y).toNat))
      | .xor => K (.int k (k.wrap (BitVec.ofInt k.bits x ^^^ BitVec.ofInt k.bits y).toNat))
      | .andNot => K (.int k (k.wrap (BitVec.ofInt k.bits x &&& ~~~BitVec.ofInt k.bits y).toNat))
      | .eql => K (.bool (x == y))
      | .neq => K (.bool (x != y))
      | .lss => K (.bool (decide (x < y)))
      | .leq => K (.bool (decide (x ≤ y)))
      | .gtr => K (.bool (decide (x > y)))
      | .geq => K (.bool (decide (x ≥ y)))
      | _ => False

theorem intQ.run {P : Program} {op : BinOp} {t : TypeId} {xo yo : Operand} {k k' : IntKind} {x y : Int} {K : Value → Prop} (h : intQ op k x k' y K) :
    ∃ v, K v ∧ ∀ w, (do eqGuard op t xo yo (.int k x) (.int k' y); binOp op t (.int k x) (.int k' y) : Sem Value).run P w = .ok v w := by
  have hg : ∀ w, (eqGuard op t xo yo (.int k x) (.int k' y)).run P w = .ok () w := by
    intro w; unfold eqGuard; split <;> rfl
  unfold intQ at h
  split at h
  · refine ⟨_, h.2, fun w => ?_⟩
    have h0 : ¬ y < 0 := by omega
    simp [Sem.run_bind, hg, binOp, Op.shift, h0]
  · refine ⟨_, h.2, fun w => ?_⟩
    have h0 : ¬ y < 0 := by omega
    simp [Sem.run_bind, hg, binOp, Op.shift, h0]
  · rename_i hne1 hne2
    split at h
    · exact h.elim
    · rename_i hk
      have hk : k = k' := by simpa using hk
      subst hk
      cases op <;> first
        | exact h.elim
        | exact absurd rfl hne1
        | exact absurd rfl hne2
        | (exact ⟨_, h.2, fun w => by simp [Sem.run_bind, hg, binOp, Op.intDiv, h.1]⟩)
        | (exact ⟨_, h, fun w => by simp [Sem.run_bind, hg, binOp, Op.intArith, Op.intBits, Op.intCmp]⟩)

/-- '==', '!=' between a value of pointer type and nil -/
def ptrNilQ (op : BinOp) (x y : Value) (K : Value → Prop) : Prop :=
  match y with
  | .pointer (some _) => False
  | .pointer none => (match x with
    | .pointer p => (match op with
      | .eql => K (.bool p.isNone)
      | .neq => K (.bool (!p.isNone))
      | _ => False)
    | _ => False)
  | _ => False
theorem ptrNilQ.run {P : Program} {op : BinOp} {t e : TypeId} (ht : P.underlying t = some (.pointer e)) {xo yo : Operand} {x y : Value} {K : Value → Prop} (h : ptrNilQ op x y K) :
    ∃ v, K v ∧ ∀ w, (do eqGuard op t xo yo x y; binOp op t x y : Sem Value).run P w = .ok v w := by
  unfold ptrNilQ at h
  split at h
  · exact h.elim
  · split at h
    · rename_i p
      have hp : P.underlying t = some (.pointer (P.pointee t)) := by simp [Program.pointee, ht]
      have he := fun w => run_eql_pointer_nil (P := P) w t p hp
      have hn := fun w => run_neq_pointer_nil (P := P) w t p hp
      split at h
      · exact ⟨_, h, fun w => by simp [Sem.run_bind, eqGuard, he]⟩
      · exact ⟨_, h, fun w => by simp [Sem.run_bind, eqGuard, hn]⟩
      · exact h.elim
    · exact h.elim
  · exact h.elim

/-- '==', '!=' between a value of an interface type and the literal nil -/
def ifaceNilQ (op : BinOp) (x : Value) (yo : Operand) (K : Value → Prop) : Prop :=
  match yo with
  | .const .nilIface => (match op with
    | .eql => isIfaceV x = true ∧ K (.bool (isNilI x))
    | .neq => isIfaceV x = true ∧ K (.bool (!isNilI x))
    | _ => False)
  | _ => False
theorem equalIn_iface_nil {P : Program} {t : TypeId} {ms : Array (String × TypeId)} (ht : P.underlying t = some (.interface ms)) (d : Nat) {x : Value} (hx : isIfaceV x = true) (w : World) :
    (Op.equalIn (d + 1) t x .nilIface).run P w = .ok (isNilI x) w := by
  cases x <;> simp [isIfaceV] at hx <;> simp [Op.equalIn, run_underlying ht, isNilI]
theorem equal_iface_nil {P : Program} {t : TypeId} {ms : Array (String × TypeId)} (ht : P.underlying t = some (.interface ms)) {x : Value} (hx : isIfaceV x = true) (w : World) :
    (Op.equal t x .nilIface).run P w = .ok (isNilI x) w := equalIn_iface_nil ht 9999 hx w
theorem binOp_eql_iface {t : TypeId} {x : Value} (hx : isIfaceV x = true) : binOp .eql t x .nilIface = (do pure (.bool (← Op.equal t x .nilIface)) : Sem Value) := by
  cases x <;> first | rfl | (simp [isIfaceV] at hx)
theorem binOp_neq_iface {t : TypeId} {x : Value} (hx : isIfaceV x = true) : binOp .neq t x .nilIface = (do pure (.bool (!(← Op.equal t x .nilIface))) : Sem Value) := by
  cases x <;> first | rfl | (simp [isIfaceV] at hx)
theorem eqGuard_iface {P : Program} {op : BinOp} {t : TypeId} {xo : Operand} {x : Value} (hx : isIfaceV x = true) (w : World) : (eqGuard op t xo (.const .nilIface) x .nilIface).run P w = .ok () w := by
  unfold eqGuard
  cases x <;> simp [isIfaceV] at hx <;> split <;> simp
theorem ifaceNilQ.run {P : Program} {op : BinOp} {t : TypeId} {ms : Array (String × TypeId)} (ht : P.underlying t = some (.interface ms)) {S : Sl} {xo yo : Operand} {x : Value} {K : Value → Prop} (h : ifaceNilQ op x yo K) :
    ∃ v, K v ∧ ∀ w, (do eqGuard op t xo yo x (oev S yo); binOp op t x (oev S yo) : Sem Value).run P w = .ok v w := by
  unfold ifaceNilQ at h
  split at h
  · split at h
    · refine ⟨_, h.2, fun w => ?_⟩
      simp only [oev, Sem.run_bind, eqGuard_iface h.1, Result.andThen_ok, binOp_eql_iface h.1, equal_iface_nil ht h.1, Sem.run_pure]
    · refine ⟨_, h.2, fun w => ?_⟩
      simp only [oev, Sem.run_bind, eqGuard_iface h.1, Result.andThen_ok, binOp_neq_iface h.1, equal_iface_nil ht h.1, Sem.run_pure]
    · exact h.elim
  · exact h.elim

/-- '==', '!=' between a function value and nil -/
def funcNilQ (op : BinOp) (x : Value) (yo : Operand) (K : Value → Prop) : Prop :=
  match yo with
  | .const .nilFunc => (match op with
    | .eql => isFuncV x = true ∧ K (.bool (isNilF x))
    | .neq => isFuncV x = true ∧ K (.bool (!isNilF x))
    | _ => False)
  | _ => False
theorem equalIn_func_nil {P : Program} {t : TypeId} {ps rs : Array TypeId} {b : Bool} (ht : P.underlying t = some (.func ps rs b)) (d : Nat) {x : Value} (hx : isFuncV x = true) (w : World) :
    (Op.equalIn (d + 1) t x .nilFunc).run P w = .ok (isNilF x) w := by
  cases x <;> simp [isFuncV] at hx <;> simp [Op.equalIn, run_underlying ht, isNilF]
theorem equal_func_nil {P : Program} {t : TypeId} {ps rs : Array TypeId} {b : Bool} (ht : P.underlying t = some (.func ps rs b)) {x : Value} (hx : isFuncV x = true) (w : World) :
    (Op.equal t x .nilFunc).run P w = .ok (isNilF x) w := equalIn_func_nil ht 9999 hx w
theorem binOp_eql_func {t : TypeId} {x : Value} (hx : isFuncV x = true) : binOp .eql t x .nilFunc = (do pure (.bool (← Op.equal t x .nilFunc)) : Sem Value) := by
  cases x <;> first | rfl | (simp [isFuncV] at hx)
theorem binOp_neq_func {t : TypeId} {x : Value} (hx : isFuncV x = true) : binOp .neq t x .nilFunc = (do pure (.bool (!(← Op.equal t x .nilFunc))) : Sem Value) := by
  cases x <;> first | rfl | (simp [isFuncV] at hx)
theorem eqGuard_func {P : Program} {op : BinOp} {t : TypeId} {xo : Operand} {x : Value} (hx : isFuncV x = true) (w : World) : (eqGuard op t xo (.const .nilFunc) x .nilFunc).run P w = .ok () w := by
  unfold eqGuard
  cases x <;> simp [isFuncV] at hx <;> split <;> simp
theorem funcNilQ.run {P : Program} {op : BinOp} {t : TypeId} {ps rs : Array TypeId} {b : Bool} (ht : P.underlying t = some (.func ps rs b)) {S : Sl} {xo yo : Operand} {x : Value} {K : Value → Prop} (h : funcNilQ op x yo K) :
    ∃ v, K v ∧ ∀ w, (do eqGuard op t xo yo x (oev S yo); binOp op t x (oev S yo) : Sem Value).run P w = .ok v w := by
  unfold funcNilQ at h
  split at h
  · split at h
    · refine ⟨_, h.2, fun w => ?_⟩
      simp only [oev, Sem.run_bind, eqGuard_func h.1, Result.andThen_ok, binOp_eql_func h.1, equal_func_nil ht h.1, Sem.run_pure]
    · refine ⟨_, h.2, fun w => ?_⟩
      simp only [oev, Sem.run_bind, eqGuard_func h.1, Result.andThen_ok, binOp_neq_func h.1, equal_func_nil ht h.1, Sem.run_pure]
    · exact h.elim
  · exact h.elim

/-- what the engine does not know: the run of a binary operation, told by a fact -/
def BinOpaque (P : Program) (op : BinOp) (t : TypeId) (xo yo : Operand) (x y : Value) (K : Bool → Prop) : Prop :=
  ∃ b, (∀ w, (do eqGuard op t xo yo x y; binOp op t x y : Sem Value).run P w = .ok (.bool b) w) ∧ K b

def binQ (P : Program) (S : Sl) (op : BinOp) (t : TypeId) (xo yo : Operand) (K : Value → Prop) : Prop :=
  match P.underlying t with
  | some (.int _) => (match oev S xo, oev S yo with
    | .int k x, .int k' y => intQ op k x k' y K
    | _, _ => False)
  | some (.pointer _) => ptrNilQ op (oev S xo) (oev S yo) K
  | some (.interface _) => ifaceNilQ op (oev S xo) yo K
  | some (.func ..) => funcNilQ op (oev S xo) yo K
  | some _ => BinOpaque P op t xo yo (oev S xo) (oev S yo) fun b => K (.bool b)
  | none => False
theorem binQ.run {P : Program} {S : Sl} {op : BinOp} {t : TypeId} {xo yo : Operand} {K : Value → Prop} (h : binQ P S op t xo yo K) :
    ∃ v, K v ∧ ∀ w, (do eqGuard op t xo yo (oev S xo) (oev S yo); binOp op t (oev S xo) (oev S yo) : Sem Value).run P w = .ok v w := by
  unfold binQ at h
  split at h
  · split at h
    · rename_i hx hy; rw [hx, hy]; exact intQ.run h
    · exact h.elim
  · rename_i e ht; exact ptrNilQ.run ht h
  · rename_i ms ht; exact ifaceNilQ.run ht h
  · rename_i ps rs b ht; exact funcNilQ.run ht h
  · obtain ⟨b, hr, hk⟩ := h; exact ⟨_, hk, hr⟩
  · exact h.elim

def unQ (op : UnOp) (x : Value) (K : Value → Prop) : Prop := match op, x with
  | .neg, .int k n => K (.int k (k.wrap (0 - n)))
  | .not, .bool b => K (.bool (!b))
  | .xor, .int k n => K (.int k (k.wrap (BitVec.ofInt k.bits (if k.signed then -1 else k.max) ^^^ BitVec.ofInt k.bits n).toNat))
  | _, _ => False
theorem unQ.run {P : Program} {op : UnOp} {x : Value} {K : Value → Prop} (h : unQ op x K) : ∃ v, K v ∧ ∀ w, (Op.unary op x).run P w = .ok v w := by
  unfold unQ at h
  split at h
  · exact ⟨_, h, fun w => by simp [Op.unary, Op.intArith]⟩
  · exact ⟨_, h, fun w => by simp [Op.unary]⟩
  · exact ⟨_, h, fun w => by simp [Op.unary, Op.intBits]⟩
  · exact h.elim

def fieldOff (P : Program) (s : TypeId) (f : Nat) : Option Nat := match P.underlying s with
  | some (.struct fs) => (match fs[f]? with
    | some fd => (match P.info? fd.type with
      | some i => (match Nat.beq i.size 0 with
        | true => none
        | false => some fd.offset)
      | none => none)
    | none => none)
  | _ => none
theorem fieldOff.run {P : Program} {s : TypeId} {f : Nat} {n : Nat} (h : fieldOff P s f = some n) (b o : Nat) (w : World) :
    (Instr.fieldAt s (.pointer (some ⟨b, o, none⟩)) f).run P w = .ok (.pointer (some ⟨b, addo o n, none⟩)) w := by
  unfold fieldOff at h
  split at h
  · rename_i fs hs
    split at h
    · rename_i fd hf
      split at h
      · rename_i i hi
        split at h
        · cases h
        · rename_i hz
          have hz' : i.size ≠ 0 := fun e => by simp [e] at hz
          cases h
          rw [addo_eq, ← Addr.add_mid]
          simp [Instr.fieldAt, run_underlying hs, hf, Instr.sureAddr, fieldPlace, sizeOf, typeInfo, hi, hz']
      · cases h
    · cases h
  · cases h

/-- a part of a struct's or array's value -/
def partV (P : Program) (t : TypeId) (cs : Array Value) (off : Nat) : Option Value := match isRowT P t with
  | true => (match P.info? t with
    | some i => some (.agg ((cs.toList.drop off).take i.size).toArray)
    | none => none)
  | false => (match P.underlying t with
    | some _ => cs[off]?
    | none => none)
theorem isRowT.run {P : Program} {t : TypeId} {b : Bool} (h : isRowT P t = b) (hu : ∃ d, P.underlying t = some d) (w : World) : (isAgg t).run P w = .ok b w := by
  obtain ⟨d, hd⟩ := hu
  subst h
  unfold isAgg isRowT
  rw [Sem.run_bind, run_underlying hd w, hd]
  cases d <;> simp
theorem isRowT.some {P : Program} {t : TypeId} (h : isRowT P t = true) : ∃ d, P.underlying t = some d ∧ d.isRow = true := by
  unfold isRowT at h
  split at h
  · rename_i hu; exact ⟨_, hu, rfl⟩
  · rename_i hu; exact ⟨_, hu, rfl⟩
  · cases h
theorem partV.run {P : Program} {t : TypeId} {cs : Array Value} {off : Nat} {v : Value} (h : partV P t cs off = some v) (w : World) : (part t cs off).run P w = .ok v w := by
  unfold partV at h
  split at h
  · rename_i hr
    obtain ⟨d, hd, _⟩ := isRowT.some hr
    split at h
    · rename_i i hi
      cases h
      have he : cs.extract off (off + i.size) = ((cs.toList.drop off).take i.size).toArray := by
        apply Array.ext'
        rw [Array.toList_extract]
        simp [List.extract]
      simp [part, isRowT.run hr ⟨d, hd⟩, sizeOf, typeInfo, hi, he]
    · cases h
  · rename_i hr
    split at h
    · rename_i d hd
      simp [part, isRowT.run hr ⟨d, hd⟩, h]
    · cases h
end Go.Proofs.YtollfjfcdofbaaaGreat
