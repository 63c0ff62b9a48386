/- The engine, part 4: quiet operations in one; operations with effects. -/
import Derived.Test.YtollfjfcdofbaaaGreatEng3
namespace Go.Proofs.YtollfjfcdofbaaaGreat
open Go
set_option linter.unusedSimpArgs false
set_option linter.unusedVariables false

def isQuiet : Op → Bool
  | .move _ | .assign _ | .pick .. | .nilCheck _ | .load .. | .binOp .. | .unOp .. | .convert .. | .makeInterface .. | .makeFunc .. | .fieldAddr .. | .field .. | .indexAddr .. | .index .. | .extract .. | .slice .. | .build .. => true
  | .call { callee := .builtin .len, .. } | .call { callee := .builtin .min, .. } | .call { callee := .builtin .max, .. } => true
  | _ => false

def lenQ (P : Program) (t : TypeId) (x : Value) (K : Value → Prop) : Prop := match P.underlying t with
  | some .string => (match x with
    | .string s => K (.int .i64 (s.size : Int))
    | _ => False)
  | some (.array n _) => K (.int .i64 (n : Int))
  | some (.slice _) => (match x with
    | .slice _ n _ => K (.int .i64 (n : Int))
    | _ => False)
  | _ => False
theorem lenQ.run {P : Program} {t ty : TypeId} {x : Value} {K : Value → Prop} (h : lenQ P t x K) : ∃ v, K v ∧ ∀ w, (Builtin.len_ #[t] ty #[x]).run P w = .ok v w := by
  unfold lenQ at h
  split at h
  · rename_i ht
    split at h
    · exact ⟨_, h, fun w => by simp [Builtin.len_, run_underlying ht, goInt]⟩
    · exact h.elim
  · rename_i ht
    exact ⟨_, h, fun w => by simp [Builtin.len_, run_underlying ht, goInt]⟩
  · rename_i ht
    split at h
    · exact ⟨_, h, fun w => by simp [Builtin.len_, run_underlying ht, goInt]⟩
    · exact h.elim
  · exact h.elim
def minI (x y : Int) : Int := if y < x then y else x
def maxI (x y : Int) : Int := if y > x then y else x
def minmaxQ (f : Int → Int → Int) (xs : List Value) (K : Value → Prop) : Prop := match xs with
  | [.int k x, .int _ y] => K (.int k (f x y))
  | _ => False

def qOp (P : Program) (S : Sl) (o : Oper) (K : Sl → Value → Fact → Prop) (w : World) : Prop := match o.op with
  | .move x => K S (oev S x) none
  | .assign x => K S (oev S x) none
  | .pick c a b => (match oev S c with
    | .bool t => Br t (K S (oev S a) none) (K S (oev S b) none)
    | _ => False)
  | .nilCheck x => nilQ P S o.type x K w
  | .load t x => (match oev S x with
    | .pointer p => PtrSome p fun b o' => loadQ P t b o' (K S) w
    | _ => False)
  | .binOp op t x y _ => binQ P S op t x y fun v => K S v none
  | .unOp op _ x => unQ op (oev S x) fun v => K S v none
  | .convert src dst x => (match P.underlying src, P.underlying dst, oev S x with
    | some _, some (.int k), .int _ n => K S (.int k (k.wrap n)) none
    | _, _, _ => False)
  | .makeInterface t x => (match P.underlying t with
    | some (.interface _) => False
    | some _ => K S (.iface t (oev S x)) none
    | none => False)
  | .makeFunc fn first cap => K S (.func fn (first.toList.map (oev S)).toArray (cap.toList.map (oev S)).toArray) none
  | .fieldAddr s x f => (match fieldOff P s f, oev S x with
    | some n, .pointer p => PtrSome p fun b o' => K S (.pointer (some ⟨b, addo o' n, none⟩)) none
    | _, _ => False)
  | .field t x f => (match P.underlying t, oev S x with
    | some (.struct fs), .agg cs => (match fs[f]? with
      | some fd => (match partV P fd.type cs fd.offset with
        | some v => K S v none
        | none => False)
      | none => False)
    | _, _ => False)
  | .indexAddr t x ix => idxQ P t (oev S x) (oev S ix) fun v => K S v none
  | .index t x ix => indexQ P t (oev S x) (oev S ix) fun v => K S v none
  | .extract x i => (match oev S x with
    | .tuple vs => (match vs[i]? with
      | some v => K S v none
      | none => False)
    | _ => False)
  | .slice t x lo hi mx => sliceQ P t (oev S x) (lo.map (oev S)) (hi.map (oev S)) (mx.map (oev S)) fun v => K S v none
  | .build t parts => buildQ P t (parts.toList.map fun p => (p.1, oev S p.2)) fun v => K S v none
  | .call c => (match c.callee with
    | .builtin .len => (match c.argTypes.toList, c.args.toList with
      | [t], [x] => lenQ P t (oev S x) fun v => K S v none
      | _, _ => False)
    | .builtin .min => minmaxQ minI (c.args.toList.map (oev S)) fun v => K S v none
    | .builtin .max => minmaxQ maxI (c.args.toList.map (oev S)) fun v => K S v none
    | _ => False)
  | _ => False

theorem qOp.run {P : Program} {S : Sl} {o : Oper} {K : Sl → Value → Fact → Prop} {w : World} (h : qOp P S o K w) :
    ∃ v F, K S v F ∧ F.holds w ∧ ∀ w', F.holds w' → (execOp (oev S) o).run P w' = .ok (.value v) w' := by
  unfold qOp at h
  split at h
  case h_1 x ho => exact ⟨_, none, h, trivial, fun w' _ => by simp [execOp, ho]⟩
  case h_2 x ho => exact ⟨_, none, h, trivial, fun w' _ => by simp [execOp, ho]⟩
  case h_3 c a b ho =>
    split at h
    · rename_i t ht
      cases t with
      | true => exact ⟨_, none, h, trivial, fun w' _ => by simp [execOp, ho, ht, asBool]⟩
      | false => exact ⟨_, none, h, trivial, fun w' _ => by simp [execOp, ho, ht, asBool]⟩
    · exact h.elim
  case h_4 x ho => exact nilQ.run ho h
  case h_5 t x ho =>
    split at h
    · rename_i p hp
      obtain ⟨b, o', rfl, hk⟩ := PtrSome.ex h
      obtain ⟨v, F, h1, h2, h3⟩ := loadQ.run hk
      exact ⟨v, F, h1, h2, fun w' hw' => by simp [execOp, ho, hp, h3 w' hw']⟩
    · exact h.elim
  case h_6 op t x y yt ho =>
    obtain ⟨v, h1, h2⟩ := binQ.run h
    exact ⟨v, none, h1, trivial, fun w' _ => by simp only [execOp, ho]; rw [Sem.run_bind, h2 w']; rfl⟩
  case h_7 op t x ho =>
    obtain ⟨v, h1, h2⟩ := unQ.run (P := P) h
    exact ⟨v, none, h1, trivial, fun w' _ => by simp [execOp, ho, h2 w']⟩
  case h_8 src dst x ho =>
    split at h
    · rename_i d k k' n hs hd hx
      exact ⟨_, none, h, trivial, fun w' _ => by simp [execOp, ho, hx, convert, run_underlying hs, run_underlying hd, Conv.intToInt]⟩
    · exact h.elim
  case h_9 t x ho =>
    split at h
    · exact h.elim
    · rename_i d hne hd
      refine ⟨_, none, h, trivial, fun w' _ => ?_⟩
      simp only [execOp, ho, Instr.makeInterface, Sem.run_bind, run_underlying hd, Result.andThen_ok]
      simp
    · exact h.elim
  case h_10 fn first cap ho => exact ⟨_, none, h, trivial, fun w' _ => by
    have ea : ∀ xs : Array Operand, (xs.toList.map (oev S)).toArray = xs.map (oev S) := fun xs => by apply Array.ext'; simp
    simp [execOp, ho, Instr.makeFunc, ea]⟩
  case h_11 s x f ho =>
    split at h
    · rename_i n p hf hp
      obtain ⟨b, o', rfl, hk⟩ := PtrSome.ex h
      exact ⟨_, none, hk, trivial, fun w' _ => by simp [execOp, ho, hp, fieldOff.run hf b o' w']⟩
    · exact h.elim
  case h_12 t x f ho =>
    split at h
    · rename_i fs cs hs hx
      split at h
      · rename_i fd hf
        split at h
        · rename_i v hv
          exact ⟨_, none, h, trivial, fun w' _ => by simp [execOp, ho, hx, Instr.field, run_underlying hs, hf, asAgg, partV.run hv]⟩
        · exact h.elim
      · exact h.elim
    · exact h.elim
  case h_13 t x ix ho =>
    obtain ⟨v, h1, h2⟩ := idxQ.run h
    exact ⟨v, none, h1, trivial, fun w' _ => by simp [execOp, ho, h2 w']⟩
  case h_14 t x ix ho =>
    obtain ⟨v, h1, h2⟩ := indexQ.run h
    exact ⟨v, none, h1, trivial, fun w' _ => by simp [execOp, ho, h2 w']⟩
  case h_15 x i ho =>
    split at h
    · rename_i vs hx
      split at h
      · rename_i v hv
        exact ⟨_, none, h, trivial, fun w' _ => by simp [execOp, ho, hx, Instr.extract, hv]⟩
      · exact h.elim
    · exact h.elim
  case h_16 t x lo hi mx ho =>
    obtain ⟨v, h1, h2⟩ := sliceQ.run h
    exact ⟨v, none, h1, trivial, fun w' _ => by simp [execOp, ho, h2 w']⟩
  case h_17 t parts ho =>
    obtain ⟨v, h1, h2⟩ := buildQ.run (parts := parts.map fun (i, x) => (i, oev S x)) (by simpa using h)
    exact ⟨v, none, h1, trivial, fun w' _ => by simp only [execOp, ho]; rw [Sem.run_bind, h2 w']; rfl⟩
  case h_18 c ho =>
    obtain ⟨callee, args, ats⟩ := c
    split at h
    · rename_i hc
      simp only at hc
      subst hc
      split at h
      · rename_i t x ht hx
        simp only at ht hx
        obtain ⟨v, h1, h2⟩ := lenQ.run (ty := o.type) h
        have hat : ats = #[t] := by cases ats; simp at ht; simp [ht]
        have har : args = #[x] := by cases args; simp at hx; simp [hx]
        subst hat har
        exact ⟨v, none, h1, trivial, fun w' _ => by simp [execOp, ho, resolve, invoke, builtin, h2 w']⟩
      · exact h.elim
    · rename_i hc
      simp only at hc
      subst hc
      unfold minmaxQ at h
      split at h
      · rename_i k x k' y hx
        simp only at hx
        have har : args.map (oev S) = #[.int k x, .int k' y] := by
          apply Array.toList_inj.1
          simpa using hx
        exact ⟨_, none, h, trivial, fun w' _ => by simp [execOp, ho, resolve, invoke, builtin, har, Builtin.min_, Builtin.min2, minI]⟩
      · exact h.elim
    · rename_i hc
      simp only at hc
      subst hc
      unfold minmaxQ at h
      split at h
      · rename_i k x k' y hx
        simp only at hx
        have har : args.map (oev S) = #[.int k x, .int k' y] := by
          apply Array.toList_inj.1
          simpa using hx
        exact ⟨_, none, h, trivial, fun w' _ => by simp [execOp, ho, resolve, invoke, builtin, har, Builtin.max_, Builtin.max2, maxI]⟩
      · exact h.elim
    · exact h.elim
  case h_19 => exact h.elim

/-! ## Effects -/
/-- the cells from o on in block b may be stored into -/
def CanSet (w : World) (b o : Nat) : Prop := (∃ u, w.cell? ⟨b, o, none⟩ = some u) ∧ w.frozen? ⟨b, o, none⟩ = false
def oneCells : List Value → Prop
  | [] => True
  | v :: vs => v.oneCell' = true ∧ oneCells vs
theorem oneCells.all {vs : List Value} (h : oneCells vs) : ∀ v ∈ vs, v.oneCell' = true := by
  induction vs with
  | nil => intro v hv; cases hv
  | cons u us ih =>
    intro v hv
    rcases List.mem_cons.1 hv with rfl | hv
    · exact h.1
    · exact ih h.2 v hv
/-- which cells of a type hold what may be whatever (interface and function values) -/
def rawOne (P : Program) (t : TypeId) (vs : List Value) (A : Prop) : Prop := match (leaves P 20 t).any fun | .raw => true | _ => false with
  | true => oneCells vs ∧ A
  | false => (match vs.all (·.oneCell') with
    | true => A
    | false => False)
theorem rawOne.ok {P : Program} {t : TypeId} {vs : List Value} {A : Prop} (h : rawOne P t vs A) : (∀ v ∈ vs, v.oneCell' = true) ∧ A := by
  unfold rawOne at h
  split at h
  · exact ⟨h.1.all, h.2⟩
  · split at h
    · rename_i ha; exact ⟨fun v hv => by simpa using List.all_eq_true.1 ha v hv, h⟩
    · exact h.elim
def storeQ (P : Program) (t : TypeId) (b o : Nat) (v : Value) (K : World → Prop) (w : World) : Prop := match isRowT P t with
  | true => (match v with
    | .agg cs => (match sizeIs P t cs.size with
      | true => rawOne P t cs.toList (w.there b o cs.size ∧ Nx (w.setCells b o cs.toList) K)
      | false => False)
    | _ => False)
  | false => (match sizeIs P t 1 with
    | true => rawOne P t [v] (CanSet w b o ∧ Nx (w.setCell ⟨b, o, none⟩ v) K)
    | false => False)
theorem storeQ.run {P : Program} {t : TypeId} {b o : Nat} {v : Value} {K : World → Prop} {w : World} (h : storeQ P t b o v K w) :
    ∃ w', K w' ∧ (Instr.storeAt t (.pointer (some ⟨b, o, none⟩)) v).run P w = .ok () w' := by
  unfold storeQ at h
  split at h
  · split at h
    · rename_i cs
      split at h
      · rename_i hs
        obtain ⟨h1, h2, h3⟩ := rawOne.ok h
        exact ⟨_, h3.ok, run_storeAt_mid w b o t cs h2 (sizeIs.eq hs) (Array.all_eq_true_iff_forall_mem.2 fun v hv => h1 v (by simpa using hv))⟩
      · exact h.elim
    · exact h.elim
  · split at h
    · rename_i hs
      obtain ⟨h1, ⟨⟨u, hu⟩, hf⟩, h3⟩ := rawOne.ok h
      refine ⟨_, h3.ok, ?_⟩
      have hv := h1 v (by simp)
      have hsz := sizeIs.eq hs
      have hvc : v.cells = #[v] := by cases v <;> simp_all [Value.cells, Value.oneCell']
      cases hq : P.info? t with
      | none => simp [hq] at hsz
      | some i =>
        have hi : i.size = 1 := by simpa [hq] using hsz
        simp [Instr.storeAt, Instr.sureAddr, storeVar, sizeOf, typeInfo, hq, hvc, hi, storeCells, Addr.add, run_store P w ⟨b, o, none⟩ v .plain hv, hu, hf]
    · exact h.elim

/-- the row of a make -/
def zeroCellsOf (P : Program) (t : TypeId) : Option (Array Value) := match P.info? t with
  | some i => (match i.zero with
    | some z => some z.cells
    | none => none)
  | none => none
def makeQ (P : Program) (t : TypeId) (len cap : Value) (K : Value → World → Prop) (w : World) : Prop := match P.underlying t with
  | some (.slice e) => (match P.info? e, len, cap with
    | some i, .int _ l, .int _ c => (match i.zero with
      | some z => (0 ≤ l ∧ l ≤ c ∧ (i.bytes : Int) * c ≤ 281474976710656 ∧ c ≤ 9223372036854775807) ∧
          Nx (w.alloc (.cells (madeCells z.cells (mulo c.toNat i.size)) e)) (K (.slice (some ⟨w.heap.size, 0, none⟩) l.toNat c.toNat))
      | none => False)
    | _, _, _ => False)
  | _ => False
theorem makeQ.run {P : Program} {t : TypeId} {len cap : Value} {K : Value → World → Prop} {w : World} (h : makeQ P t len cap K w) :
    ∃ v w', K v w' ∧ (Instr.makeSlice t len cap).run P w = .ok v w' := by
  unfold makeQ at h
  split at h
  · rename_i e he
    split at h
    · rename_i i kl l kc c hi
      split at h
      · rename_i z hz
        obtain ⟨⟨h1, h2, h3, h4⟩, hk⟩ := h
        rw [mulo_eq] at hk
        exact ⟨_, _, hk.ok, run_make w t e i z he hi hz kl kc l c h1 h2 h3 h4⟩
      · exact h.elim
    · exact h.elim
  · exact h.elim

/-- 'madeCells', by lists -/
def madeL (z : List Value) (n : Nat) : Array Value := ((List.range n).map fun i => z.getD (i % z.length) undef).toArray
theorem madeL_eq (z : Array Value) (n : Nat) (hz : 0 < z.size ∨ n = 0) : madeL z.toList n = madeCells z n := by
  apply Array.ext'
  simp only [madeL, madeCells, Array.toList_map, Array.toList_range]
  refine List.map_congr_left fun i hi => ?_
  have hz' : 0 < z.size := by
    rcases hz with h | h
    · exact h
    · subst h; simp at hi
  have hlt : i % z.size < z.size := Nat.mod_lt _ hz'
  simp [List.getD_eq_getElem?_getD, hlt]

def CallOk (P : Program) (f : FuncId) : Bool := match P.funcs[f]? with
  | some fn => !(fn.name == "runtime.NumGoroutine") && fn.body.isSome
  | none => false
theorem CallOk.run {P : Program} {f : FuncId} (h : CallOk P f = true) (args : Array Value) (w : World) : (callFunc f args).run P w = .ok (.enter f args) w := by
  unfold CallOk at h
  split at h
  · rename_i fn hf
    simp only [Bool.and_eq_true, Bool.not_eq_true'] at h
    have h1 : ¬ fn.name = "runtime.NumGoroutine" := by simpa using h.1
    have h2 : ¬ fn.body = none := by intro e; simp [e] at h
    simp [callFunc, hf, h1, h2]
  · cases h
/-- a call of a function that has no body: its run, told by a fact -/
def ExtCall (P : Program) (f : FuncId) (args : Array Value) (w : World) (R : Ending → World → Prop) : Prop := ∃ v w', (callFunc f args).run P w = .ok (.value v) w' ∧ R (.returned v) w'
/-- a call through an interface value -/
def Invoke (P : Program) (v : Value) (name : String) (args : Array Value) (w : World) (R : Ending → World → Prop) : Prop :=
  ∃ t x f r, v = .iface t x ∧ (method (P.types.size + Made.depth) t x name).run P w = .ok (f, r) w ∧ CallOk P f = true ∧ Calls P f (#[r] ++ args) w R
/-- an append: its run, told by a fact -/
def AppQ (P : Program) (ats : Array TypeId) (ty : TypeId) (args : Array Value) (w : World) (K : Option Addr → Nat → Nat → World → Prop) : Prop := ∃ p l c w', (Builtin.append_ ats ty args).run P w = .ok (.slice p l c) w' ∧ K p l c w'

def hasBody (P : Program) (f : FuncId) : Bool := match P.funcs[f]? with
  | some fn => fn.body.isSome
  | none => false
def callQ (P : Program) (f : FuncId) (args : List Value) (R : Ending → World → Prop) (w : World) : Prop := match hasBody P f with
  | true => (match CallOk P f with
    | true => Calls P f args.toArray w R
    | false => False)
  | false => ExtCall P f args.toArray w R
def CallV (P : Program) (v : Value) (args : List Value) (R : Ending → World → Prop) (w : World) : Prop := match v with
  | .func fn first cap => (match fn with
    | .func g => callQ P g (first.toList ++ args ++ cap.toList) R w
    | .method name => (match first.toList with
      | [r] => Invoke P r name args.toArray w R
      | _ => False)
    | _ => False)
  | _ => False

def eOp (P : Program) (S : Sl) (o : Oper) (K : Value → World → Prop) (w : World) : Prop := match o.op with
  | .alloc e => (match zeroCellsOf P e with
    | some z => Nx (w.alloc (.cells z e)) (K (.pointer (some ⟨w.heap.size, 0, none⟩)))
    | none => False)
  | .box e x => (match isRowT P e with
    | true => (match oev S x with
      | .agg cs => Nx (w.alloc (.cells cs e)) (K (.pointer (some ⟨w.heap.size, 0, none⟩)))
      | _ => False)
    | false => rawOb P e (oev S x) (Nx (w.alloc (.cells #[oev S x] e)) (K (.pointer (some ⟨w.heap.size, 0, none⟩)))))
  | .buildSlice t n parts => (match P.underlying t with
    | some (.slice e) => (match sizeN P e, zeroCellsOf P e with
      | some s, some z => (match Nat.ble (n * s) 16777216 && Nat.blt 0 (n * s) && Nat.blt 0 z.size with
        | true => fillQ P (fun i => some (i * s, e)) (madeL z.toList (n * s)) (parts.toList.map fun p => (p.1, oev S p.2)) fun cs =>
            Nx (w.alloc (.cells cs e)) (K (.slice (some ⟨w.heap.size, 0, none⟩) n n))
        | false => (match Nat.beq (n * s) 0, parts.toList with
          | true, [] => Nx (w.alloc (.cells #[] e)) (K (.slice (some ⟨w.heap.size, 0, none⟩) n n))
          | _, _ => False))
      | _, _ => False)
    | _ => False)
  | .store t a x => (match oev S a with
    | .pointer p => PtrSome p fun b o' => storeQ P t b o' (oev S x) (K undef) w
    | _ => False)
  | .makeSlice t l c => makeQ P t (oev S l) (oev S c) K w
  | .call c => (match c.callee with
    | .value f => CallV P (oev S f) (c.args.toList.map (oev S)) (fun e w' => RetV P o.type e fun v => K v w') w
    | .invoke r name => Invoke P (oev S r) name (c.args.toList.map (oev S)).toArray w fun e w' => RetV P o.type e fun v => K v w'
    | .builtin .append => AppQ P c.argTypes o.type (c.args.toList.map (oev S)).toArray w fun p l c w' => K (.slice p l c) w'
    | _ => False)
  | _ => False

theorem eOp.calls {P : Program} {f : FuncId} {args : Array Value} {w : World} {ty : TypeId} {K : Value → World → Prop} {next : Act → World → Prop} {Q : Exit → Act → World → Prop} {o : Oper} {a : Act}
    (h : Calls P f args w fun e w' => RetV P ty e fun v => K v w') (hn : ∀ v w', K v w' → next (a.put o.dst v) w') :
    Calls P f args w fun
      | .returned v, w'' => next (a.put o.dst v) w''
      | .panicked chain, w'' => Q (.panic chain) a w''
      | .outgrown, _ => LetsOut Q := by
  refine h.mono fun e w' he => ?_
  obtain ⟨v, rfl, hk⟩ := RetV.ex he
  exact hn _ _ hk

theorem eOp.run {P : Program} {S : Sl} {o : Oper} {K : Value → World → Prop} {w : World} (h : eOp P S o K w) {a : Act} (ha : a.eval = oev S) {next : Act → World → Prop}
    (hn : ∀ v w', K v w' → next (a.put o.dst v) w') (Q : Exit → Act → World → Prop) : o.wp P a w next Q := by
  unfold eOp at h
  unfold Oper.wp
  rw [ha]
  split at h
  case h_1 e ho =>
    unfold zeroCellsOf at h
    split at h
    · rename_i z hz
      split at hz
      · rename_i i hi
        split at hz
        · rename_i zv hzv
          cases hz
          simp only [execOp, ho, Instr.alloc, zeroValue, typeInfo, Sem.run_bind, run_program, Result.andThen_ok, hi, hzv, Sem.run_pure, newVar, newRow, run_newObj, Oper.upon]
          exact hn _ _ h.ok
        · cases hz
      · cases hz
    · exact h.elim
  case h_2 e x ho =>
    split at h
    · split at h
      · rename_i cs hx
        simp only [execOp, ho, Instr.box, hx, newVar, newRow, Value.cells, Sem.run_bind, run_newObj, Result.andThen_ok, Sem.run_pure, Oper.upon]
        exact hn _ _ h.ok
      · exact h.elim
    · obtain ⟨h1, h2⟩ := rawOb.ok h
      simp only [execOp, ho, Instr.box, notAgg.cells h1, newVar, newRow, Sem.run_bind, run_newObj, Result.andThen_ok, Sem.run_pure, Oper.upon]
      exact hn _ _ h2.ok
  case h_3 t n parts ho =>
    split at h
    · rename_i e he
      split at h
      · rename_i s z hs hz
        have hsz := sizeN.run hs
        have hinfo : ∃ i zv, P.info? e = some i ∧ i.zero = some zv ∧ zv.cells = z ∧ i.size = s := by
          unfold zeroCellsOf at hz
          unfold sizeN at hs
          split at hz
          · rename_i i hi
            split at hz
            · rename_i zv hzv
              cases hz
              rw [hi] at hs
              cases hs
              exact ⟨i, zv, hi, hzv, rfl, rfl⟩
            · cases hz
          · cases hz
        obtain ⟨i, zv, hi, hzv, rfl, hsi⟩ := hinfo
        split at h
        · rename_i hc
          simp only [Bool.and_eq_true, Nat.ble_eq, Nat.blt_eq] at hc
          obtain ⟨out, h1, h2⟩ := fillQ.run (place' := fun i => some (i * s, s)) (fun i' off t' hpl s' hs' => by
            simp only [Option.some.injEq, Prod.mk.injEq] at hpl
            obtain ⟨rfl, rfl⟩ := hpl
            simp [hi, hsi] at hs'
            simp [hs']) _ _ _ h
          have hne : ¬ (n * s = 0) := by have := hc.1.2; omega
          have hle : ¬ (n * s > 2 ^ 24) := by have := hc.1.1; omega
          have hzs : 0 < zv.cells.size ∨ n * s = 0 := .inl hc.2
          rw [madeL_eq _ _ hzs] at h1
          have hfill : Instr.fill (fun i => some (i * s, s)) ((Array.range (n * s)).map (zv.cells[· % zv.cells.size]!)) ((parts.map fun (i, x) => (i, oev S x)).toList) = some out := by
            simpa [madeCells] using h1
          have hrun : (Instr.buildSlice t n (parts.map fun (i, x) => (i, oev S x))).run P w = .ok (.slice (some ⟨w.heap.size, 0, none⟩) n n) (w.alloc (.cells out e)) := by
            unfold Instr.buildSlice
            simp only [Sem.run_bind, run_underlying he, Result.andThen_ok, hsz, if_neg hle, if_neg hne, zeroValue, typeInfo, run_program, hi, hzv, Sem.run_pure, hfill, newRow, run_newObj]
            rfl
          simp only [execOp, ho, Sem.run_bind, hrun, Result.andThen_ok, Sem.run_pure, Oper.upon]
          exact hn _ _ h2.ok
        · split at h
          · rename_i hz0 hp
            have hz0 : n * s = 0 := Nat.eq_of_beq_eq_true hz0
            have hpl : parts = #[] := by cases parts; simp at hp; simp [hp]
            subst hpl
            have hrun : (Instr.buildSlice t n (#[].map fun (i, x) => (i, oev S x))).run P w = .ok (.slice (some ⟨w.heap.size, 0, none⟩) n n) (w.alloc (.cells #[] e)) := by
              unfold Instr.buildSlice
              simp [Sem.run_bind, run_underlying he, hsz, hz0, Instr.fill, newRow, Array.range_zero']
            simp only [execOp, ho, Sem.run_bind, hrun, Result.andThen_ok, Sem.run_pure, Oper.upon]
            exact hn _ _ h.ok
          · exact h.elim
      · exact h.elim
    · exact h.elim
  case h_4 t ad x ho =>
    split at h
    · rename_i p hp
      obtain ⟨b, o', rfl, hk⟩ := PtrSome.ex h
      obtain ⟨w', h1, h2⟩ := storeQ.run hk
      simp only [execOp, ho, hp, Sem.run_bind, h2, Result.andThen_ok, Sem.run_pure, Oper.upon]
      exact hn _ _ h1
    · exact h.elim
  case h_5 t l c ho =>
    obtain ⟨v, w', h1, h2⟩ := makeQ.run h
    simp only [execOp, ho, Sem.run_bind, h2, Result.andThen_ok, Sem.run_pure, Oper.upon]
    exact hn _ _ h1
  case h_6 c ho =>
    obtain ⟨callee, args, ats⟩ := c
    have e0 : ∀ r : Value, (#[r] ++ args.map (oev S))[0]? = some r := fun r => by simp [Array.getElem?_append]
    have e1 : (args.map (oev S)).extract 0 args.size = args.map (oev S) := by
      apply Array.ext'
      rw [Array.toList_extract]
      simp [List.extract, List.take_of_length_le]
    have ea : (args.toList.map (oev S)).toArray = args.map (oev S) := by apply Array.ext'; simp
    have inv : ∀ (r : Value) (name : String) (as : Array Value), Invoke P r name as w (fun e w' => RetV P o.type e fun v => K v w') →
        Oper.upon P o a next Q ((callMethod r name as).run P w) := by
      rintro r name as ⟨t, x, f, rc, rfl, hm, hco, hcalls⟩
      simp only [callMethod, Sem.run_bind, run_program, Result.andThen_ok, hm, CallOk.run hco, Oper.upon]
      exact eOp.calls hcalls hn
    split at h
    · rename_i f hc
      simp only at hc
      subst hc
      unfold CallV at h
      split at h
      · rename_i fn first cap hf
        split at h
        · rename_i g
          have hex : (execOp (oev S) o).run P w = (callFunc g (first.toList ++ args.toList.map (oev S) ++ cap.toList).toArray).run P w := by
            have ea : (first.toList ++ args.toList.map (oev S) ++ cap.toList).toArray = first ++ args.map (oev S) ++ cap := by apply Array.ext'; simp
            rw [ea]
            simp [execOp, ho, resolve, hf, Deferred.ofValue, invoke]
          rw [hex]
          unfold callQ at h
          split at h
          · split at h
            · rename_i hco
              rw [CallOk.run hco]
              exact eOp.calls h hn
            · exact h.elim
          · obtain ⟨v, w', h1, h2⟩ := h
            obtain ⟨v', hv', hk⟩ := RetV.ex h2
            cases hv'
            simp only [h1, Oper.upon]
            exact hn _ _ hk
        · rename_i name
          split at h
          · rename_i r hr
            have hf1 : first = #[r] := by cases first; simp at hr; simp [hr]
            subst hf1
            have hex : (execOp (oev S) o).run P w = (callMethod r name (args.toList.map (oev S)).toArray).run P w := by
              rw [ea]
              simp [execOp, ho, resolve, hf, Deferred.ofValue, invoke, e0, e1]
            rw [hex]
            exact inv r name _ h
          · exact h.elim
        · exact h.elim
      · exact h.elim
    · rename_i r name hc
      simp only at hc
      subst hc
      have hex : (execOp (oev S) o).run P w = (callMethod (oev S r) name (args.toList.map (oev S)).toArray).run P w := by
        rw [ea]
        simp [execOp, ho, resolve, invoke, e0, e1]
      rw [hex]
      exact inv _ name _ h
    · rename_i hc
      simp only at hc
      subst hc
      obtain ⟨p, l, c, w', h1, h2⟩ := h
      have hex : (execOp (oev S) o).run P w = .ok (.value (.slice p l c)) w' := by
        rw [ea] at h1
        simp only [execOp, ho, resolve, invoke, builtin, Sem.run_bind, Sem.run_pure, Result.andThen_ok]
        simp only at h1
        rw [h1]; rfl
      rw [hex]
      exact hn _ _ h2
    · exact h.elim
  case h_7 => exact h.elim
end Go.Proofs.YtollfjfcdofbaaaGreat
