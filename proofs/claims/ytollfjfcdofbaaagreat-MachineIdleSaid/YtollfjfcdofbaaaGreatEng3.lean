/- The engine, part 3: quiet operations, put together. -/
import Derived.Test.YtollfjfcdofbaaaGreatEng2
namespace Go.Proofs.YtollfjfcdofbaaaGreat
open Go
set_option linter.unusedSimpArgs false
set_option linter.unusedVariables false

def sizeN (P : Program) (t : TypeId) : Option Nat := match P.info? t with
  | some i => some i.size
  | none => none
theorem sizeN.run {P : Program} {t : TypeId} {s : Nat} (h : sizeN P t = some s) (w : World) : (sizeOf t).run P w = .ok s w := by
  unfold sizeN at h
  split at h
  · rename_i i hi; cases h; simp [sizeOf, typeInfo, hi]
  · cases h
def mulo (a s : Nat) : Nat := bif Nat.beq s 1 then a else a * s
theorem mulo_eq (a s : Nat) : mulo a s = a * s := by
  unfold mulo
  by_cases h : s = 1
  · subst h; simp
  · have : Nat.beq s 1 = false := nbeq_false h
    rw [this]; rfl

def NilOk (P : Program) (t : TypeId) (x : Value) (name : String) (w : World) : Prop := (nilAhead (P.types.size + Made.depth) t x name).run P w = .ok (some false) w

def refine (S : Sl) (x : Operand) (v : Value) : Sl := match x with
  | .tmp t => setV S t v
  | _ => S
theorem refine_eq {S : Sl} {x : Operand} {v : Value} (h : oev S x = v) : refine S x v = S := by
  cases x with
  | tmp t => exact setV_same h
  | _ => rfl

def nilQV (P : Program) (S : Sl) (x : Operand) (K : Sl → Value → Fact → Prop) (w : World) : Prop := match oev S x with
  | .pointer p => PtrSome p fun b o => K (refine S x (.pointer (some ⟨b, o, none⟩))) (.pointer (some ⟨b, o, none⟩)) none
  | .func fn first cap => (match fn with
    | .func f => K S (.func (.func f) first cap) none
    | .method name => (match first.toList with
      | [v] => RawIf v fun t y => NilOk P t y name w ∧ K (refine S x (.func (.method name) #[.iface t y] cap)) (.func (.method name) #[.iface t y] cap) (some (NilOk P t y name))
      | _ => False)
    | _ => False)
  | _ => False
def isIfaceT (P : Program) (t : TypeId) : Bool := match P.underlying t with
  | some (.interface _) => true
  | _ => false
def nilQ (P : Program) (S : Sl) (ty : TypeId) (x : Operand) (K : Sl → Value → Fact → Prop) (w : World) : Prop := match isIfaceT P ty with
  | true => RawIf (oev S x) fun t y => K (refine S x (.iface t y)) (.iface t y) none
  | false => nilQV P S x K w
theorem nilQV.run {P : Program} {S : Sl} {o : Oper} {x : Operand} (ho : o.op = .nilCheck x) {K : Sl → Value → Fact → Prop} {w : World} (h : nilQV P S x K w) :
    ∃ v F, K S v F ∧ F.holds w ∧ ∀ w', F.holds w' → (execOp (oev S) o).run P w' = .ok (.value v) w' := by
  unfold nilQV at h
  split at h
  · rename_i p hp
    obtain ⟨b, of, rfl, hk⟩ := PtrSome.ex h
    rw [refine_eq hp] at hk
    exact ⟨_, none, hk, trivial, fun w' _ => by simp [execOp, ho, hp]⟩
  · rename_i fn first cap hp
    split at h
    · exact ⟨_, none, h, trivial, fun w' _ => by simp [execOp, ho, hp]⟩
    · rename_i name
      split at h
      · rename_i v hv
        obtain ⟨t, y, rfl, hn, hk⟩ := RawIf.ex h
        have hf : first = #[.iface t y] := by cases first; simp at hv; simp [hv]
        subst hf
        rw [refine_eq hp] at hk
        refine ⟨_, some (NilOk P t y name), hk, hn, fun w' hw' => ?_⟩
        have hw2 : (nilAhead (P.types.size + Made.depth) t y name).run P w' = .ok (some false) w' := hw'
        simp [execOp, ho, hp, hw2]
      · exact h.elim
    · exact h.elim
  · exact h.elim

theorem nilQ.run {P : Program} {S : Sl} {ty : TypeId} {o : Oper} {x : Operand} (ho : o.op = .nilCheck x) {K : Sl → Value → Fact → Prop} {w : World} (h : nilQ P S ty x K w) :
    ∃ v F, K S v F ∧ F.holds w ∧ ∀ w', F.holds w' → (execOp (oev S) o).run P w' = .ok (.value v) w' := by
  unfold nilQ at h
  split at h
  · obtain ⟨t, y, hp, hk⟩ := RawIf.ex h
    rw [refine_eq hp] at hk
    exact ⟨_, none, hk, trivial, fun w' _ => by simp [execOp, ho, hp]⟩
  · exact nilQV.run ho h

def loadQ (P : Program) (t : TypeId) (b o : Nat) (K : Value → Fact → Prop) (w : World) : Prop := match isRowT P t with
  | true => (match sizeIs P t (leaves P 20 t).length with
    | true => exCells w b o 0 (leaves P 20 t) fun vs => K (.agg vs.toArray) (some fun w' => cellsFact w' b o 0 vs)
    | false => False)
  | false => (match P.underlying t with
    | some _ => (match leaves P 20 t with
      | [l] => exL l fun v => w.cell? ⟨b, o, none⟩ = some v ∧ K v (some fun w' => w'.cell? ⟨b, o, none⟩ = some v)
      | _ => False)
    | none => False)
theorem loadQ.run {P : Program} {t : TypeId} {b o : Nat} {K : Value → Fact → Prop} {w : World} (h : loadQ P t b o K w) :
    ∃ v F, K v F ∧ F.holds w ∧ ∀ w', F.holds w' → (Instr.loadAt t (.pointer (some ⟨b, o, none⟩))).run P w' = .ok v w' := by
  unfold loadQ at h
  split at h
  · rename_i hr
    split at h
    · rename_i hs
      obtain ⟨vs, hl, hra, hk⟩ := exCells.ex h
      obtain ⟨d, hd, hdr⟩ := isRowT.some hr
      have hf : ∀ w', cellsFact w' b o 0 vs ↔ w'.rangeAt b o vs := fun w' => by rw [cellsFact_iff]; simp
      refine ⟨_, _, hk, (hf w).2 (by simpa using hra), fun w' hw' => ?_⟩
      exact run_loadAt_mid w' b o t vs d ((hf w').1 hw') hd hdr (by rw [hl]; exact sizeIs.eq hs)
    · exact h.elim
  · rename_i hr
    split at h
    · rename_i d hd
      split at h
      · obtain ⟨v, hc, hk⟩ := exL.ex h
        refine ⟨v, _, hk, hc, fun w' hw' => ?_⟩
        have hw2 : w'.cell? ⟨b, o, none⟩ = some v := hw'
        simp [Instr.loadAt, Instr.sureAddr, loadVar, isRowT.run hr ⟨d, hd⟩, run_load, hw2]
      · exact h.elim
    · exact h.elim

def idxQ (P : Program) (t : TypeId) (x ix : Value) (K : Value → Prop) : Prop := match P.underlying t with
  | some (.slice e) => (match x, ix with
    | .slice base len _, .int _ i => (match sizeN P e with
      | some s => (0 ≤ i ∧ i < (len : Int)) ∧ PtrSome base fun b o => K (.pointer (some ⟨b, o + mulo i.toNat s, none⟩))
      | none => False)
    | _, _ => False)
  | some (.array n e) => (match x, ix with
    | .pointer p, .int _ i => (match sizeN P e with
      | some s => (0 ≤ i ∧ i < (n : Int)) ∧ PtrSome p fun b o => K (.pointer (some ⟨b, o + mulo i.toNat s, none⟩))
      | none => False)
    | _, _ => False)
  | _ => False
theorem idxQ.run {P : Program} {t : TypeId} {x ix : Value} {K : Value → Prop} (h : idxQ P t x ix K) : ∃ v, K v ∧ ∀ w, (Instr.indexAt t x ix).run P w = .ok v w := by
  unfold idxQ at h
  split at h
  · rename_i e he
    split at h
    · split at h
      · rename_i s hs
        obtain ⟨hi, hp⟩ := h
        obtain ⟨b, o, rfl, hk⟩ := PtrSome.ex hp
        refine ⟨_, hk, fun w => ?_⟩
        simp [Instr.indexAt, run_underlying he, asIntOf, hi.1, hi.2, sizeN.run hs, mulo_eq, Addr.add_mid]
      · exact h.elim
    · exact h.elim
  · rename_i n e he
    split at h
    · split at h
      · rename_i s hs
        obtain ⟨hi, hp⟩ := h
        obtain ⟨b, o, rfl, hk⟩ := PtrSome.ex hp
        refine ⟨_, hk, fun w => ?_⟩
        simp [Instr.indexAt, run_underlying he, asIntOf, hi.1, hi.2, sizeN.run hs, mulo_eq, Addr.add_mid, Instr.sureAddr]
      · exact h.elim
    · exact h.elim
  · exact h.elim

/-- a part of an array's value, read by its leaves -/
def exGet (cs : Array Value) (i s : Nat) : Nat → List Leaf → (List Value → Prop) → Prop
  | _, [], K => K []
  | j, l :: ls, K => exL l fun v => cs.getD (mulo i s + j) undef = v ∧ exGet cs i s (j + 1) ls fun vs => K (v :: vs)
theorem exGet.ex {cs : Array Value} {i s : Nat} : ∀ {ls : List Leaf} {j : Nat} {K : List Value → Prop}, exGet cs i s j ls K →
    ∃ vs : List Value, vs.length = ls.length ∧ (∀ k v, vs[k]? = some v → cs.getD (i * s + (j + k)) undef = v) ∧ K vs
  | [], _, _, h => ⟨[], rfl, fun k v hv => by simp at hv, h⟩
  | l :: ls, j, K, h => by
    obtain ⟨v, hc, hr⟩ := exL.ex h
    obtain ⟨vs, hl, hra, hk⟩ := exGet.ex hr
    refine ⟨v :: vs, by simp [hl], fun k u hu => ?_, hk⟩
    cases k with
    | zero => simp only [List.getElem?_cons_zero, Option.some.injEq] at hu; subst hu; rw [mulo_eq] at hc; exact hc
    | succ k =>
      simp only [List.getElem?_cons_succ] at hu
      have := hra k u hu
      rw [show j + (k + 1) = j + 1 + k from by omega]; exact this
def indexQ (P : Program) (t : TypeId) (x ix : Value) (K : Value → Prop) : Prop := match P.underlying t with
  | some (.array n e) => (match x, ix with
    | .agg cs, .int _ i => (match sizeIs P e (leaves P 20 e).length && Nat.ble (n * (leaves P 20 e).length) cs.size with
      | false => False
      | true => (match isRowT P e with
        | false => (match P.underlying e with
          | some _ => (match leaves P 20 e with
            | [l] => (0 ≤ i ∧ i < (n : Int)) ∧ exL l fun v => cs.getD i.toNat undef = v ∧ K v
            | _ => False)
          | none => False)
        | true => (0 ≤ i ∧ i < (n : Int)) ∧ exGet cs i.toNat (leaves P 20 e).length 0 (leaves P 20 e) fun vs => K (.agg vs.toArray)))
    | _, _ => False)
  | some .string => (match x, ix with
    | .string s, .int _ i => (0 ≤ i ∧ i < (s.size : Int)) ∧ K (.int .u8 ((s[i.toNat]?).getD 0).toNat)
    | _, _ => False)
  | _ => False
theorem indexQ.run {P : Program} {t : TypeId} {x ix : Value} {K : Value → Prop} (h : indexQ P t x ix K) : ∃ v, K v ∧ ∀ w, (Instr.index t x ix).run P w = .ok v w := by
  unfold indexQ at h
  split at h
  · rename_i n e he
    split at h
    · rename_i cs k i
      split at h
      · exact h.elim
      · rename_i hs
        simp only [Bool.and_eq_true, Nat.ble_eq] at hs
        obtain ⟨hs1, hs2⟩ := hs
        have hsz : ∀ w, (sizeOf e).run P w = .ok (leaves P 20 e).length w := fun w => by
          have := sizeIs.eq hs1
          cases hq : P.info? e with
          | none => simp [hq] at this
          | some inf => simp [hq] at this; simp [sizeOf, typeInfo, hq, this]
        split at h
        · rename_i hr
          split at h
          · rename_i d hd
            split at h
            · rename_i l hl
              obtain ⟨hi, hk⟩ := h
              obtain ⟨v, rfl, hk⟩ := exL.ex hk
              refine ⟨_, hk, fun w => ?_⟩
              have hlt : i.toNat < cs.size := by simp [hl] at hs2; omega
              simp [Instr.index, run_underlying he, asIntOf, hi.1, hi.2, hsz, hl, part, isRowT.run hr ⟨d, hd⟩, hlt]
            · exact h.elim
          · exact h.elim
        · rename_i hr
          obtain ⟨hi, hk⟩ := h
          obtain ⟨vs, hl, hra, hk⟩ := exGet.ex hk
          refine ⟨_, hk, fun w => ?_⟩
          obtain ⟨d, hd, _⟩ := isRowT.some hr
          have hle : (i.toNat + 1) * (leaves P 20 e).length ≤ cs.size := Nat.le_trans (Nat.mul_le_mul_right _ (by omega)) hs2
          have hext : cs.extract (i.toNat * (leaves P 20 e).length) (i.toNat * (leaves P 20 e).length + (leaves P 20 e).length) = vs.toArray := by
            apply Array.ext'
            rw [Array.toList_extract]
            refine List.ext_getElem? fun k => ?_
            simp only [List.extract]
            rw [List.getElem?_take, List.getElem?_drop]
            split
            · rename_i hlt
              have hklt : k < vs.length := by omega
              have h1 := hra k _ (List.getElem?_eq_getElem hklt)
              rw [Nat.add_mul, Nat.one_mul] at hle
              have hin : i.toNat * (leaves P 20 e).length + k < cs.size := by omega
              rw [Array.getD_eq_getD_getElem?] at h1
              simp only [Nat.zero_add, Array.getElem?_eq_getElem hin, Option.getD_some] at h1
              simp [List.getElem?_eq_getElem hklt, hin, h1]
            · rename_i hge
              have hge' : vs.length ≤ k := by omega
              simp [hge']
          simp [Instr.index, run_underlying he, asIntOf, hi.1, hi.2, hsz, part, isRowT.run hr ⟨d, hd⟩, hext]
    · exact h.elim
  · rename_i hs
    split at h
    · rename_i s k i
      obtain ⟨hi, hk⟩ := h
      refine ⟨_, hk, fun w => ?_⟩
      have hlt : i.toNat < s.size := by omega
      simp [Instr.index, run_underlying hs, asIntOf, hi.1, hlt]
    · exact h.elim
  · exact h.elim

/-- the bounds of a slice expression -/
def sliceQ (P : Program) (t : TypeId) (x : Value) (lo hi mx : Option Value) (K : Value → Prop) : Prop := match mx with
  | some mv => (match P.underlying t with
    | some (.slice e) => (match sizeN P e with
      | some _ => (match x with
        | .slice a _ cap => (match lo, hi, mv with
          | none, some (.int _ h), .int _ m => (0 ≤ h ∧ h ≤ m ∧ m ≤ (cap : Int)) ∧ K (.slice a h.toNat m.toNat)
          | _, _, _ => False)
        | _ => False)
      | none => False)
    | _ => False)
  | none => (match P.underlying t with
    | some (.slice e) => (match x, sizeN P e with
      | .slice a len cap, some s => (match lo, hi with
        | none, none => K (.slice a len cap)
        | none, some (.int _ h) => (0 ≤ h ∧ h ≤ (cap : Int)) ∧ K (.slice a h.toNat cap)
        | some (.int _ l), none => (0 ≤ l ∧ l ≤ (len : Int)) ∧ K (sliced a l.toNat len cap s)
        | some (.int _ l), some (.int _ h) => (0 ≤ l ∧ l ≤ h ∧ h ≤ (cap : Int)) ∧ K (sliced a l.toNat h.toNat cap s)
        | _, _ => False)
      | _, _ => False)
    | some .string => (match x with
      | .string s => (match lo, hi with
        | none, some (.int _ h) => (0 ≤ h ∧ h ≤ (s.size : Int)) ∧ K (.string (s.extract 0 h.toNat))
        | some (.int _ l), none => (0 ≤ l ∧ l ≤ (s.size : Int)) ∧ K (.string (s.extract l.toNat s.size))
        | some (.int _ l), some (.int _ h) => (0 ≤ l ∧ l ≤ h ∧ h ≤ (s.size : Int)) ∧ K (.string (s.extract l.toNat h.toNat))
        | _, _ => False)
      | _ => False)
    | _ => False)
theorem map_add_zero (a : Option Addr) : a.map (·.add 0) = a := by cases a <;> simp [Addr.add]
theorem sliceQ.run {P : Program} {t : TypeId} {x : Value} {lo hi mx : Option Value} {K : Value → Prop} (h : sliceQ P t x lo hi mx K) : ∃ v, K v ∧ ∀ w, (Instr.sliceAt t x lo hi mx).run P w = .ok v w := by
  unfold sliceQ at h
  split at h
  · split at h
    · rename_i e he
      split at h
      · rename_i s hs
        split at h
        · rename_i a ln cap
          split at h
          · rename_i kk h' kk' m
            obtain ⟨⟨h1, h2, h3⟩, hk⟩ := h
            refine ⟨_, hk, fun w => ?_⟩
            have e1 : (h'.toNat : Int) = h' := by omega
            have e2 : (m.toNat : Int) = m := by omega
            have hm0 : 0 ≤ m := by omega
            simp [Instr.sliceAt, Instr.slice, run_underlying he, Instr.sliceBounds, Instr.sliceBound, asIntOf, sizeN.run hs, h1, h3, hm0, e2, h2, map_add_zero]
          · exact h.elim
        · exact h.elim
      · exact h.elim
    · exact h.elim
  · split at h
    · rename_i e he
      split at h
      · rename_i a len cap s hs
        split at h
        · refine ⟨_, h, fun w => ?_⟩
          simp [Instr.sliceAt, Instr.slice, run_underlying he, Instr.sliceBounds, sizeN.run hs, map_add_zero]
        · rename_i k h'
          obtain ⟨⟨h1, h2⟩, hk⟩ := h
          refine ⟨_, hk, fun w => ?_⟩
          simp [Instr.sliceAt, Instr.slice, run_underlying he, Instr.sliceBounds, Instr.sliceBound, asIntOf, sizeN.run hs, h1, h2, map_add_zero]
        · rename_i k l
          obtain ⟨⟨h1, h2⟩, hk⟩ := h
          refine ⟨_, hk, fun w => ?_⟩
          simp [Instr.sliceAt, Instr.slice, run_underlying he, Instr.sliceBounds, Instr.sliceBound, asIntOf, sizeN.run hs, h1, h2, sliced]
        · rename_i k l k' h'
          obtain ⟨⟨h1, h2, h3⟩, hk⟩ := h
          refine ⟨_, hk, fun w => ?_⟩
          have e1 : (h'.toNat : Int) = h' := by omega
          have h0 : 0 ≤ h' := by omega
          simp [Instr.sliceAt, Instr.slice, run_underlying he, Instr.sliceBounds, Instr.sliceBound, asIntOf, sizeN.run hs, h1, h2, h3, h0, e1, sliced]
        · exact h.elim
      · exact h.elim
    · rename_i he
      split at h
      · rename_i s
        split at h
        · rename_i k h'
          obtain ⟨⟨h1, h2⟩, hk⟩ := h
          refine ⟨_, hk, fun w => ?_⟩
          simp [Instr.sliceAt, Instr.slice, run_underlying he, Instr.sliceBounds, Instr.sliceBound, asIntOf, h1, h2]
        · rename_i k l
          obtain ⟨⟨h1, h2⟩, hk⟩ := h
          refine ⟨_, hk, fun w => ?_⟩
          simp [Instr.sliceAt, Instr.slice, run_underlying he, Instr.sliceBounds, Instr.sliceBound, asIntOf, h1, h2]
        · rename_i k l k' h'
          obtain ⟨⟨h1, h2, h3⟩, hk⟩ := h
          refine ⟨_, hk, fun w => ?_⟩
          have e1 : (h'.toNat : Int) = h' := by omega
          have h0 : 0 ≤ h' := by omega
          simp [Instr.sliceAt, Instr.slice, run_underlying he, Instr.sliceBounds, Instr.sliceBound, asIntOf, h1, h2, h3, h0, e1]
        · exact h.elim
      · exact h.elim
    · exact h.elim

/-! ### build -/
def putCells (cells : Array Value) (off : Nat) : List Value → Array Value
  | [] => cells
  | v :: vs => putCells (cells.setIfInBounds off v) (off + 1) vs
theorem putCells_foldl (off : Nat) : ∀ (vs : List Value) (k : Nat) (cells : Array Value), (vs.zipIdx k).foldl (fun cs (x : Value × Nat) => cs.setIfInBounds (off + x.2) x.1) cells = putCells cells (off + k) vs
  | [], _, _ => rfl
  | v :: vs, k, cells => by
    simp only [List.zipIdx_cons, List.foldl_cons, putCells]
    rw [putCells_foldl off vs (k + 1)]
    rfl
def notAgg : Value → Bool
  | .agg _ => false
  | _ => true
theorem notAgg.cells {v : Value} (h : notAgg v = true) : v.cells = #[v] := by cases v <;> simp_all [notAgg, Value.cells]
def rawOb (P : Program) (t : TypeId) (v : Value) (A : Prop) : Prop := match leaves P 20 t with
  | [.raw] => notAgg v = true ∧ A
  | _ => (match notAgg v with
    | true => A
    | false => False)
theorem rawOb.ok {P : Program} {t : TypeId} {v : Value} {A : Prop} (h : rawOb P t v A) : notAgg v = true ∧ A := by
  unfold rawOb at h
  split at h
  · exact h
  · split at h
    · rename_i hv; exact ⟨hv, h⟩
    · exact h.elim
def fillQ (P : Program) (place : Nat → Option (Nat × TypeId)) : Array Value → List (Nat × Value) → (Array Value → Prop) → Prop
  | cells, [], K => K cells
  | cells, (i, v) :: rest, K => match place i with
    | none => False
    | some (off, t) => (match isRowT P t with
      | true => (match v with
        | .agg cs => (match sizeIs P t cs.size && Nat.ble (off + cs.size) cells.size with
          | true => fillQ P place (putCells cells off cs.toList) rest K
          | false => False)
        | _ => False)
      | false => (match sizeIs P t 1 && Nat.blt off cells.size with
        | true => rawOb P t v (fillQ P place (cells.setIfInBounds off v) rest K)
        | false => False))
theorem fillQ.run {P : Program} {place : Nat → Option (Nat × TypeId)} {place' : Nat → Option (Nat × Nat)}
    (hp : ∀ i off t, place i = some (off, t) → ∀ s, (P.info? t).map (·.size) = some s → place' i = some (off, s)) :
    ∀ (l : List (Nat × Value)) (cells : Array Value) (K : Array Value → Prop), fillQ P place cells l K → ∃ out, Instr.fill place' cells l = some out ∧ K out
  | [], cells, K, h => ⟨cells, rfl, h⟩
  | (i, v) :: rest, cells, K, h => by
    unfold fillQ at h
    split at h
    · exact h.elim
    · rename_i off t hpl
      split at h
      · split at h
        · rename_i cs
          split at h
          · rename_i hc
            simp only [Bool.and_eq_true, Nat.ble_eq] at hc
            have hp' := hp i off t hpl cs.size (sizeIs.eq hc.1)
            obtain ⟨out, h1, h2⟩ := fillQ.run hp rest _ K h
            refine ⟨out, ?_, h2⟩
            have hz : (Array.foldl (fun cs (x : Value × Nat) => cs.setIfInBounds (off + x.2) x.1) cells cs.zipIdx) = putCells cells off cs.toList := by
              rw [← Array.foldl_toList, Array.toList_zipIdx]
              exact putCells_foldl off cs.toList 0 cells
            simp only [Instr.fill, hp', Value.cells, ne_eq, not_true_eq_false, decide_false, Bool.false_or, decide_eq_true_eq]
            rw [if_neg (by simp; omega)]
            exact (congrArg (fun c => Instr.fill place' c rest) hz).trans h1
          · exact h.elim
        · exact h.elim
      · split at h
        · rename_i hc
          simp only [Bool.and_eq_true] at hc
          obtain ⟨hna, hk⟩ := rawOb.ok h
          have hp' := hp i off t hpl 1 (sizeIs.eq hc.1)
          have hlt : off < cells.size := by simpa [Nat.blt_eq] using hc.2
          obtain ⟨out, h1, h2⟩ := fillQ.run hp rest _ K hk
          refine ⟨out, ?_, h2⟩
          have hv := notAgg.cells hna
          simp only [Instr.fill, hp', hv]
          rw [if_neg (by simp; omega)]
          simpa [Array.zipIdx] using h1
        · exact h.elim
def fieldPlaces (fs : Array Field) (i : Nat) : Option (Nat × TypeId) := match fs[i]? with
  | some f => some (f.offset, f.type)
  | none => none
def allSized (P : Program) : List Field → Bool
  | [] => true
  | f :: fs => (sizeN P f.type).isSome && allSized P fs
def buildQ (P : Program) (t : TypeId) (parts : List (Nat × Value)) (K : Value → Prop) : Prop := match P.info? t with
  | none => False
  | some i => (match i.zero with
    | none => False
    | some z => (match P.underlying t with
      | some (.struct fs) => (match allSized P fs.toList with
        | true => fillQ P (fieldPlaces fs) z.cells parts fun cs => K (.agg cs)
        | false => False)
      | some (.array _ e) => (match sizeN P e with
        | some s => fillQ P (fun i => some (i * s, e)) z.cells parts fun cs => K (.agg cs)
        | none => False)
      | _ => False))
theorem mapM_sized {P : Program} (w : World) : ∀ (fs : List Field), allSized P fs = true →
    ∃ ps : List (Nat × Nat), (fs.mapM fun f => (do pure (f.offset, ← sizeOf f.type) : Sem (Nat × Nat))).run P w = .ok ps w ∧ ps.length = fs.length ∧
      ∀ (i : Nat) (f : Field), fs[i]? = some f → ∀ s, (P.info? f.type).map (·.size) = some s → ps[i]? = some (f.offset, s)
  | [], _ => ⟨[], by simp, rfl, by simp⟩
  | f :: fs, h => by
    simp only [allSized, Bool.and_eq_true] at h
    obtain ⟨s0, hs0⟩ := Option.isSome_iff_exists.1 h.1
    obtain ⟨ps, h1, h2, h3⟩ := mapM_sized w fs h.2
    refine ⟨(f.offset, s0) :: ps, ?_, by simp [h2], fun i g hg s hs => ?_⟩
    · simp only [List.mapM_cons, Sem.run_bind, sizeN.run hs0, Result.andThen_ok, Sem.run_pure, h1]
    · cases i with
      | zero =>
        simp only [List.getElem?_cons_zero, Option.some.injEq] at hg ⊢
        subst hg
        unfold sizeN at hs0
        split at hs0
        · rename_i inf hi; cases hs0; simp [hi] at hs; simp [hs]
        · cases hs0
      | succ i => simp only [List.getElem?_cons_succ] at hg ⊢; exact h3 i g hg s hs
theorem buildQ.run {P : Program} {t : TypeId} {parts : Array (Nat × Value)} {K : Value → Prop} (h : buildQ P t parts.toList K) : ∃ v, K v ∧ ∀ w, (Instr.build t parts).run P w = .ok v w := by
  unfold buildQ at h
  split at h
  · exact h.elim
  · rename_i i hi
    split at h
    · exact h.elim
    · rename_i z hz
      have hzero : ∀ w, (zeroValue t).run P w = .ok z w := fun w => by simp [zeroValue, typeInfo, hi, hz]
      split at h
      · rename_i fs hfs
        split at h
        · rename_i hall
          obtain ⟨ps0, _, _, h30⟩ := mapM_sized (P := P) default fs.toList hall
          have hm : ∀ w, (fs.mapM fun f => (do pure (f.offset, ← sizeOf f.type) : Sem (Nat × Nat))).run P w = .ok ps0.toArray w := by
            intro w
            obtain ⟨ps, h1, h2, h3⟩ := mapM_sized (P := P) w fs.toList hall
            have hps : ps = ps0 := by
              refine List.ext_getElem? fun j => ?_
              cases hj : fs.toList[j]? with
              | none =>
                have hl : fs.toList.length ≤ j := by simpa [List.getElem?_eq_none_iff] using hj
                rw [List.getElem?_eq_none (by omega)]
                obtain ⟨ps', _, hl', h3'⟩ := mapM_sized (P := P) default fs.toList hall
                have : ps0.length = fs.toList.length := by assumption
                rw [List.getElem?_eq_none (by omega)]
              | some f =>
                have hsz : (sizeN P f.type).isSome = true := by
                  have : ∀ (l : List Field), allSized P l = true → ∀ (j : Nat) (f : Field), l[j]? = some f → (sizeN P f.type).isSome = true := by
                    intro l
                    induction l with
                    | nil => intro _ j f hf; simp at hf
                    | cons g l ih =>
                      intro hl j f hf
                      simp only [allSized, Bool.and_eq_true] at hl
                      cases j with
                      | zero => simp only [List.getElem?_cons_zero, Option.some.injEq] at hf; subst hf; exact hl.1
                      | succ j => exact ih hl.2 j f (by simpa using hf)
                  exact this fs.toList hall j f hj
                obtain ⟨s, hs⟩ := Option.isSome_iff_exists.1 hsz
                have hs' : (P.info? f.type).map (·.size) = some s := by
                  unfold sizeN at hs
                  split at hs
                  · rename_i inf hi; cases hs; simp [hi]
                  · cases hs
                rw [h3 j f hj s hs', h30 j f hj s hs']
            rw [← hps, Array.mapM_eq_mapM_toList, Sem.run_map, h1]
            rfl
          obtain ⟨out, h1, h2⟩ := fillQ.run (place' := fun i => ps0.toArray[i]?) (fun i off t hpl s hs => by
            unfold fieldPlaces at hpl
            split at hpl
            · rename_i f hf
              simp only [Option.some.injEq, Prod.mk.injEq] at hpl
              obtain ⟨rfl, rfl⟩ := hpl
              simpa using h30 i f (by simpa using hf) s hs
            · cases hpl) parts.toList _ _ h
          refine ⟨_, h2, fun w => ?_⟩
          unfold Instr.build
          simp only [Sem.run_bind, hzero, Result.andThen_ok, run_underlying hfs, hm, h1, Sem.run_pure]
        · exact h.elim
      · rename_i n e he
        split at h
        · rename_i s hs
          obtain ⟨out, h1, h2⟩ := fillQ.run (place' := fun i => some (i * s, s)) (fun i off t hpl s' hs' => by
            simp only [Option.some.injEq, Prod.mk.injEq] at hpl
            obtain ⟨rfl, rfl⟩ := hpl
            unfold sizeN at hs
            split at hs
            · rename_i inf hi'; cases hs; simp [hi'] at hs'; simp [hs']
            · cases hs) parts.toList _ _ h
          refine ⟨_, h2, fun w => ?_⟩
          unfold Instr.build
          simp only [Sem.run_bind, hzero, Result.andThen_ok, run_underlying he, sizeN.run hs, h1, Sem.run_pure]
        · exact h.elim
      · exact h.elim
end Go.Proofs.YtollfjfcdofbaaaGreat
