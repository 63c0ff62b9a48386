/- Contracts: words, the cache, the port. -/
import Derived.Test.YtollfjfcdofbaaaGreatSp
import Derived.Test.YtollfjfcdofbaaaGreatSymA
import Derived.Laws.LoneSync
namespace Go.Proofs.YtollfjfcdofbaaaGreat
open Go Go.Proofs
set_option linter.unusedSimpArgs false
set_option linter.unusedVariables false
set_option maxRecDepth 100000
set_option maxHeartbeats 4000000
-- NB 8
-- NORM memL, cacL, portL

/-! ## Atomic words -/
section
variable {w : World} {b o : Nat} {x : Int}
theorem uLoad (h : w.cell? ⟨b, o, none⟩ = some (.int .u32 x)) :
    Calls Tryz.prog 102 #[.pointer (some ⟨b, o, none⟩)] w fun e w' => e = .returned (.int .u32 x) ∧ w' = w :=
  callsSyncAtomicUint32Load _ _ _ _ ⟨_, _, run_call_load Tryz.func157 (by kernel_rfl) (by kernel_rfl) (by kernel_rfl) .u32 (by kernel_rfl) h, _, rfl, rfl, rfl⟩
theorem uStore (h : w.cell? ⟨b, o, none⟩ = some (.int .u32 x)) (hf : w.frozen? ⟨b, o, none⟩ = false) (v : Int) :
    Calls Tryz.prog 204 #[.pointer (some ⟨b, o, none⟩), .int .u32 v] w fun e w' => e = .returned (.tuple #[]) ∧ w' = w.setCell ⟨b, o, none⟩ (.int .u32 v) :=
  callsSyncAtomicUint32Store _ _ _ _ _ ⟨_, _, run_call_store Tryz.func159 (by kernel_rfl) (by kernel_rfl) (by kernel_rfl) (by kernel_rfl) h hf, rfl, rfl, rfl⟩
theorem uAdd (h : w.cell? ⟨b, o, none⟩ = some (.int .u32 x)) (hf : w.frozen? ⟨b, o, none⟩ = false) (v : Int) :
    Calls Tryz.prog 293 #[.pointer (some ⟨b, o, none⟩), .int .u32 v] w fun e w' => e = .returned (.int .u32 (IntKind.u32.wrap (x + v))) ∧ w' = w.setCell ⟨b, o, none⟩ (.int .u32 (IntKind.u32.wrap (x + v))) :=
  callsSyncAtomicUint32Add _ _ _ _ _ ⟨_, _, run_call_add Tryz.func294 (by kernel_rfl) (by kernel_rfl) (by kernel_rfl) .u32 (by kernel_rfl) h hf (by simp [Op.intArith]), _, rfl, rfl, rfl⟩
theorem run_call_swap {P : Program} {f : FuncId} {fn : Func} (hf : P.funcs[f]? = some fn) (hname : (fn.name == "runtime.NumGoroutine") = false) (hb : fn.body.isNone = true) (hn : Extern.findNext fn = none) (k : IntKind)
    (he : Extern.find fn = some (Extern.Atomic.swapT (.int k))) {a : Addr} {x y : Int} {w : World} (hc : w.cell? a = some (.int k x)) (hz : w.frozen? a = false) :
    (callFunc f #[.pointer (some a), .int k y]).run P w = .ok (.value (.int k x)) (w.setCell a (.int k y)) := by
  rw [run_callFunc_extern hf hname hb hn he]
  change (Sem.run P (do
    let a' ← asAddr (.pointer (some a))
    let old ← Extern.Atomic.read (.int k) a'
    store a' (.int k y) .atomic
    pure old) w).andThen _ = _
  simp [Extern.Atomic.read, asAddr, hc, hz, run_store P w a (.int k y) .atomic rfl, Result.andThen]
theorem uSwap (h : w.cell? ⟨b, o, none⟩ = some (.int .u32 x)) (hf : w.frozen? ⟨b, o, none⟩ = false) (v : Int) :
    Calls Tryz.prog 301 #[.pointer (some ⟨b, o, none⟩), .int .u32 v] w fun e w' => e = .returned (.int .u32 x) ∧ w' = w.setCell ⟨b, o, none⟩ (.int .u32 v) :=
  callsSyncAtomicUint32Swap _ _ _ _ _ ⟨_, _, run_call_swap Tryz.func302 (by kernel_rfl) (by kernel_rfl) (by kernel_rfl) .u32 (by kernel_rfl) h hf, _, rfl, rfl, rfl⟩
theorem uCas (h : w.cell? ⟨b, o, none⟩ = some (.int .u32 x)) (hf : w.frozen? ⟨b, o, none⟩ = false) (old v : Int) :
    Calls Tryz.prog 310 #[.pointer (some ⟨b, o, none⟩), .int .u32 old, .int .u32 v] w fun e w' =>
      e = .returned (.bool (decide (x = old))) ∧ w' = if x = old then w.setCell ⟨b, o, none⟩ (.int .u32 v) else w := by
  by_cases hx : x = old
  · subst hx
    refine callsSyncAtomicUint32CompareAndSwap _ _ _ _ _ _ ⟨_, _, run_call_cas_hit Tryz.func311 (by kernel_rfl) (by kernel_rfl) (by kernel_rfl) .u32 (by kernel_rfl) h hf, _, rfl, ?_⟩
    simp
  · refine callsSyncAtomicUint32CompareAndSwap _ _ _ _ _ _ ⟨_, _, run_call_cas_miss Tryz.func311 (by kernel_rfl) (by kernel_rfl) (by kernel_rfl) .u32 (by kernel_rfl) h hf hx, _, rfl, ?_⟩
    simp [hx]
end

/-! ## Memory, cache, port: where they lie and what they hold -/
structure PA where
  p : Nat
  m : Nat
  c : Nat
  wb : Nat
  hb : Nat
  hc : Nat
  more : List Int
  cb : Nat
  mb : Nat
  ab : Nat
structure PS where
  words : List Int
  homes : List Int
  copies : List Int
  misses : List Int
  acc : List (Int × Int)
abbrev slv (b n : Nat) : Value := .slice (some ⟨b, 0, none⟩) n n
abbrev ptr (b : Nat) : Value := .pointer (some ⟨b, 0, none⟩)
abbrev i64 (x : Int) : Value := .int .i64 x
abbrev u32 (x : Int) : Value := .int .u32 x
def memL (a : PA) (s : PS) : Blocks := [(a.m, [slv a.wb s.words.length, .slice (some ⟨a.hb, 0, none⟩) s.words.length a.hc]), (a.wb, ints .u32 s.words), (a.hb, ints .i64 (s.homes ++ a.more))]
def cacL (a : PA) (s : PS) : Blocks := [(a.c, [slv a.cb s.words.length, slv a.mb s.acc.length]), (a.cb, ints .u64 s.copies), (a.mb, ints .i64 s.misses)]
def portL (a : PA) (s : PS) : Blocks := (a.p, [ptr a.m, ptr a.c, slv a.ab s.acc.length]) :: (a.ab, rows accRow s.acc) :: (memL a s ++ cacL a s)
structure PS.wf (s : PS) : Prop where
  homes : s.homes.length = s.words.length
  copies : s.copies.length = s.words.length
  misses : s.misses.length = s.acc.length
namespace PS
def inT (s : PS) (t : Int) : Bool := decide (0 ≤ t ∧ t < s.acc.length)
def inA (s : PS) (a : Int) : Bool := decide (0 ≤ a ∧ a < s.words.length)
def inTA (s : PS) (t a : Int) : Bool := s.inT t && s.inA a
def own (t : Int) : Int := IntKind.u64.wrap (1 * 2 ^ min (Int.toNat t) IntKind.u64.bits)
def and64 (x y : Int) : Int := IntKind.u64.wrap (BitVec.ofInt IntKind.u64.bits x &&& BitVec.ofInt IntKind.u64.bits y).toNat
def or64 (x y : Int) : Int := IntKind.u64.wrap (BitVec.ofInt IntKind.u64.bits x ||| BitVec.ofInt IntKind.u64.bits y).toNat
/-- is the touch a miss? -/
def missed (s : PS) (t a : Int) (write : Bool) : Bool :=
  if write then s.copies.getD a.toNat 0 != own t else and64 (s.copies.getD a.toNat 0) (own t) == 0
def cpy (s : PS) (t a : Int) (write : Bool) : List Int := s.copies.set a.toNat (if write then own t else or64 (s.copies.getD a.toNat 0) (own t))
def mss (s : PS) (t a : Int) (write : Bool) : List Int :=
  if s.missed t a write = true then s.misses.set t.toNat (IntKind.i64.wrap (s.misses.getD t.toNat 0 + 1)) else s.misses
def cnt (s : PS) (t : Int) (write : Bool) : List (Int × Int) :=
  s.acc.set t.toNat (IntKind.i64.wrap ((s.acc.getD t.toNat default).1 + 1), if write then IntKind.i64.wrap ((s.acc.getD t.toNat default).2 + 1) else (s.acc.getD t.toNat default).2)
def touch (s : PS) (t a : Int) (write : Bool) : PS := { s with copies := s.cpy t a write, misses := s.mss t a write, acc := s.cnt t write }
def word (s : PS) (a : Int) : Int := s.words.getD a.toNat 0
def put (s : PS) (a : Int) (v : Int) : PS := { s with words := s.words.set a.toNat v }
/-- an access -/
def load (s : PS) (t a : Int) : PS := if s.inTA t a = true then s.touch t a false else s
def loadV (s : PS) (t a : Int) : Int := if s.inTA t a = true then s.word a else 0
def store (s : PS) (t a v : Int) : PS := if s.inTA t a = true then (s.touch t a true).put a v else s
def casV (s : PS) (t a old : Int) : Bool := s.inTA t a && decide (s.word a = old)
def cas (s : PS) (t a old v : Int) : PS := if s.inTA t a = true then (if s.word a = old then (s.touch t a true).put a v else s.touch t a true) else s
def add (s : PS) (t a v : Int) : PS := if s.inTA t a = true then (s.touch t a true).put a (IntKind.u32.wrap (s.word a + v)) else s
def addV (s : PS) (t a v : Int) : Int := if s.inTA t a = true then IntKind.u32.wrap (IntKind.u32.wrap (s.word a + v) - v) else 0
theorem touch_wf {s : PS} (h : s.wf) (t a : Int) (write : Bool) : (s.touch t a write).wf := by
  refine ⟨h.homes, ?_, ?_⟩
  · simp [touch, cpy, h.copies]
  · simp only [touch, mss, cnt, List.length_set]
    split <;> simp [h.misses]
theorem put_wf {s : PS} (h : s.wf) (a v : Int) : (s.put a v).wf := by
  refine ⟨?_, ?_, h.misses⟩ <;> simp [put, h.homes, h.copies]
theorem load_wf {s : PS} (h : s.wf) (t a : Int) : (s.load t a).wf := by unfold load; split; exact touch_wf h _ _ _; exact h
theorem store_wf {s : PS} (h : s.wf) (t a v : Int) : (s.store t a v).wf := by unfold store; split; exact put_wf (touch_wf h _ _ _) _ _; exact h
theorem cas_wf {s : PS} (h : s.wf) (t a o v : Int) : (s.cas t a o v).wf := by
  unfold cas; split
  · split; exact put_wf (touch_wf h _ _ _) _ _; exact touch_wf h _ _ _
  · exact h
theorem add_wf {s : PS} (h : s.wf) (t a v : Int) : (s.add t a v).wf := by unfold add; split; exact put_wf (touch_wf h _ _ _) _ _; exact h
end PS

theorem memLenS (a : PA) (s : PS) : Sp Tryz.prog 34 #[ptr a.m] (memL a s) (i64 s.words.length) (memL a s) := by
  intro w0 S w B H
  simp only [memL, cacL, List.cons_append, List.nil_append] at H ⊢
  exact callsMemMemLen _ _ _ ⟨_, _, _, H.cell 0 rfl rfl, rfl, H⟩
theorem tC_Kq {P : Prop} (h : P := by (first | ((first | refine bkCell (H.bkAt 0 rfl) ?_ | refine bkCell (H.bkAt 1 rfl) ?_ | refine bkCell (H.bkAt 2 rfl) ?_ | refine bkCell (H.bkAt 3 rfl) ?_ | refine bkCell (H.bkAt 4 rfl) ?_ | refine bkCell (H.bkAt 5 rfl) ?_ | refine bkCell (H.bkAt 6 rfl) ?_ | refine bkCell (H.bkAt 7 rfl) ?_); (first | rfl | ((first | refine ints_at0 ?_ | refine bools_at0 ?_ | refine rows_at1 (f := accRow) (s := 2) (fun _ => rfl) (by decide) ?_ rfl | refine rows_at0 (f := accRow) (s := 2) (fun _ => rfl) (by decide) ?_ rfl); first | omega | assumption | (simp only [List.length_set, List.length_append, List.length_cons, List.length_nil, List.length_map, List.length_replicate, List.length_drop, List.length_take]; omega)))) | ((first | refine bkCan (H.bkAt 0 rfl) ?_ | refine bkCan (H.bkAt 1 rfl) ?_ | refine bkCan (H.bkAt 2 rfl) ?_ | refine bkCan (H.bkAt 3 rfl) ?_ | refine bkCan (H.bkAt 4 rfl) ?_ | refine bkCan (H.bkAt 5 rfl) ?_ | refine bkCan (H.bkAt 6 rfl) ?_ | refine bkCan (H.bkAt 7 rfl) ?_); (first | decide | ((first | refine ints_lt ?_ | refine bools_lt ?_ | refine rows_lt1 (f := accRow) (s := 2) (fun _ => rfl) (by decide) ?_ | refine rows_lt0 (f := accRow) (s := 2) (fun _ => rfl) (by decide) ?_); first | omega | assumption | (simp only [List.length_set, List.length_append, List.length_cons, List.length_nil, List.length_map, List.length_replicate, List.length_drop, List.length_take]; omega)) | (simp only [List.length_cons, List.length_nil]; omega))) | ((first | refine bkThere (H.bkAt 0 rfl) ?_ | refine bkThere (H.bkAt 1 rfl) ?_ | refine bkThere (H.bkAt 2 rfl) ?_ | refine bkThere (H.bkAt 3 rfl) ?_ | refine bkThere (H.bkAt 4 rfl) ?_ | refine bkThere (H.bkAt 5 rfl) ?_ | refine bkThere (H.bkAt 6 rfl) ?_ | refine bkThere (H.bkAt 7 rfl) ?_); (first | decide | (simp only [List.length_cons, List.length_nil]; omega) | (refine rows_le (f := accRow) (s := 2) (fun _ => rfl) ?_; first | omega | assumption | (simp only [List.length_set, List.length_append, List.length_cons, List.length_nil, List.length_map, List.length_replicate, List.length_drop, List.length_take]; omega)))) | exact ⟨by omega, by omega⟩)) : P := h
theorem tS_Kq {w0 w : World} {S : List Nat} {L L' : Blocks} {b o : Nat} {v : Value} {K : World → Prop} (H : St w0 S w L) (k : ∀ w', St w0 S w' L' → K w') (h : SetG w b o v (fun w' => St w0 S w' L') := by ((first | refine bkSet H 0 rfl (fun w H => ?_) | refine bkSet H 1 rfl (fun w H => ?_) | refine bkSet H 2 rfl (fun w H => ?_) | refine bkSet H 3 rfl (fun w H => ?_) | refine bkSet H 4 rfl (fun w H => ?_) | refine bkSet H 5 rfl (fun w H => ?_) | refine bkSet H 6 rfl (fun w H => ?_) | refine bkSet H 7 rfl (fun w H => ?_)); (try simp only [List.set_cons_succ, List.set_cons_zero, ints_set0, bools_set0, pair_set0, pair_set1] at H); exact H)) : SetG w b o v K := k _ h
theorem tG_Kq {w0 w : World} {S : List Nat} {L L' : Blocks} {b o : Nat} {vs : List Value} {K : World → Prop} (H : St w0 S w L) (k : ∀ w', St w0 S w' L' → K w') (h : SetsG w b o vs (fun w' => St w0 S w' L') := by ((first | refine bkSetsF H 0 rfl rfl (fun w H => ?_) | refine bkSetsF H 1 rfl rfl (fun w H => ?_) | refine bkSetsF H 2 rfl rfl (fun w H => ?_) | refine bkSetsF H 3 rfl rfl (fun w H => ?_) | refine bkSetsF H 4 rfl rfl (fun w H => ?_) | refine bkSetsF H 5 rfl rfl (fun w H => ?_) | refine bkSetsF H 6 rfl rfl (fun w H => ?_) | refine bkSetsF H 7 rfl rfl (fun w H => ?_) | (refine bkSetsP H 0 rfl ?_ (fun w H => ?_); · first | omega | assumption | (simp only [List.length_set, List.length_append, List.length_cons, List.length_nil, List.length_map, List.length_replicate, List.length_drop, List.length_take]; omega)) | (refine bkSetsP H 1 rfl ?_ (fun w H => ?_); · first | omega | assumption | (simp only [List.length_set, List.length_append, List.length_cons, List.length_nil, List.length_map, List.length_replicate, List.length_drop, List.length_take]; omega)) | (refine bkSetsP H 2 rfl ?_ (fun w H => ?_); · first | omega | assumption | (simp only [List.length_set, List.length_append, List.length_cons, List.length_nil, List.length_map, List.length_replicate, List.length_drop, List.length_take]; omega)) | (refine bkSetsP H 3 rfl ?_ (fun w H => ?_); · first | omega | assumption | (simp only [List.length_set, List.length_append, List.length_cons, List.length_nil, List.length_map, List.length_replicate, List.length_drop, List.length_take]; omega)) | (refine bkSetsP H 4 rfl ?_ (fun w H => ?_); · first | omega | assumption | (simp only [List.length_set, List.length_append, List.length_cons, List.length_nil, List.length_map, List.length_replicate, List.length_drop, List.length_take]; omega)) | (refine bkSetsP H 5 rfl ?_ (fun w H => ?_); · first | omega | assumption | (simp only [List.length_set, List.length_append, List.length_cons, List.length_nil, List.length_map, List.length_replicate, List.length_drop, List.length_take]; omega)) | (refine bkSetsP H 6 rfl ?_ (fun w H => ?_); · first | omega | assumption | (simp only [List.length_set, List.length_append, List.length_cons, List.length_nil, List.length_map, List.length_replicate, List.length_drop, List.length_take]; omega)) | (refine bkSetsP H 7 rfl ?_ (fun w H => ?_); · first | omega | assumption | (simp only [List.length_set, List.length_append, List.length_cons, List.length_nil, List.length_map, List.length_replicate, List.length_drop, List.length_take]; omega)) ); (try simp only [List.set_cons_succ, List.set_cons_zero, ints_set0, bools_set0, pair_set0, pair_set1] at H); exact H)) : SetsG w b o vs K := k _ h
theorem cacThere (a : PA) (s : PS) (hs : s.wf) (t x : Int) : Sp Tryz.prog 254 #[ptr a.c, i64 t, i64 x] (cacL a s) (.bool (s.inTA t x)) (cacL a s) := by
  intro w0 S w B H
  simp only [memL, cacL, List.cons_append, List.nil_append] at H ⊢
  refine callsCacheCache_there _ _ _ _ _ ?_
  unfold preCacheCache_there
  refine Br_split (fun h1 => ?_) (fun h1 => ⟨?_, H⟩)
  · simp only [decide_eq_true_eq] at h1
    (repeat (first | refine PtrSome_at ?_ | refine andOne ?_ | ((first | apply exSlice | apply exInt | apply exBool | apply exPtr | apply exVal | apply andCell | apply andBd | apply andCan | apply andThere); · exact tC_Kq) | (refine toSet ?_; refine tS_Kq H (fun w H => ?_)) | (refine toSets ?_; refine tG_Kq H (fun w H => ?_)) | refine H.drewK (fun w H => ?_) | refine H.allocK (fun w H => ?_)))
    refine Br_split (fun h2 => ?_) (fun h2 => ⟨?_, H⟩)
    · simp only [decide_eq_true_eq] at h2
      refine Br_split (fun h3 => ?_) (fun h3 => ⟨?_, H⟩)
      · simp only [decide_eq_true_eq] at h3
        (repeat (first | refine PtrSome_at ?_ | refine andOne ?_ | ((first | apply exSlice | apply exInt | apply exBool | apply exPtr | apply exVal | apply andCell | apply andBd | apply andCan | apply andThere); · exact tC_Kq) | (refine toSet ?_; refine tS_Kq H (fun w H => ?_)) | (refine toSets ?_; refine tG_Kq H (fun w H => ?_)) | refine H.drewK (fun w H => ?_) | refine H.allocK (fun w H => ?_)))
        refine ⟨?_, H⟩
        simp [PS.inTA, PS.inT, PS.inA, h1, h2, h3]
      · simp only [decide_eq_false_iff_not] at h3
        simp [PS.inTA, PS.inA, h3]
    · simp only [decide_eq_false_iff_not] at h2
      simp [PS.inTA, PS.inT, h2]
  · simp only [decide_eq_false_iff_not] at h1
    simp [PS.inTA, PS.inT, h1]
theorem inTA_lt {s : PS} {t x : Int} (h : s.inTA t x = true) : (0 ≤ t ∧ t < s.acc.length) ∧ 0 ≤ x ∧ x < s.words.length := by simpa [PS.inTA, PS.inT, PS.inA] using h
theorem cacTouch (a : PA) (s : PS) (hs : s.wf) (t x : Int) (write : Bool) (hin : s.inTA t x = true) :
    ∃ m, Sp Tryz.prog 240 #[ptr a.c, i64 t, i64 x, .bool write] (cacL a s) (.bool m) (cacL a { s with copies := s.cpy t x write, misses := s.mss t x write }) := by
  refine ⟨s.missed t x write, ?_⟩
  intro w0 S w B H
  simp only [memL, cacL, List.cons_append, List.nil_append] at H ⊢
  obtain ⟨⟨h1, h2⟩, h3, h4⟩ := inTA_lt hin
  have e1 := hs.copies; have e2 := hs.misses
  refine callsCacheCacheTouch _ _ _ _ _ _ ?_
  unfold preCacheCacheTouch
  refine (cacThere a s hs t x).go H [] B rfl (fun w H => ?_)
  simp only [memL, cacL, List.cons_append, List.nil_append] at H ⊢
  refine ⟨_, rfl, ?_⟩
  rw [hin]
  simp only [Bool.not_true, Br_false]
  refine ⟨h1, ?_⟩
  (repeat (first | refine PtrSome_at ?_ | refine andOne ?_ | ((first | apply exSlice | apply exInt | apply exBool | apply exPtr | apply exVal | apply andCell | apply andBd | apply andCan | apply andThere); · exact tC_Kq) | (refine toSet ?_; refine tS_Kq H (fun w H => ?_)) | (refine toSets ?_; refine tG_Kq H (fun w H => ?_)) | refine H.drewK (fun w H => ?_) | refine H.allocK (fun w H => ?_)))
  cases write
  · simp only [Br_false]
    refine Br_split (fun h5 => ?_) (fun h5 => ?_)
    · (repeat (first | refine PtrSome_at ?_ | refine andOne ?_ | ((first | apply exSlice | apply exInt | apply exBool | apply exPtr | apply exVal | apply andCell | apply andBd | apply andCan | apply andThere); · exact tC_Kq) | (refine toSet ?_; refine tS_Kq H (fun w H => ?_)) | (refine toSets ?_; refine tG_Kq H (fun w H => ?_)) | refine H.drewK (fun w H => ?_) | refine H.allocK (fun w H => ?_)))
      refine ⟨?_, H.to ?_⟩
      · simp [PS.missed, PS.and64, PS.own]
      · have : s.missed t x false = true := by simpa [PS.missed, PS.and64, PS.own] using h5
        simp [cacL, PS.cpy, PS.mss, this, PS.or64, PS.own]
    · refine ⟨?_, H.to ?_⟩
      · simp [PS.missed, PS.and64, PS.own]
      · have : s.missed t x false = false := by simpa [PS.missed, PS.and64, PS.own] using h5
        simp [cacL, PS.cpy, PS.mss, this, PS.or64, PS.own]
  · simp only [Br_true]
    (repeat (first | refine PtrSome_at ?_ | refine andOne ?_ | ((first | apply exSlice | apply exInt | apply exBool | apply exPtr | apply exVal | apply andCell | apply andBd | apply andCan | apply andThere); · exact tC_Kq) | (refine toSet ?_; refine tS_Kq H (fun w H => ?_)) | (refine toSets ?_; refine tG_Kq H (fun w H => ?_)) | refine H.drewK (fun w H => ?_) | refine H.allocK (fun w H => ?_)))
    refine Br_split (fun h5 => ?_) (fun h5 => ?_)
    · (repeat (first | refine PtrSome_at ?_ | refine andOne ?_ | ((first | apply exSlice | apply exInt | apply exBool | apply exPtr | apply exVal | apply andCell | apply andBd | apply andCan | apply andThere); · exact tC_Kq) | (refine toSet ?_; refine tS_Kq H (fun w H => ?_)) | (refine toSets ?_; refine tG_Kq H (fun w H => ?_)) | refine H.drewK (fun w H => ?_) | refine H.allocK (fun w H => ?_)))
      refine ⟨?_, H.to ?_⟩
      · simp [PS.missed, PS.own]
      · have : s.missed t x true = true := by simpa [PS.missed, PS.own] using h5
        simp [cacL, PS.cpy, PS.mss, this, PS.own]
    · refine ⟨?_, H.to ?_⟩
      · simp [PS.missed, PS.own]
      · have : s.missed t x true = false := by simpa [PS.missed, PS.own] using h5
        simp [cacL, PS.cpy, PS.mss, this, PS.own]

theorem memAt (a : PA) (s : PS) (x : Int) : Sp Tryz.prog 97 #[ptr a.m, i64 x] (memL a s) (.pointer (if s.inA x = true then some ⟨a.wb, x.toNat, none⟩ else none)) (memL a s) := by
  intro w0 S w B H
  (try simp only [List.cons_append, List.nil_append, List.append_assoc, memL, cacL, portL] at H ⊢)
  refine callsMemMem_at _ _ _ _ ?_
  unfold preMemMem_at
  refine Br_split (fun h1 => ?_) (fun h1 => ?_)
  · simp only [decide_eq_true_eq] at h1
    exact ⟨by rw [if_neg (by simp [PS.inA]; omega)], H⟩
  · simp only [decide_eq_false_iff_not] at h1
    (repeat (first | refine PtrSome_at ?_ | refine andOne ?_ | ((first | apply exSlice | apply exInt | apply exBool | apply exPtr | apply exVal | apply andCell | apply andBd | apply andCan | apply andThere); · exact tC_Kq) | (refine toSet ?_; refine tS_Kq H (fun w H => ?_)) | (refine toSets ?_; refine tG_Kq H (fun w H => ?_)) | refine H.drewK (fun w H => ?_) | refine H.allocK (fun w H => ?_)))
    refine Br_split (fun h2 => ?_) (fun h2 => ?_)
    · simp only [decide_eq_true_eq] at h2
      exact ⟨by rw [if_neg (by simp [PS.inA]; omega)], H⟩
    · simp only [decide_eq_false_iff_not] at h2
      (repeat (first | refine PtrSome_at ?_ | refine andOne ?_ | ((first | apply exSlice | apply exInt | apply exBool | apply exPtr | apply exVal | apply andCell | apply andBd | apply andCan | apply andThere); · exact tC_Kq) | (refine toSet ?_; refine tS_Kq H (fun w H => ?_)) | (refine toSets ?_; refine tG_Kq H (fun w H => ?_)) | refine H.drewK (fun w H => ?_) | refine H.allocK (fun w H => ?_)))
      exact ⟨by rw [if_pos (by simp [PS.inA]; omega), Nat.zero_add], H⟩
theorem inA_lt {s : PS} {x : Int} (h : s.inA x = true) : 0 ≤ x ∧ x < s.words.length := by simpa [PS.inA] using h
theorem memHome (a : PA) (s : PS) (hs : s.wf) (x : Int) : Sp Tryz.prog 35 #[ptr a.m, i64 x] (memL a s) (i64 (if s.inA x = true then (s.homes ++ a.more).getD x.toNat 0 else 0)) (memL a s) := by
  intro w0 S w B H
  refine callsMemMemHome _ _ _ _ ((memAt a s x).go H [] B rfl (fun w H => ⟨_, rfl, ?_⟩))
  have e1 := hs.homes
  by_cases hx : s.inA x = true
  · obtain ⟨h1, h2⟩ := inA_lt hx
    simp only [hx, if_true, Option.isNone_some, Br_false]
    (try simp only [List.cons_append, List.nil_append, List.append_assoc, memL, cacL, portL] at H ⊢)
    (repeat (first | refine PtrSome_at ?_ | refine andOne ?_ | ((first | apply exSlice | apply exInt | apply exBool | apply exPtr | apply exVal | apply andCell | apply andBd | apply andCan | apply andThere); · exact tC_Kq) | (refine toSet ?_; refine tS_Kq H (fun w H => ?_)) | (refine toSets ?_; refine tG_Kq H (fun w H => ?_)) | refine H.drewK (fun w H => ?_) | refine H.allocK (fun w H => ?_)))
    exact ⟨rfl, H⟩
  · simp only [hx, if_false, Option.isNone_none, Br_true]
    exact ⟨rfl, H⟩
theorem memLoad (a : PA) (s : PS) (x : Int) : Sp Tryz.prog 215 #[ptr a.m, i64 x] (memL a s) (u32 (if s.inA x = true then s.word x else 0)) (memL a s) := by
  intro w0 S w B H
  refine callsMemMemLoad _ _ _ _ ((memAt a s x).go H [] B rfl (fun w H => ⟨_, rfl, ?_⟩))
  by_cases hx : s.inA x = true
  · obtain ⟨h1, h2⟩ := inA_lt hx
    simp only [hx, if_true, Option.isNone_some, Bool.not_false, Br_true]
    (try simp only [List.cons_append, List.nil_append, List.append_assoc, memL, cacL, portL] at H ⊢)
    refine (uLoad (x := s.word x) (by have := H.cellI 1 rfl (show x.toNat < s.words.length by omega); rwa [Nat.zero_add] at this)).mono ?_
    rintro e w2 ⟨rfl, rfl⟩
    exact ⟨_, rfl, rfl, H⟩
  · simp only [hx, if_false, Option.isNone_none, Bool.not_true, Br_false]
    exact ⟨rfl, H⟩
theorem memStore (a : PA) (s : PS) (x v : Int) : Sp Tryz.prog 184 #[ptr a.m, i64 x, u32 v] (memL a s) (.tuple #[]) (memL a (if s.inA x = true then s.put x v else s)) := by
  intro w0 S w B H
  refine callsMemMemStore _ _ _ _ _ ((memAt a s x).go H [] B rfl (fun w H => ⟨_, rfl, ?_⟩))
  by_cases hx : s.inA x = true
  · obtain ⟨h1, h2⟩ := inA_lt hx
    simp only [hx, if_true, Option.isNone_some, Bool.not_false, Br_true]
    (try simp only [List.cons_append, List.nil_append, List.append_assoc, memL, cacL, portL] at H ⊢)
    refine (uStore (x := s.word x) (by have := H.cellI 1 rfl (show x.toNat < s.words.length by omega); rwa [Nat.zero_add] at this) (H.frz 1 rfl _) v).mono ?_
    rintro e w2 ⟨rfl, hw⟩
    rw [← Nat.zero_add x.toNat] at hw
    revert w2
    (refine toSet ?_; refine tS_Kq H (fun w H => ?_))
    refine ⟨by trivial, by trivial, H.to ?_⟩
    simp [PS.put]
  · simp only [hx, if_false, Option.isNone_none, Bool.not_true, Br_false]
    exact ⟨by trivial, H⟩
theorem memSwap (a : PA) (s : PS) (x v : Int) : Sp Tryz.prog 300 #[ptr a.m, i64 x, u32 v] (memL a s) (u32 (if s.inA x = true then s.word x else 0)) (memL a (if s.inA x = true then s.put x v else s)) := by
  intro w0 S w B H
  refine callsMemMemSwap _ _ _ _ _ ((memAt a s x).go H [] B rfl (fun w H => ⟨_, rfl, ?_⟩))
  by_cases hx : s.inA x = true
  · obtain ⟨h1, h2⟩ := inA_lt hx
    simp only [hx, if_true, Option.isNone_some, Bool.not_false, Br_true]
    (try simp only [List.cons_append, List.nil_append, List.append_assoc, memL, cacL, portL] at H ⊢)
    refine (uSwap (x := s.word x) (by have := H.cellI 1 rfl (show x.toNat < s.words.length by omega); rwa [Nat.zero_add] at this) (H.frz 1 rfl _) v).mono ?_
    rintro e w2 ⟨rfl, hw⟩
    rw [← Nat.zero_add x.toNat] at hw
    revert w2
    (refine toSet ?_; refine tS_Kq H (fun w H => ?_))
    refine ⟨_, rfl, rfl, H.to ?_⟩
    simp [PS.put]
  · simp only [hx, if_false, Option.isNone_none, Bool.not_true, Br_false]
    exact ⟨rfl, H⟩
theorem memCas (a : PA) (s : PS) (x old v : Int) (hx : s.inA x = true) : Sp Tryz.prog 309 #[ptr a.m, i64 x, u32 old, u32 v] (memL a s) (.bool (decide (s.word x = old))) (memL a (if s.word x = old then s.put x v else s)) := by
  intro w0 S w B H
  refine callsMemMemCas _ _ _ _ _ _ ((memAt a s x).go H [] B rfl (fun w H => ⟨_, rfl, ?_⟩))
  obtain ⟨h1, h2⟩ := inA_lt hx
  simp only [hx, if_true, Option.isNone_some, Bool.not_false, Br_true]
  (try simp only [List.cons_append, List.nil_append, List.append_assoc, memL, cacL, portL] at H ⊢)
  refine (uCas (x := s.word x) (by have := H.cellI 1 rfl (show x.toNat < s.words.length by omega); rwa [Nat.zero_add] at this) (H.frz 1 rfl _) old v).mono ?_
  rintro e w2 ⟨rfl, hw⟩
  by_cases h3 : s.word x = old
  · rw [if_pos h3] at hw
    rw [← Nat.zero_add x.toNat] at hw
    revert w2
    (refine toSet ?_; refine tS_Kq H (fun w H => ?_))
    refine ⟨_, rfl, rfl, H.to ?_⟩
    simp [PS.put, h3]
  · rw [if_neg h3] at hw
    subst hw
    refine ⟨_, rfl, rfl, H.to ?_⟩
    simp [h3]
theorem memAdd (a : PA) (s : PS) (x v : Int) (hx : s.inA x = true) : Sp Tryz.prog 292 #[ptr a.m, i64 x, u32 v] (memL a s) (u32 (IntKind.u32.wrap (IntKind.u32.wrap (s.word x + v) - v))) (memL a (s.put x (IntKind.u32.wrap (s.word x + v)))) := by
  intro w0 S w B H
  refine callsMemMemAdd _ _ _ _ _ ((memAt a s x).go H [] B rfl (fun w H => ⟨_, rfl, ?_⟩))
  obtain ⟨h1, h2⟩ := inA_lt hx
  simp only [hx, if_true, Option.isNone_some, Bool.not_false, Br_true]
  (try simp only [List.cons_append, List.nil_append, List.append_assoc, memL, cacL, portL] at H ⊢)
  refine (uAdd (x := s.word x) (by have := H.cellI 1 rfl (show x.toNat < s.words.length by omega); rwa [Nat.zero_add] at this) (H.frz 1 rfl _) v).mono ?_
  rintro e w2 ⟨rfl, hw⟩
  rw [← Nat.zero_add x.toNat] at hw
  revert w2
  (refine toSet ?_; refine tS_Kq H (fun w H => ?_))
  refine ⟨_, rfl, rfl, H.to ?_⟩
  simp [PS.put]

/-! ## The port -/
theorem portL_eq (a : PA) (s : PS) (B : Blocks) : portL a s ++ B = [(a.p, [ptr a.m, ptr a.c, slv a.ab s.acc.length]), (a.ab, rows accRow s.acc)] ++ (memL a s ++ (cacL a s ++ B)) := by simp [portL]
theorem portTouch (a : PA) (s : PS) (hs : s.wf) (t x : Int) (write : Bool) : Sp Tryz.prog 214 #[ptr a.p, i64 t, i64 x, .bool write] (portL a s) (.bool (s.inTA t x)) (portL a (if s.inTA t x = true then s.touch t x write else s)) := by
  intro w0 S w B H
  (try simp only [List.cons_append, List.nil_append, List.append_assoc, memL, cacL, portL] at H ⊢)
  refine callsPortPort_touch _ _ _ _ _ _ ?_
  unfold prePortPort_touch
  by_cases hin : s.inTA t x = true
  · obtain ⟨⟨h1, h2⟩, h3, h4⟩ := inTA_lt hin
    obtain ⟨m, hm⟩ := cacTouch a s hs t x write hin
    rw [hin]
    refine Br_f (by omega) ?_
    (repeat (first | refine PtrSome_at ?_ | refine andOne ?_ | ((first | apply exSlice | apply exInt | apply exBool | apply exPtr | apply exVal | apply andCell | apply andBd | apply andCan | apply andThere); · exact tC_Kq) | (refine toSet ?_; refine tS_Kq H (fun w H => ?_)) | (refine toSets ?_; refine tG_Kq H (fun w H => ?_)) | refine H.drewK (fun w H => ?_) | refine H.allocK (fun w H => ?_)))
    refine Br_f (by omega) (Br_f (by omega) ?_)
    (repeat (first | refine PtrSome_at ?_ | refine andOne ?_ | ((first | apply exSlice | apply exInt | apply exBool | apply exPtr | apply exVal | apply andCell | apply andBd | apply andCan | apply andThere); · exact tC_Kq) | (refine toSet ?_; refine tS_Kq H (fun w H => ?_)) | (refine toSets ?_; refine tG_Kq H (fun w H => ?_)) | refine H.drewK (fun w H => ?_) | refine H.allocK (fun w H => ?_)))
    refine (memLenS a s).go H [_, _] (cacL a s ++ B) rfl (fun w H => ⟨_, rfl, ?_⟩)
    (try simp only [List.cons_append, List.nil_append, List.append_assoc, memL, cacL, portL] at H ⊢)
    refine Br_f (by omega) ?_
    (repeat (first | refine PtrSome_at ?_ | refine andOne ?_ | ((first | apply exSlice | apply exInt | apply exBool | apply exPtr | apply exVal | apply andCell | apply andBd | apply andCan | apply andThere); · exact tC_Kq) | (refine toSet ?_; refine tS_Kq H (fun w H => ?_)) | (refine toSets ?_; refine tG_Kq H (fun w H => ?_)) | refine H.drewK (fun w H => ?_) | refine H.allocK (fun w H => ?_)))
    cases write
    · simp only [Br_false]
      (repeat (first | refine PtrSome_at ?_ | refine andOne ?_ | ((first | apply exSlice | apply exInt | apply exBool | apply exPtr | apply exVal | apply andCell | apply andBd | apply andCan | apply andThere); · exact tC_Kq) | (refine toSet ?_; refine tS_Kq H (fun w H => ?_)) | (refine toSets ?_; refine tG_Kq H (fun w H => ?_)) | refine H.drewK (fun w H => ?_) | refine H.allocK (fun w H => ?_)))
      refine hm.go H [_, _, _, _, _] B rfl (fun w H => ⟨_, rfl, by trivial, H.to ?_⟩)
      simp [PS.touch, PS.cnt, memL, cacL, show t.toNat < s.acc.length by omega]
    · simp only [Br_true]
      (repeat (first | refine PtrSome_at ?_ | refine andOne ?_ | ((first | apply exSlice | apply exInt | apply exBool | apply exPtr | apply exVal | apply andCell | apply andBd | apply andCan | apply andThere); · exact tC_Kq) | (refine toSet ?_; refine tS_Kq H (fun w H => ?_)) | (refine toSets ?_; refine tG_Kq H (fun w H => ?_)) | refine H.drewK (fun w H => ?_) | refine H.allocK (fun w H => ?_)))
      refine hm.go H [_, _, _, _, _] B rfl (fun w H => ⟨_, rfl, by trivial, H.to ?_⟩)
      simp [PS.touch, PS.cnt, memL, cacL, show t.toNat < s.acc.length by omega]
  · have hn : ¬ ((0 ≤ t ∧ t < s.acc.length) ∧ 0 ≤ x ∧ x < s.words.length) := fun h => hin (by simpa [PS.inTA, PS.inT, PS.inA] using h)
    rw [Bool.not_eq_true] at hin
    rw [hin]
    simp only [Bool.false_eq_true, if_false]
    refine Br_split (fun h1 => ⟨by trivial, H⟩) (fun h1 => ?_)
    simp only [decide_eq_false_iff_not] at h1
    (repeat (first | refine PtrSome_at ?_ | refine andOne ?_ | ((first | apply exSlice | apply exInt | apply exBool | apply exPtr | apply exVal | apply andCell | apply andBd | apply andCan | apply andThere); · exact tC_Kq) | (refine toSet ?_; refine tS_Kq H (fun w H => ?_)) | (refine toSets ?_; refine tG_Kq H (fun w H => ?_)) | refine H.drewK (fun w H => ?_) | refine H.allocK (fun w H => ?_)))
    refine Br_split (fun h2 => ⟨by trivial, H⟩) (fun h2 => ?_)
    simp only [decide_eq_false_iff_not] at h2
    refine Br_split (fun h3 => ⟨by trivial, H⟩) (fun h3 => ?_)
    simp only [decide_eq_false_iff_not] at h3
    (repeat (first | refine PtrSome_at ?_ | refine andOne ?_ | ((first | apply exSlice | apply exInt | apply exBool | apply exPtr | apply exVal | apply andCell | apply andBd | apply andCan | apply andThere); · exact tC_Kq) | (refine toSet ?_; refine tS_Kq H (fun w H => ?_)) | (refine toSets ?_; refine tG_Kq H (fun w H => ?_)) | refine H.drewK (fun w H => ?_) | refine H.allocK (fun w H => ?_)))
    refine (memLenS a s).go H [_, _] (cacL a s ++ B) rfl (fun w H => ⟨_, rfl, ?_⟩)
    (try simp only [List.cons_append, List.nil_append, List.append_assoc, memL, cacL, portL] at H ⊢)
    exact Br_t (by omega) ⟨by trivial, H⟩
theorem inTA_A {s : PS} {t x : Int} (h : s.inTA t x = true) : s.inA x = true := by
  rw [PS.inTA, Bool.and_eq_true] at h; exact h.2
@[simp] theorem touch_inA (s : PS) (t x : Int) (b : Bool) (y : Int) : (s.touch t x b).inA y = s.inA y := rfl
@[simp] theorem touch_word (s : PS) (t x : Int) (b : Bool) (y : Int) : (s.touch t x b).word y = s.word y := rfl
section
variable (a : PA) (s : PS) (hs : s.wf) (t x : Int)
include hs
theorem portLoad : Sp Tryz.prog 200 #[ptr a.p, i64 t, i64 x] (portL a s) (u32 (s.loadV t x)) (portL a (s.load t x)) := by
  intro w0 S w B H
  refine callsPortPortLoad _ _ _ _ _ ?_
  refine (portTouch a s hs t x false).go H [] B rfl (fun w H => ⟨_, rfl, ?_⟩)
  unfold PS.loadV PS.load
  cases hin : s.inTA t x
  · simp only [Bool.not_false, Br_true, Bool.false_eq_true, if_false]
    exact ⟨by trivial, by simpa [hin] using H⟩
  · simp only [hin, Bool.not_true, Br_false, if_true, List.nil_append] at H ⊢
    refine exPtr (H.cell 0 rfl rfl) ?_
    refine (memLoad a (s.touch t x false) x).go H _ _ (portL_eq a (s.touch t x false) B) (fun w H => ⟨_, rfl, ?_⟩)
    refine ⟨?_, H.to (by simp [portL])⟩
    simp [inTA_A hin]
theorem portStore (v : Int) : Sp Tryz.prog 216 #[ptr a.p, i64 t, i64 x, u32 v] (portL a s) (.tuple #[]) (portL a (s.store t x v)) := by
  intro w0 S w B H
  refine callsPortPortStore _ _ _ _ _ _ ?_
  refine (portTouch a s hs t x true).go H [] B rfl (fun w H => ⟨_, rfl, ?_⟩)
  unfold PS.store
  cases hin : s.inTA t x
  · simp only [Br_false, Bool.false_eq_true, if_false]
    exact ⟨by trivial, by simpa [hin] using H⟩
  · simp only [hin, Br_true, if_true, List.nil_append] at H ⊢
    refine exPtr (H.cell 0 rfl rfl) ?_
    refine (memStore a (s.touch t x true) x v).go H _ _ (portL_eq a (s.touch t x true) B) (fun w H => ⟨rfl, ?_⟩)
    refine ⟨by trivial, H.to ?_⟩
    simp [portL, inTA_A hin, memL, cacL, PS.put]
theorem portSwap (v : Int) : Sp Tryz.prog 299 #[ptr a.p, i64 t, i64 x, u32 v] (portL a s) (u32 (s.loadV t x)) (portL a (s.store t x v)) := by
  intro w0 S w B H
  refine callsPortPortSwap _ _ _ _ _ _ ?_
  refine (portTouch a s hs t x true).go H [] B rfl (fun w H => ⟨_, rfl, ?_⟩)
  unfold PS.store PS.loadV
  cases hin : s.inTA t x
  · simp only [Bool.not_false, Br_true, Bool.false_eq_true, if_false]
    exact ⟨by trivial, by simpa [hin] using H⟩
  · simp only [hin, Bool.not_true, Br_false, if_true, List.nil_append] at H ⊢
    refine exPtr (H.cell 0 rfl rfl) ?_
    refine (memSwap a (s.touch t x true) x v).go H _ _ (portL_eq a (s.touch t x true) B) (fun w H => ⟨_, rfl, ?_⟩)
    refine ⟨by simp [inTA_A hin], H.to ?_⟩
    simp [portL, inTA_A hin, memL, cacL, PS.put]
theorem portCas (old v : Int) : Sp Tryz.prog 308 #[ptr a.p, i64 t, i64 x, u32 old, u32 v] (portL a s) (.bool (s.casV t x old)) (portL a (s.cas t x old v)) := by
  intro w0 S w B H
  refine callsPortPortCas _ _ _ _ _ _ _ ?_
  refine (portTouch a s hs t x true).go H [] B rfl (fun w H => ⟨_, rfl, ?_⟩)
  unfold PS.cas PS.casV
  cases hin : s.inTA t x
  · simp only [Br_false, Bool.false_eq_true, if_false, Bool.false_and]
    exact ⟨by trivial, by simpa [hin] using H⟩
  · simp only [hin, Br_true, if_true, List.nil_append, Bool.true_and] at H ⊢
    refine exPtr (H.cell 0 rfl rfl) ?_
    refine (memCas a (s.touch t x true) x old v (show s.inA x = true from inTA_A hin)).go H _ _ (portL_eq a (s.touch t x true) B) (fun w H => ⟨_, rfl, ?_⟩)
    refine ⟨by simp only [touch_word]; first | rfl | congr, H.to ?_⟩
    by_cases h : s.word x = old <;> simp [portL, memL, cacL, PS.put, h]
theorem portAdd (v : Int) : Sp Tryz.prog 291 #[ptr a.p, i64 t, i64 x, u32 v] (portL a s) (u32 (s.addV t x v)) (portL a (s.add t x v)) := by
  intro w0 S w B H
  refine callsPortPortAdd _ _ _ _ _ _ ?_
  refine (portTouch a s hs t x true).go H [] B rfl (fun w H => ⟨_, rfl, ?_⟩)
  unfold PS.add PS.addV
  cases hin : s.inTA t x
  · simp only [Bool.not_false, Br_true, Bool.false_eq_true, if_false]
    exact ⟨by trivial, by simpa [hin] using H⟩
  · simp only [hin, Bool.not_true, Br_false, if_true, List.nil_append] at H ⊢
    refine exPtr (H.cell 0 rfl rfl) ?_
    refine (memAdd a (s.touch t x true) x v (show s.inA x = true from inTA_A hin)).go H _ _ (portL_eq a (s.touch t x true) B) (fun w H => ⟨_, rfl, ?_⟩)
    refine ⟨by simp, H.to ?_⟩
    simp [portL, inTA_A hin, memL, cacL, PS.put]
end
end Go.Proofs.YtollfjfcdofbaaaGreat
