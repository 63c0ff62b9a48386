/- The lock of locks: what its steps keep; its step, whole. -/
import Derived.Test.YtollfjfcdofbaaaGreatLe
namespace Go.Proofs.YtollfjfcdofbaaaGreat
open Go Go.Proofs
set_option linter.unusedSimpArgs false
set_option linter.unusedVariables false
set_option maxRecDepth 100000
set_option maxHeartbeats 4000000
-- NB 4
-- ROW coRow 4
-- NOX coRow
-- NSET co_t0, co_t1, co_t2, co_t3, co_t4, co_t5, co_t6, co_t7, co_t8, co_t9, co_t10, co_pass

structure CS.Keep (s s' : CS) : Prop where
  ss : s'.ss = s.ss
  len : s'.places.length = s.places.length
  ll : s'.locs.length = s.locs.length
  node : ∀ t, (s'.pl t).node = (s.pl t).node
  inner : ∀ t, (s'.pl t).inner = (s.pl t).inner
  there : ∀ (c : Nat) (x : LI), s.locs[c]? = some (some x) → ∃ y, s'.locs[c]? = some (some y)
  pass : s'.pass = s.pass
  budget : s'.budget = s.budget
namespace CS
theorem Keep.refl (s : CS) : s.Keep s := ⟨rfl, rfl, rfl, fun _ => rfl, fun _ => rfl, fun _ x h => ⟨x, h⟩, rfl, rfl⟩
theorem Keep.trans {s s' s'' : CS} (h : s.Keep s') (k : s'.Keep s'') : s.Keep s'' :=
  ⟨k.ss.trans h.ss, k.len.trans h.len, k.ll.trans h.ll, fun t => (k.node t).trans (h.node t), fun t => (k.inner t).trans (h.inner t), fun c x hx => let ⟨y, hy⟩ := h.there c x hx; k.there c y hy, k.pass.trans h.pass, k.budget.trans h.budget⟩
theorem Keep.ok {s s' : CS} (h : s.Keep s') (ho : s.ok) : s'.ok := by
  refine ⟨by rw [h.len, h.ss]; exact ho.len, by rw [h.ll]; exact ho.eight, fun t ht => ?_⟩
  rw [h.ss] at ht
  obtain ⟨h1, x, h2⟩ := ho.node t ht
  rw [h.node]
  exact ⟨h1, h.there _ _ h2⟩
theorem put_pl (s : CS) (t t' : Int) (x : CPl) : (s.put t x).pl t' = if t.toNat = t'.toNat ∧ t.toNat < s.places.length then x else s.pl t' := by
  simp only [put, pl, List.getD_eq_getElem?_getD, List.getElem?_set]
  by_cases h1 : t.toNat = t'.toNat
  · by_cases h2 : t.toNat < s.places.length
    · simp [h1, h2, h1 ▸ h2]
    · have : s.places[t'.toNat]? = none := by rw [← h1]; exact List.getElem?_eq_none (by omega)
      simp [h1, h2, this]
      rw [h1] at h2; simp [h2]
  · simp [h1]
theorem put_keep (s : CS) (t : Int) (x : CPl) (hn : x.node = (s.pl t).node) (hi : x.inner = (s.pl t).inner) : s.Keep (s.put t x) := by
  refine ⟨rfl, by simp [put], rfl, fun t' => ?_, fun t' => ?_, fun _ x h => ⟨x, h⟩, rfl, rfl⟩
  · rw [put_pl]; split
    · rename_i h; rw [hn]; simp only [pl, h.1]
    · rfl
  · rw [put_pl]; split
    · rename_i h; rw [hi]; simp only [pl, h.1]
    · rfl
theorem todo_keep (s : CS) (t : Int) (k : Nat) : s.Keep (s.todo t k) := put_keep s t _ rfl rfl
theorem setLoc_keep (s : CS) (t : Int) (x : LI) : s.Keep (s.setLoc t x) := by
  refine ⟨rfl, rfl, by simp [setLoc], fun _ => rfl, fun _ => rfl, fun c y hy => ?_, rfl, rfl⟩
  simp only [setLoc, List.getElem?_set]
  split
  · rename_i h
    subst h
    rw [if_pos (List.getElem?_eq_some_iff.1 hy).1]
    exact ⟨x, rfl⟩
  · exact ⟨y, hy⟩
theorem glob_keep (s : CS) (g : LI) : s.Keep { s with glob := g } := ⟨rfl, rfl, rfl, fun _ => rfl, fun _ => rfl, fun _ x h => ⟨x, h⟩, rfl, rfl⟩
theorem put_fits {a : CA} {s : CS} (h : s.fits a) (t : Int) (x : CPl) : (s.put t x).fits a := ⟨h.glob, h.gwf, h.locs, h.pg, h.pl⟩
theorem glob_fits {a : CA} {s : CS} (h : s.fits a) {g : LI} (h1 : LI.fits a.glob s.glob → LI.fits a.glob g) (h2 : s.glob.wf → g.wf) : CS.fits a { s with glob := g } := ⟨h1 h.glob, h2 h.gwf, h.locs, h.pg, h.pl⟩
theorem setLoc_fits {a : CA} {s : CS} (h : s.fits a) (ho : s.ok) {t : Int} (ht : s.ss.there t = true) {x : LI} (h1 : ∀ a1, LI.fits a1 (s.loc t) → LI.fits a1 x) (h2 : (s.loc t).wf → x.wf) : (s.setLoc t x).fits a := by
  obtain ⟨hn, y, hy⟩ := ho.node t ht
  obtain ⟨a1, X, Y, ha1, hfx, hwx, hset, hfit⟩ := locs_at h.locs hy
  have hloc : s.loc t = y := by simp [CS.loc, List.getD_eq_getElem?_getD, hy]
  rw [hloc] at h1 h2
  exact ⟨h.glob, h.gwf, hfit x (h1 a1 hfx) (h2 hwx), h.pg, h.pl⟩
theorem setS_fits {s : LI} {x : SS} (a1 : LIA) (h : LI.fits a1 s) : LI.fits a1 (s.setS x) := LI.fits_setS h x
theorem away_both {a : CA} {s : CS} (h : s.fits a) (ho : s.ok) {t : Int} (ht : s.ss.there t = true) : s.Keep (s.away t) ∧ (s.away t).fits a :=
  ⟨(setLoc_keep _ _ _).trans (todo_keep _ _ _), put_fits (setLoc_fits h ho ht (fun a1 h => LI.fits_setS h _) (fun h => LI.setS_wf h (by simp))) _ _⟩
theorem doS_both {a : CA} {s : CS} (h : s.fits a) (ho : s.ok) (p : PS) {t u : Int} (ht : s.ss.there t = true) (k : Nat) : s.Keep (s.doS p t u k) ∧ (s.doS p t u k).fits a := by
  have hls : (s.setLoc t ((s.loc t).stepS p (s.pl t).inner u)).fits a := setLoc_fits h ho ht (fun a1 h => LI.fits_stepS h _ _ _) (fun h => LI.stepS_wf h _ _ _)
  have hgs : CS.fits a { s with glob := s.glob.stepS p (s.pl t).node u } := glob_fits h (fun h => LI.fits_stepS h _ _ _) (fun h => LI.stepS_wf h _ _ _)
  unfold CS.doS
  split
  · split
    · exact ⟨(setLoc_keep _ _ _).trans (todo_keep _ _ _), put_fits hls _ _⟩
    · exact ⟨setLoc_keep _ _ _, hls⟩
  · split
    · exact ⟨(glob_keep _ _).trans (todo_keep _ _ _), put_fits (glob_fits h (fun h => LI.fits_setS h _) (fun h => LI.setS_wf h (by simp))) _ _⟩
    · exact ⟨Keep.refl _, h⟩
  · split
    · exact ⟨(glob_keep _ _).trans (todo_keep _ _ _), put_fits hgs _ _⟩
    · exact ⟨glob_keep _ _, hgs⟩
  · exact ⟨Keep.refl _, h⟩
  · split
    · exact ⟨(setLoc_keep s t _).trans (put_keep _ _ _ rfl rfl), put_fits (setLoc_fits h ho ht (fun a1 h => LI.fits_setS h _) (fun h => LI.setS_wf h (by simp))) _ _⟩
    · exact ⟨put_keep _ _ _ rfl rfl, put_fits h _ _⟩
  · split
    · exact ⟨(setLoc_keep _ _ _).trans (todo_keep _ _ _), put_fits hls _ _⟩
    · exact ⟨(setLoc_keep _ _ _).trans (todo_keep _ _ _), put_fits hls _ _⟩
  · exact away_both h ho ht
  · exact ⟨(glob_keep _ _).trans (todo_keep _ _ _), put_fits (glob_fits h (fun h => LI.fits_setS h _) (fun h => LI.setS_wf h (by simp))) _ _⟩
  · split
    · have := away_both hgs ((glob_keep s _).ok ho) ht
      exact ⟨(glob_keep s _).trans this.1, this.2⟩
    · exact ⟨glob_keep _ _, hgs⟩
  · exact ⟨setLoc_keep _ _ _, hls⟩
  · exact ⟨Keep.refl _, h⟩
theorem begin_both {a : CA} {s : CS} (h : s.fits a) (ho : s.ok) {t : Int} (ht : s.ss.there t = true) : s.Keep (s.begin t) ∧ (s.begin t).fits a := by
  unfold CS.begin
  split
  · exact ⟨todo_keep _ _ _, put_fits h _ _⟩
  · exact ⟨(setLoc_keep _ _ _).trans (todo_keep _ _ _), put_fits (setLoc_fits h ho ht (fun a1 h => LI.fits_setS h _) (fun h => LI.setS_wf h (by simp))) _ _⟩
theorem doP_wf {s : CS} {p : PS} (h : p.wf) (t u : Int) (k : Nat) : (s.doP p t u k).wf := by
  unfold CS.doP
  split
  all_goals first | exact h | exact LI.stepP_wf h _ _ | exact PS.load_wf h _ _ | exact PS.store_wf h _ _ _
theorem begin_todo (s : CS) (t : Int) (h : t.toNat < s.places.length) : ((s.begin t).pl t).todo = if s.ss.state t = 3 then 5 else 1 := by
  unfold CS.begin
  split
  · rw [todo, put_pl, if_pos ⟨rfl, h⟩]
  · rw [todo, put_pl, if_pos ⟨rfl, h⟩]
end CS
theorem callV_func {P : Program} {g : FuncId} {args : List Value} {R : Ending → World → Prop} {w : World} (hb : hasBody P g = true) (hc : CallOk P g = true) (h : Calls P g args.toArray w R) : CallV P (.func (.func g) #[] #[]) args R w := by
  unfold CallV
  simp only [List.nil_append, List.append_nil]
  unfold callQ
  rw [hb, hc]; exact h
/-- whatever is to be done, done -/
theorem cohDo (a : CA) (s : CS) (p : PS) (hf : s.fits a) (ho : s.ok) (hp : p.wf) (t u now : Int) (ht : s.ss.there t = true) (k : Nat) (h1 : 1 ≤ k) (h2 : k ≤ 10)
    {w0 w : World} {S : List Nat} {L : Blocks} {K : Ending → World → Prop} (H : St w0 S w L) (X B : Blocks) (hL : L = X ++ ((cohL a s ++ portL a.pa p) ++ B))
    (kk : ∀ w', St w0 S w' (X ++ ((cohL a (s.doS p t u k) ++ portL a.pa (s.doP p t u k)) ++ B)) → K (.returned (didV (s.doE p t u k))) w') :
    CallV Tryz.prog (todoV k) [ptr a.l, .pointer (some ⟨a.rb, 0 + t.toNat * 4, none⟩), i64 u, i64 now] K w := by
  match k, h1, h2 with
  | 1, _, _ => exact callV_func (by kernel_rfl) (by kernel_rfl) ((cohLocal a s p hf ho hp t u now ht).go H X B hL kk)
  | 2, _, _ => exact callV_func (by kernel_rfl) (by kernel_rfl) ((cohLook a s p hf ho hp t u now ht).go H X B hL kk)
  | 3, _, _ => exact callV_func (by kernel_rfl) (by kernel_rfl) ((cohWide a s p hf ho hp t u now ht).go H X B hL kk)
  | 4, _, _ => exact callV_func (by kernel_rfl) (by kernel_rfl) ((cohFirst a s p hf ho hp t u now ht).go H X B hL kk)
  | 5, _, _ => exact callV_func (by kernel_rfl) (by kernel_rfl) ((cohCount a s p hf ho hp t u now ht).go H X B hL kk)
  | 6, _, _ => exact callV_func (by kernel_rfl) (by kernel_rfl) ((cohProbe a s p hf ho hp t u now ht).go H X B hL kk)
  | 7, _, _ => exact callV_func (by kernel_rfl) (by kernel_rfl) ((cohMore a s p hf ho hp t u now ht).go H X B hL kk)
  | 8, _, _ => exact callV_func (by kernel_rfl) (by kernel_rfl) ((cohFinish a s p hf ho hp t u now ht).go H X B hL kk)
  | 9, _, _ => exact callV_func (by kernel_rfl) (by kernel_rfl) ((cohLeave a s p hf ho hp t u now ht).go H X B hL kk)
  | 10, _, _ => exact callV_func (by kernel_rfl) (by kernel_rfl) ((cohOut a s p hf ho hp t u now ht).go H X B hL kk)
theorem tC_Lf {P : Prop} (h : P := by (first | ((first | refine bkCell (H.bkAt 0 rfl) ?_ | refine bkCell (H.bkAt 1 rfl) ?_ | refine bkCell (H.bkAt 2 rfl) ?_ | refine bkCell (H.bkAt 3 rfl) ?_); (first | rfl | ((first | refine ints_at0 ?_ | refine bools_at0 ?_ | refine rows_at1 (f := accRow) (s := 2) (fun _ => rfl) (by decide) ?_ rfl | refine rows_at0 (f := accRow) (s := 2) (fun _ => rfl) (by decide) ?_ rfl | refine rows_at1 (f := coRow) (s := 4) (fun _ => rfl) (by decide) ?_ rfl | refine rows_at0 (f := coRow) (s := 4) (fun _ => rfl) (by decide) ?_ rfl); first | omega | assumption | (simp only [List.length_set, List.length_append, List.length_cons, List.length_nil, List.length_map, List.length_replicate, List.length_drop, List.length_take]; omega)))) | ((first | refine bkCan (H.bkAt 0 rfl) ?_ | refine bkCan (H.bkAt 1 rfl) ?_ | refine bkCan (H.bkAt 2 rfl) ?_ | refine bkCan (H.bkAt 3 rfl) ?_); (first | decide | ((first | refine ints_lt ?_ | refine bools_lt ?_ | refine rows_lt1 (f := accRow) (s := 2) (fun _ => rfl) (by decide) ?_ | refine rows_lt0 (f := accRow) (s := 2) (fun _ => rfl) (by decide) ?_ | refine rows_lt1 (f := coRow) (s := 4) (fun _ => rfl) (by decide) ?_ | refine rows_lt0 (f := coRow) (s := 4) (fun _ => rfl) (by decide) ?_); first | omega | assumption | (simp only [List.length_set, List.length_append, List.length_cons, List.length_nil, List.length_map, List.length_replicate, List.length_drop, List.length_take]; omega)) | (simp only [List.length_cons, List.length_nil]; omega))) | ((first | refine bkThere (H.bkAt 0 rfl) ?_ | refine bkThere (H.bkAt 1 rfl) ?_ | refine bkThere (H.bkAt 2 rfl) ?_ | refine bkThere (H.bkAt 3 rfl) ?_); (first | decide | (simp only [List.length_cons, List.length_nil]; omega) | (refine rows_le (f := accRow) (s := 2) (fun _ => rfl) ?_; first | omega | assumption | (simp only [List.length_set, List.length_append, List.length_cons, List.length_nil, List.length_map, List.length_replicate, List.length_drop, List.length_take]; omega)) | (refine rows_le (f := coRow) (s := 4) (fun _ => rfl) ?_; first | omega | assumption | (simp only [List.length_set, List.length_append, List.length_cons, List.length_nil, List.length_map, List.length_replicate, List.length_drop, List.length_take]; omega)))) | exact ⟨by omega, by omega⟩)) : P := h
theorem tS_Lf {w0 w : World} {S : List Nat} {L L' : Blocks} {b o : Nat} {v : Value} {K : World → Prop} (H : St w0 S w L) (k : ∀ w', St w0 S w' L' → K w') (h : SetG w b o v (fun w' => St w0 S w' L') := by ((first | refine bkSet H 0 rfl (fun w H => ?_) | refine bkSet H 1 rfl (fun w H => ?_) | refine bkSet H 2 rfl (fun w H => ?_) | refine bkSet H 3 rfl (fun w H => ?_)); (try simp only [List.set_cons_succ, List.set_cons_zero, ints_set0, bools_set0, pair_set0, pair_set1, co_t0, co_t1, co_t2, co_t3, co_t4, co_t5, co_t6, co_t7, co_t8, co_t9, co_t10, co_pass] at H); exact H)) : SetG w b o v K := k _ h
theorem tG_Lf {w0 w : World} {S : List Nat} {L L' : Blocks} {b o : Nat} {vs : List Value} {K : World → Prop} (H : St w0 S w L) (k : ∀ w', St w0 S w' L' → K w') (h : SetsG w b o vs (fun w' => St w0 S w' L') := by ((first | refine bkSetsF H 0 rfl rfl (fun w H => ?_) | refine bkSetsF H 1 rfl rfl (fun w H => ?_) | refine bkSetsF H 2 rfl rfl (fun w H => ?_) | refine bkSetsF H 3 rfl rfl (fun w H => ?_) | (refine bkSetsP H 0 rfl ?_ (fun w H => ?_); · first | omega | assumption | (simp only [List.length_set, List.length_append, List.length_cons, List.length_nil, List.length_map, List.length_replicate, List.length_drop, List.length_take]; omega)) | (refine bkSetsP H 1 rfl ?_ (fun w H => ?_); · first | omega | assumption | (simp only [List.length_set, List.length_append, List.length_cons, List.length_nil, List.length_map, List.length_replicate, List.length_drop, List.length_take]; omega)) | (refine bkSetsP H 2 rfl ?_ (fun w H => ?_); · first | omega | assumption | (simp only [List.length_set, List.length_append, List.length_cons, List.length_nil, List.length_map, List.length_replicate, List.length_drop, List.length_take]; omega)) | (refine bkSetsP H 3 rfl ?_ (fun w H => ?_); · first | omega | assumption | (simp only [List.length_set, List.length_append, List.length_cons, List.length_nil, List.length_map, List.length_replicate, List.length_drop, List.length_take]; omega)) ); (try simp only [List.set_cons_succ, List.set_cons_zero, ints_set0, bools_set0, pair_set0, pair_set1, co_t0, co_t1, co_t2, co_t3, co_t4, co_t5, co_t6, co_t7, co_t8, co_t9, co_t10, co_pass] at H); exact H)) : SetsG w b o vs K := k _ h
theorem cohBegin (a : CA) (s : CS) (hf : s.fits a) (ho : s.ok) (t st : Int) (ht : s.ss.there t = true) (hst : s.ss.state t = st) :
    Sp Tryz.prog 139 #[ptr a.l, .pointer (some ⟨a.rb, 0 + t.toNat * 4, none⟩), i64 st] (cohL a s) (.tuple #[]) (cohL a (s.begin t)) := by
  obtain ⟨h1, h2⟩ := seat_there ht
  have e1 : s.places.length = s.ss.l.length := ho.len
  have e2 : t.toNat < s.places.length := by omega
  obtain ⟨hn, x, hx⟩ := ho.node t ht
  obtain ⟨a1, X, Y, ha1, hfx, hwx, hset, hfit⟩ := locs_at hf.locs hx
  have hloc : s.loc t = x := by simp [CS.loc, List.getD_eq_getElem?_getD, hx]
  have hsame := hset x
  rw [locs_same hx] at hsame
  have hset' := hset
  simp only [CS.pl, List.getD_eq_getElem?_getD] at hset'
  have hcell : ∀ P0 : List Value, P0.length = 5 → ∀ Z : List Value, (P0 ++ (a.locs.map optV ++ Z))[5 + (s.pl t).node.toNat]? = some a1.v := fun P0 h5 Z => coCell ha1 h5
  intro w0 S w B H
  simp only [cohL, hsame, List.cons_append, List.append_assoc] at H
  refine callsCohortLock_begin _ _ _ _ _ _ ?_
  unfold preCohortLock_begin
  by_cases c : st = 3
  · refine Br_eq c ?_
    (repeat (first | refine PtrSome_at ?_ | refine andOne ?_ | ((first | apply exSlice | apply exInt | apply exBool | apply exPtr | apply exVal | apply andCell | apply andBd | apply andCan | apply andThere); · exact tC_Lf) | (refine toSet ?_; refine tS_Lf H (fun w H => ?_)) | (refine toSets ?_; refine tG_Lf H (fun w H => ?_)) | refine H.drewK (fun w H => ?_) | refine H.allocK (fun w H => ?_)))
    refine ⟨rfl, H.to ?_⟩
    simp only [CS.begin, hst, if_pos c]
    simp [cohL, hsame, CS.todo, CS.put, CS.pl]
  · refine Br_neq c ?_
    (repeat (first | refine PtrSome_at ?_ | refine andOne ?_ | ((first | apply exSlice | apply exInt | apply exBool | apply exPtr | apply exVal | apply andCell | apply andBd | apply andCan | apply andThere); · exact tC_Lf) | (refine toSet ?_; refine tS_Lf H (fun w H => ?_)) | (refine toSets ?_; refine tG_Lf H (fun w H => ?_)) | refine H.drewK (fun w H => ?_) | refine H.allocK (fun w H => ?_)))
    refine ⟨hn, exVal (H.cell 0 rfl (hcell [_, _, _, _, _] rfl _)) ?_⟩
    (repeat (first | refine PtrSome_at ?_ | refine andOne ?_ | ((first | apply exSlice | apply exInt | apply exBool | apply exPtr | apply exVal | apply andCell | apply andBd | apply andCan | apply andThere); · exact tC_Lf) | (refine toSet ?_; refine tS_Lf H (fun w H => ?_)) | (refine toSets ?_; refine tG_Lf H (fun w H => ?_)) | refine H.drewK (fun w H => ?_) | refine H.allocK (fun w H => ?_)))
    refine rawIf_v (fun ty iv e => ?_)
    rw [← e]
    refine (liLock hfx (s.pl t).inner (-1)).go H (_ :: _ :: (seatL a.sa s.ss ++ (LI.blk a.glob s.glob ++ X))) (Y ++ B) (by simp; exact ⟨rfl, rfl⟩) (fun w H => ⟨_, rfl, ?_⟩)
    simp only [List.cons_append, List.append_assoc] at H
    (repeat (first | refine PtrSome_at ?_ | refine andOne ?_ | ((first | apply exSlice | apply exInt | apply exBool | apply exPtr | apply exVal | apply andCell | apply andBd | apply andCan | apply andThere); · exact tC_Lf) | (refine toSet ?_; refine tS_Lf H (fun w H => ?_)) | (refine toSets ?_; refine tG_Lf H (fun w H => ?_)) | refine H.drewK (fun w H => ?_) | refine H.allocK (fun w H => ?_)))
    refine ⟨rfl, H.to ?_⟩
    simp only [CS.begin, hst, if_neg c, hloc]
    simp [cohL, CS.setLoc, hset', CS.todo, CS.put, CS.pl]
theorem todoV_func (k : Nat) : isFuncV (todoV k) = true := by unfold todoV; split <;> rfl
theorem todoV_some {k : Nat} (h1 : 1 ≤ k) (h2 : k ≤ 10) : isNilF (todoV k) = false := by
  match k, h1, h2 with
  | 1, _, _ => rfl
  | 2, _, _ => rfl
  | 3, _, _ => rfl
  | 4, _, _ => rfl
  | 5, _, _ => rfl
  | 6, _, _ => rfl
  | 7, _, _ => rfl
  | 8, _, _ => rfl
  | 9, _, _ => rfl
  | 10, _, _ => rfl
theorem co13 {P0 : List Value} {A : List (Option LIA)} {z : Value} (h8 : A.length = 8) (h5 : P0.length = 5) : (P0 ++ (A.map optV ++ [z]))[13]? = some z := by
  rw [List.getElem?_append_right (by omega), h5, List.getElem?_append_right (by simp [h8])]
  simp [h8]
/-- a context's todo is one of those -/
def CS.todos (s : CS) : Prop := ∀ t, s.ss.there t = true → (s.pl t).todo ≤ 10
theorem cohStep (a : CA) (s : CS) (p : PS) (hf : s.fits a) (ho : s.ok) (htd : s.todos) (hp : p.wf) (t u now : Int) :
    Sp Tryz.prog 85 #[ptr a.l, i64 t, i64 u, i64 now] (cohL a s ++ portL a.pa p) (didV (s.stepE p t u)) (cohL a (s.stepS p t u) ++ portL a.pa (s.stepP p t u)) := by
  intro w0 S w B H
  have h8 : a.locs.length = 8 := (fitsL_len hf.locs).trans ho.eight
  have h13 : ∀ P0 : List Value, P0.length = 5 → ∀ z : Value, (P0 ++ (a.locs.map optV ++ [z]))[13]? = some z := fun P0 h5 z => co13 h8 h5
  simp only [cohL, List.cons_append, List.append_assoc] at H
  refine callsCohortLockStep _ _ _ _ _ _ ?_
  unfold preCohortLockStep
  (repeat (first | refine PtrSome_at ?_ | refine andOne ?_ | ((first | apply exSlice | apply exInt | apply exBool | apply exPtr | apply exVal | apply andCell | apply andBd | apply andCan | apply andThere); · exact tC_Lf) | (refine toSet ?_; refine tS_Lf H (fun w H => ?_)) | (refine toSets ?_; refine tG_Lf H (fun w H => ?_)) | refine H.drewK (fun w H => ?_) | refine H.allocK (fun w H => ?_)))
  (refine (seatState a.sa s.ss t).go H [_, _, _] _ rfl (fun w H => ?_); (try simp only [List.cons_append, List.nil_append, List.append_assoc] at H); (first | refine ⟨_, rfl, ?_⟩ | refine ⟨rfl, ?_⟩ | refine ⟨_, _, _, _, rfl, ?_⟩ | refine ⟨_, _, rfl, ?_⟩))
  by_cases c1 : s.ss.state t = 1
  · refine Br_nne c1 ?_
    have ht := state_there c1 (by decide)
    obtain ⟨h1, h2⟩ := seat_there ht
    have e1 : s.places.length = s.ss.l.length := ho.len
    have e2 : t.toNat < s.places.length := by omega
    have hbusy : s.busy t := Or.inl c1
    have hk := htd t ht
    refine exSlice (H.cell 1 rfl (h13 [_, _, _, _, _] rfl _)) ⟨⟨h1, h2⟩, PtrSome_at ?_⟩
    refine exVal (H.cell 2 rfl (rows_at1 (f := coRow) (s := 4) (j := 2) (v := todoV (s.pl t).todo) (fun _ => rfl) (by decide) e2 rfl)) ?_
    refine ⟨todoV_func _, ?_⟩
    by_cases c0 : (s.pl t).todo = 0
    · have hpre : s.pre t = s.begin t := if_pos c0
      have hb := CS.begin_both hf ho ht
      have hob := hb.1.ok ho
      have htb : (s.begin t).ss.there t = true := by rw [hb.1.ss]; exact ht
      have hd := CS.doS_both hb.2 hob p (u := u) htb ((s.begin t).pl t).todo
      have hkb : 1 ≤ ((s.begin t).pl t).todo ∧ ((s.begin t).pl t).todo ≤ 10 := by rw [CS.begin_todo s t e2]; split <;> omega
      rw [show isNilF (todoV (s.pl t).todo) = true by rw [c0]; rfl]
      simp only [Br_true]
      refine (cohBegin a s hf ho t (s.ss.state t) ht rfl).go H [_] (portL a.pa p ++ B) (by simp only [cohL, List.cons_append, List.nil_append, List.append_assoc]; rfl) (fun w H => ⟨rfl, ?_⟩)
      have H' := H
      simp only [cohL, List.cons_append, List.nil_append, List.append_assoc] at H
      have e2b : t.toNat < (s.begin t).places.length := by rw [hb.1.len]; exact e2
      refine exVal (H.cell 2 rfl (rows_at1 (f := coRow) (s := 4) (j := 2) (v := todoV ((s.begin t).pl t).todo) (fun _ => rfl) (by decide) e2b rfl)) ?_
      refine cohDo a (s.begin t) p hb.2 hob hp t u now htb ((s.begin t).pl t).todo hkb.1 hkb.2 H' [_] B (by simp only [List.append_assoc]; rfl) (fun w H => ⟨_, _, _, _, rfl, ?_⟩)
      have hss : ((s.begin t).doS p t u ((s.begin t).pl t).todo).ss = s.ss := hd.1.ss.trans hb.1.ss
      have hpl : ((s.begin t).doS p t u ((s.begin t).pl t).todo).places.length = s.places.length := hd.1.len.trans hb.1.len
      generalize hs2 : (s.begin t).doS p t u ((s.begin t).pl t).todo = s2 at H hss hpl
      generalize hp2 : (s.begin t).doP p t u ((s.begin t).pl t).todo = p2 at H
      generalize hd2 : (s.begin t).doE p t u ((s.begin t).pl t).todo = d2
      have e3 : t.toNat < s2.places.length := by omega
      simp only [cohL, List.cons_append, List.nil_append, List.append_assoc] at H
      (repeat (first | refine PtrSome_at ?_ | refine andOne ?_ | ((first | apply exSlice | apply exInt | apply exBool | apply exPtr | apply exVal | apply andCell | apply andBd | apply andCan | apply andThere); · exact tC_Lf) | (refine toSet ?_; refine tS_Lf H (fun w H => ?_)) | (refine toSets ?_; refine tG_Lf H (fun w H => ?_)) | refine H.drewK (fun w H => ?_) | refine H.allocK (fun w H => ?_)))
      refine (seatEnd a.sa s2.ss t d2.ev).go H [_, _, _, _] _ rfl (fun w H => ⟨_, rfl, ?_⟩)
      simp only [List.cons_append, List.nil_append] at H
      cases c4 : s2.ss.endB t d2.ev
      · simp only [Br_false]
        (repeat (first | refine PtrSome_at ?_ | refine andOne ?_ | ((first | apply exSlice | apply exInt | apply exBool | apply exPtr | apply exVal | apply andCell | apply andBd | apply andCan | apply andThere); · exact tC_Lf) | (refine toSet ?_; refine tS_Lf H (fun w H => ?_)) | (refine toSets ?_; refine tG_Lf H (fun w H => ?_)) | refine H.drewK (fun w H => ?_) | refine H.allocK (fun w H => ?_)))
        refine ⟨?_, H.tail.tail.to ?_⟩
        · simp only [CS.stepE, if_pos hbusy, hpre, hd2]
        · simp only [CS.stepE, CS.stepS, CS.stepP, if_pos hbusy, hpre, hd2, hs2, hp2, CS.endS, c4, SS.end_, Bool.false_eq_true, if_false]
          simp only [cohL, List.cons_append, List.append_assoc]
      · simp only [Br_true]
        (repeat (first | refine PtrSome_at ?_ | refine andOne ?_ | ((first | apply exSlice | apply exInt | apply exBool | apply exPtr | apply exVal | apply andCell | apply andBd | apply andCan | apply andThere); · exact tC_Lf) | (refine toSet ?_; refine tS_Lf H (fun w H => ?_)) | (refine toSets ?_; refine tG_Lf H (fun w H => ?_)) | refine H.drewK (fun w H => ?_) | refine H.allocK (fun w H => ?_)))
        refine ⟨?_, H.tail.tail.to ?_⟩
        · simp only [CS.stepE, if_pos hbusy, hpre, hd2]
        · simp only [CS.stepE, CS.stepS, CS.stepP, if_pos hbusy, hpre, hd2, hs2, hp2, CS.endS, c4, if_true]
          simp only [cohL, CS.todo, CS.put, CS.pl, end_len, List.cons_append, List.append_assoc]
    · have hpre : s.pre t = s := if_neg c0
      have hd := CS.doS_both hf ho p (u := u) ht (s.pl t).todo
      rw [show isNilF (todoV (s.pl t).todo) = false from todoV_some (by omega) hk]
      simp only [Br_false]
      refine exVal (H.cell 2 rfl (rows_at1 (f := coRow) (s := 4) (j := 2) (v := todoV (s.pl t).todo) (fun _ => rfl) (by decide) e2 rfl)) ?_
      refine cohDo a s p hf ho hp t u now ht (s.pl t).todo (by omega) hk H [_] B (by simp only [cohL, List.cons_append, List.nil_append, List.append_assoc]; rfl) (fun w H => ⟨_, _, _, _, rfl, ?_⟩)
      have hss : (s.doS p t u (s.pl t).todo).ss = s.ss := hd.1.ss
      have hpl : (s.doS p t u (s.pl t).todo).places.length = s.places.length := hd.1.len
      generalize hs2 : s.doS p t u (s.pl t).todo = s2 at H hss hpl
      generalize hp2 : s.doP p t u (s.pl t).todo = p2 at H
      generalize hd2 : s.doE p t u (s.pl t).todo = d2
      have e3 : t.toNat < s2.places.length := by omega
      simp only [cohL, List.cons_append, List.nil_append, List.append_assoc] at H
      (repeat (first | refine PtrSome_at ?_ | refine andOne ?_ | ((first | apply exSlice | apply exInt | apply exBool | apply exPtr | apply exVal | apply andCell | apply andBd | apply andCan | apply andThere); · exact tC_Lf) | (refine toSet ?_; refine tS_Lf H (fun w H => ?_)) | (refine toSets ?_; refine tG_Lf H (fun w H => ?_)) | refine H.drewK (fun w H => ?_) | refine H.allocK (fun w H => ?_)))
      refine (seatEnd a.sa s2.ss t d2.ev).go H [_, _, _, _] _ rfl (fun w H => ⟨_, rfl, ?_⟩)
      simp only [List.cons_append, List.nil_append] at H
      cases c4 : s2.ss.endB t d2.ev
      · simp only [Br_false]
        (repeat (first | refine PtrSome_at ?_ | refine andOne ?_ | ((first | apply exSlice | apply exInt | apply exBool | apply exPtr | apply exVal | apply andCell | apply andBd | apply andCan | apply andThere); · exact tC_Lf) | (refine toSet ?_; refine tS_Lf H (fun w H => ?_)) | (refine toSets ?_; refine tG_Lf H (fun w H => ?_)) | refine H.drewK (fun w H => ?_) | refine H.allocK (fun w H => ?_)))
        refine ⟨?_, H.tail.tail.to ?_⟩
        · simp only [CS.stepE, if_pos hbusy, hpre, hd2]
        · simp only [CS.stepE, CS.stepS, CS.stepP, if_pos hbusy, hpre, hd2, hs2, hp2, CS.endS, c4, SS.end_, Bool.false_eq_true, if_false]
          simp only [cohL, List.cons_append, List.append_assoc]
      · simp only [Br_true]
        (repeat (first | refine PtrSome_at ?_ | refine andOne ?_ | ((first | apply exSlice | apply exInt | apply exBool | apply exPtr | apply exVal | apply andCell | apply andBd | apply andCan | apply andThere); · exact tC_Lf) | (refine toSet ?_; refine tS_Lf H (fun w H => ?_)) | (refine toSets ?_; refine tG_Lf H (fun w H => ?_)) | refine H.drewK (fun w H => ?_) | refine H.allocK (fun w H => ?_)))
        refine ⟨?_, H.tail.tail.to ?_⟩
        · simp only [CS.stepE, if_pos hbusy, hpre, hd2]
        · simp only [CS.stepE, CS.stepS, CS.stepP, if_pos hbusy, hpre, hd2, hs2, hp2, CS.endS, c4, if_true]
          simp only [cohL, CS.todo, CS.put, CS.pl, end_len, List.cons_append, List.append_assoc]
  · refine Br_ne c1 ?_
    by_cases c3 : s.ss.state t = 3
    · refine Br_nne c3 ?_
      have ht := state_there c3 (by decide)
      obtain ⟨h1, h2⟩ := seat_there ht
      have e1 : s.places.length = s.ss.l.length := ho.len
      have e2 : t.toNat < s.places.length := by omega
      have hbusy : s.busy t := Or.inr c3
      have hk := htd t ht
      refine exSlice (H.cell 1 rfl (h13 [_, _, _, _, _] rfl _)) ⟨⟨h1, h2⟩, PtrSome_at ?_⟩
      refine exVal (H.cell 2 rfl (rows_at1 (f := coRow) (s := 4) (j := 2) (v := todoV (s.pl t).todo) (fun _ => rfl) (by decide) e2 rfl)) ?_
      refine ⟨todoV_func _, ?_⟩
      by_cases c0 : (s.pl t).todo = 0
      · have hpre : s.pre t = s.begin t := if_pos c0
        have hb := CS.begin_both hf ho ht
        have hob := hb.1.ok ho
        have htb : (s.begin t).ss.there t = true := by rw [hb.1.ss]; exact ht
        have hd := CS.doS_both hb.2 hob p (u := u) htb ((s.begin t).pl t).todo
        have hkb : 1 ≤ ((s.begin t).pl t).todo ∧ ((s.begin t).pl t).todo ≤ 10 := by rw [CS.begin_todo s t e2]; split <;> omega
        rw [show isNilF (todoV (s.pl t).todo) = true by rw [c0]; rfl]
        simp only [Br_true]
        refine (cohBegin a s hf ho t (s.ss.state t) ht rfl).go H [_] (portL a.pa p ++ B) (by simp only [cohL, List.cons_append, List.nil_append, List.append_assoc]; rfl) (fun w H => ⟨rfl, ?_⟩)
        have H' := H
        simp only [cohL, List.cons_append, List.nil_append, List.append_assoc] at H
        have e2b : t.toNat < (s.begin t).places.length := by rw [hb.1.len]; exact e2
        refine exVal (H.cell 2 rfl (rows_at1 (f := coRow) (s := 4) (j := 2) (v := todoV ((s.begin t).pl t).todo) (fun _ => rfl) (by decide) e2b rfl)) ?_
        refine cohDo a (s.begin t) p hb.2 hob hp t u now htb ((s.begin t).pl t).todo hkb.1 hkb.2 H' [_] B (by simp only [List.append_assoc]; rfl) (fun w H => ⟨_, _, _, _, rfl, ?_⟩)
        have hss : ((s.begin t).doS p t u ((s.begin t).pl t).todo).ss = s.ss := hd.1.ss.trans hb.1.ss
        have hpl : ((s.begin t).doS p t u ((s.begin t).pl t).todo).places.length = s.places.length := hd.1.len.trans hb.1.len
        generalize hs2 : (s.begin t).doS p t u ((s.begin t).pl t).todo = s2 at H hss hpl
        generalize hp2 : (s.begin t).doP p t u ((s.begin t).pl t).todo = p2 at H
        generalize hd2 : (s.begin t).doE p t u ((s.begin t).pl t).todo = d2
        have e3 : t.toNat < s2.places.length := by omega
        simp only [cohL, List.cons_append, List.nil_append, List.append_assoc] at H
        (repeat (first | refine PtrSome_at ?_ | refine andOne ?_ | ((first | apply exSlice | apply exInt | apply exBool | apply exPtr | apply exVal | apply andCell | apply andBd | apply andCan | apply andThere); · exact tC_Lf) | (refine toSet ?_; refine tS_Lf H (fun w H => ?_)) | (refine toSets ?_; refine tG_Lf H (fun w H => ?_)) | refine H.drewK (fun w H => ?_) | refine H.allocK (fun w H => ?_)))
        refine (seatEnd a.sa s2.ss t d2.ev).go H [_, _, _, _] _ rfl (fun w H => ⟨_, rfl, ?_⟩)
        simp only [List.cons_append, List.nil_append] at H
        cases c4 : s2.ss.endB t d2.ev
        · simp only [Br_false]
          (repeat (first | refine PtrSome_at ?_ | refine andOne ?_ | ((first | apply exSlice | apply exInt | apply exBool | apply exPtr | apply exVal | apply andCell | apply andBd | apply andCan | apply andThere); · exact tC_Lf) | (refine toSet ?_; refine tS_Lf H (fun w H => ?_)) | (refine toSets ?_; refine tG_Lf H (fun w H => ?_)) | refine H.drewK (fun w H => ?_) | refine H.allocK (fun w H => ?_)))
          refine ⟨?_, H.tail.tail.to ?_⟩
          · simp only [CS.stepE, if_pos hbusy, hpre, hd2]
          · simp only [CS.stepE, CS.stepS, CS.stepP, if_pos hbusy, hpre, hd2, hs2, hp2, CS.endS, c4, SS.end_, Bool.false_eq_true, if_false]
            simp only [cohL, List.cons_append, List.append_assoc]
        · simp only [Br_true]
          (repeat (first | refine PtrSome_at ?_ | refine andOne ?_ | ((first | apply exSlice | apply exInt | apply exBool | apply exPtr | apply exVal | apply andCell | apply andBd | apply andCan | apply andThere); · exact tC_Lf) | (refine toSet ?_; refine tS_Lf H (fun w H => ?_)) | (refine toSets ?_; refine tG_Lf H (fun w H => ?_)) | refine H.drewK (fun w H => ?_) | refine H.allocK (fun w H => ?_)))
          refine ⟨?_, H.tail.tail.to ?_⟩
          · simp only [CS.stepE, if_pos hbusy, hpre, hd2]
          · simp only [CS.stepE, CS.stepS, CS.stepP, if_pos hbusy, hpre, hd2, hs2, hp2, CS.endS, c4, if_true]
            simp only [cohL, CS.todo, CS.put, CS.pl, end_len, List.cons_append, List.append_assoc]
      · have hpre : s.pre t = s := if_neg c0
        have hd := CS.doS_both hf ho p (u := u) ht (s.pl t).todo
        rw [show isNilF (todoV (s.pl t).todo) = false from todoV_some (by omega) hk]
        simp only [Br_false]
        refine exVal (H.cell 2 rfl (rows_at1 (f := coRow) (s := 4) (j := 2) (v := todoV (s.pl t).todo) (fun _ => rfl) (by decide) e2 rfl)) ?_
        refine cohDo a s p hf ho hp t u now ht (s.pl t).todo (by omega) hk H [_] B (by simp only [cohL, List.cons_append, List.nil_append, List.append_assoc]; rfl) (fun w H => ⟨_, _, _, _, rfl, ?_⟩)
        have hss : (s.doS p t u (s.pl t).todo).ss = s.ss := hd.1.ss
        have hpl : (s.doS p t u (s.pl t).todo).places.length = s.places.length := hd.1.len
        generalize hs2 : s.doS p t u (s.pl t).todo = s2 at H hss hpl
        generalize hp2 : s.doP p t u (s.pl t).todo = p2 at H
        generalize hd2 : s.doE p t u (s.pl t).todo = d2
        have e3 : t.toNat < s2.places.length := by omega
        simp only [cohL, List.cons_append, List.nil_append, List.append_assoc] at H
        (repeat (first | refine PtrSome_at ?_ | refine andOne ?_ | ((first | apply exSlice | apply exInt | apply exBool | apply exPtr | apply exVal | apply andCell | apply andBd | apply andCan | apply andThere); · exact tC_Lf) | (refine toSet ?_; refine tS_Lf H (fun w H => ?_)) | (refine toSets ?_; refine tG_Lf H (fun w H => ?_)) | refine H.drewK (fun w H => ?_) | refine H.allocK (fun w H => ?_)))
        refine (seatEnd a.sa s2.ss t d2.ev).go H [_, _, _, _] _ rfl (fun w H => ⟨_, rfl, ?_⟩)
        simp only [List.cons_append, List.nil_append] at H
        cases c4 : s2.ss.endB t d2.ev
        · simp only [Br_false]
          (repeat (first | refine PtrSome_at ?_ | refine andOne ?_ | ((first | apply exSlice | apply exInt | apply exBool | apply exPtr | apply exVal | apply andCell | apply andBd | apply andCan | apply andThere); · exact tC_Lf) | (refine toSet ?_; refine tS_Lf H (fun w H => ?_)) | (refine toSets ?_; refine tG_Lf H (fun w H => ?_)) | refine H.drewK (fun w H => ?_) | refine H.allocK (fun w H => ?_)))
          refine ⟨?_, H.tail.tail.to ?_⟩
          · simp only [CS.stepE, if_pos hbusy, hpre, hd2]
          · simp only [CS.stepE, CS.stepS, CS.stepP, if_pos hbusy, hpre, hd2, hs2, hp2, CS.endS, c4, SS.end_, Bool.false_eq_true, if_false]
            simp only [cohL, List.cons_append, List.append_assoc]
        · simp only [Br_true]
          (repeat (first | refine PtrSome_at ?_ | refine andOne ?_ | ((first | apply exSlice | apply exInt | apply exBool | apply exPtr | apply exVal | apply andCell | apply andBd | apply andCan | apply andThere); · exact tC_Lf) | (refine toSet ?_; refine tS_Lf H (fun w H => ?_)) | (refine toSets ?_; refine tG_Lf H (fun w H => ?_)) | refine H.drewK (fun w H => ?_) | refine H.allocK (fun w H => ?_)))
          refine ⟨?_, H.tail.tail.to ?_⟩
          · simp only [CS.stepE, if_pos hbusy, hpre, hd2]
          · simp only [CS.stepE, CS.stepS, CS.stepP, if_pos hbusy, hpre, hd2, hs2, hp2, CS.endS, c4, if_true]
            simp only [cohL, CS.todo, CS.put, CS.pl, end_len, List.cons_append, List.append_assoc]
    · refine Br_ne c3 ?_
      (repeat (first | refine PtrSome_at ?_ | refine andOne ?_ | ((first | apply exSlice | apply exInt | apply exBool | apply exPtr | apply exVal | apply andCell | apply andBd | apply andCan | apply andThere); · exact tC_Lf) | (refine toSet ?_; refine tS_Lf H (fun w H => ?_)) | (refine toSets ?_; refine tG_Lf H (fun w H => ?_)) | refine H.drewK (fun w H => ?_) | refine H.allocK (fun w H => ?_)))
      refine ⟨?_, H.tail.to ?_⟩
      · simp [CS.stepE, CS.busy, c1, c3]
      · simp [CS.stepS, CS.stepP, CS.busy, c1, c3, cohL]
end Go.Proofs.YtollfjfcdofbaaaGreat
