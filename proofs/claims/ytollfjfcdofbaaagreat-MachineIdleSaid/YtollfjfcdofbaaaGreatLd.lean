/- Contracts: the steps of the lock of locks. -/
import Derived.Test.YtollfjfcdofbaaaGreatLc
namespace Go.Proofs.YtollfjfcdofbaaaGreat
open Go Go.Proofs
set_option linter.unusedSimpArgs false
set_option linter.unusedVariables false
set_option maxRecDepth 100000
set_option maxHeartbeats 4000000
-- NB 3
-- ROW coRow 4
-- NOX coRow
-- NSET co_t0, co_t1, co_t2, co_t3, co_t4, co_t5, co_t6, co_t7, co_t8, co_t9, co_t10, co_pass

theorem andOne {v : Value} {K : Prop} (k : K) (h : v.oneCell' = true := by rfl) : oneCells [v] ∧ K := ⟨by simp [oneCells, h], k⟩
theorem co_todo (xs : List CPl) (i : Nat) (k : Nat) : (rows coRow xs).set (0 + i * 4 + 2) (todoV k) = rows coRow (xs.set i { xs.getD i default with todo := k }) :=
  rows_set1 (f := coRow) (s := 4) (fun _ => rfl) (by decide) xs i { xs.getD i default with todo := k } rfl
theorem co_t0 (xs : List CPl) (i : Nat) : (rows coRow xs).set (0 + i * 4 + 2) .nilFunc = rows coRow (xs.set i { xs.getD i default with todo := 0 }) := co_todo xs i 0
theorem co_t1 (xs : List CPl) (i : Nat) : (rows coRow xs).set (0 + i * 4 + 2) (.func (.func 178) #[] #[]) = rows coRow (xs.set i { xs.getD i default with todo := 1 }) := co_todo xs i 1
theorem co_t2 (xs : List CPl) (i : Nat) : (rows coRow xs).set (0 + i * 4 + 2) (.func (.func 203) #[] #[]) = rows coRow (xs.set i { xs.getD i default with todo := 2 }) := co_todo xs i 2
theorem co_t3 (xs : List CPl) (i : Nat) : (rows coRow xs).set (0 + i * 4 + 2) (.func (.func 219) #[] #[]) = rows coRow (xs.set i { xs.getD i default with todo := 3 }) := co_todo xs i 3
theorem co_t4 (xs : List CPl) (i : Nat) : (rows coRow xs).set (0 + i * 4 + 2) (.func (.func 242) #[] #[]) = rows coRow (xs.set i { xs.getD i default with todo := 4 }) := co_todo xs i 4
theorem co_t5 (xs : List CPl) (i : Nat) : (rows coRow xs).set (0 + i * 4 + 2) (.func (.func 177) #[] #[]) = rows coRow (xs.set i { xs.getD i default with todo := 5 }) := co_todo xs i 5
theorem co_t6 (xs : List CPl) (i : Nat) : (rows coRow xs).set (0 + i * 4 + 2) (.func (.func 202) #[] #[]) = rows coRow (xs.set i { xs.getD i default with todo := 6 }) := co_todo xs i 6
theorem co_t7 (xs : List CPl) (i : Nat) : (rows coRow xs).set (0 + i * 4 + 2) (.func (.func 218) #[] #[]) = rows coRow (xs.set i { xs.getD i default with todo := 7 }) := co_todo xs i 7
theorem co_t8 (xs : List CPl) (i : Nat) : (rows coRow xs).set (0 + i * 4 + 2) (.func (.func 201) #[] #[]) = rows coRow (xs.set i { xs.getD i default with todo := 8 }) := co_todo xs i 8
theorem co_t9 (xs : List CPl) (i : Nat) : (rows coRow xs).set (0 + i * 4 + 2) (.func (.func 217) #[] #[]) = rows coRow (xs.set i { xs.getD i default with todo := 9 }) := co_todo xs i 9
theorem co_t10 (xs : List CPl) (i : Nat) : (rows coRow xs).set (0 + i * 4 + 2) (.func (.func 255) #[] #[]) = rows coRow (xs.set i { xs.getD i default with todo := 10 }) := co_todo xs i 10
theorem co_pass (xs : List CPl) (i : Nat) (v : Int) : (rows coRow xs).set (0 + i * 4 + 3) (u32 v) = rows coRow (xs.set i { xs.getD i default with pass := v }) :=
  rows_set1 (f := coRow) (s := 4) (fun _ => rfl) (by decide) xs i { xs.getD i default with pass := v } rfl
section
variable {w0 w : World} {S : List Nat} {h1 h2 h3 : Nat × List Value} {Q G G' X l l' Y B : Blocks} {pa : PA} {p p' : PS} {r v : Value} {name : String} {args : Array Value} {K : Ending → World → Prop} {f : FuncId}
theorem coP (h : Sp Tryz.prog f args (portL pa p) r (portL pa p')) (H : St w0 S w (h1 :: h2 :: h3 :: (Q ++ (G ++ (X ++ (l ++ (Y ++ (portL pa p ++ B))))))))
    (k : ∀ w', St w0 S w' (h1 :: h2 :: h3 :: (Q ++ (G ++ (X ++ (l ++ (Y ++ (portL pa p' ++ B))))))) → K (.returned r) w') : Calls Tryz.prog f args w K :=
  h.go H (h1 :: h2 :: h3 :: (Q ++ (G ++ (X ++ (l ++ Y))))) B (by simp) (fun w' H' => k w' (H'.to (by simp)))
theorem coG (h : SpI v name args G r G') (H : St w0 S w (h1 :: h2 :: h3 :: (Q ++ (G ++ (X ++ (l ++ (Y ++ (portL pa p ++ B))))))))
    (k : ∀ w', St w0 S w' (h1 :: h2 :: h3 :: (Q ++ (G' ++ (X ++ (l ++ (Y ++ (portL pa p ++ B))))))) → K (.returned r) w') : Invoke Tryz.prog v name args w K :=
  h.go H (h1 :: h2 :: h3 :: Q) (X ++ (l ++ (Y ++ (portL pa p ++ B)))) (by simp) (fun w' H' => k w' (H'.to (by simp)))
theorem coGS (h : SpI v name args (G ++ portL pa p) r (G' ++ portL pa p')) (H : St w0 S w (h1 :: h2 :: h3 :: (Q ++ (G ++ (X ++ (l ++ (Y ++ (portL pa p ++ B))))))))
    (k : ∀ w', St w0 S w' (h1 :: h2 :: h3 :: (Q ++ (G' ++ (X ++ (l ++ (Y ++ (portL pa p' ++ B))))))) → K (.returned r) w') : Invoke Tryz.prog v name args w K :=
  h.go2 H (h1 :: h2 :: h3 :: Q) (X ++ (l ++ Y)) B (by simp) (fun w' H' => k w' (H'.to (by simp)))
theorem coL (h : SpI v name args l r l') (H : St w0 S w (h1 :: h2 :: h3 :: (Q ++ (G ++ (X ++ (l ++ (Y ++ (portL pa p ++ B))))))))
    (k : ∀ w', St w0 S w' (h1 :: h2 :: h3 :: (Q ++ (G ++ (X ++ (l' ++ (Y ++ (portL pa p ++ B))))))) → K (.returned r) w') : Invoke Tryz.prog v name args w K :=
  h.go H (h1 :: h2 :: h3 :: (Q ++ (G ++ X))) (Y ++ (portL pa p ++ B)) (by simp) (fun w' H' => k w' (H'.to (by simp)))
theorem coLS (h : SpI v name args (l ++ portL pa p) r (l' ++ portL pa p')) (H : St w0 S w (h1 :: h2 :: h3 :: (Q ++ (G ++ (X ++ (l ++ (Y ++ (portL pa p ++ B))))))))
    (k : ∀ w', St w0 S w' (h1 :: h2 :: h3 :: (Q ++ (G ++ (X ++ (l' ++ (Y ++ (portL pa p' ++ B))))))) → K (.returned r) w') : Invoke Tryz.prog v name args w K :=
  h.go2 H (h1 :: h2 :: h3 :: (Q ++ (G ++ X))) Y B (by simp) (fun w' H' => k w' (H'.to (by simp)))
end
theorem rawIf_v {a : LIA} {K : TypeId → Value → Prop} (h : ∀ ty iv, a.v = .iface ty iv → K ty iv) : RawIf a.v K := by
  cases a with
  | tic a => exact h _ _ rfl
  | clh a m => exact h _ _ rfl
  | mcs a => exact h _ _ rfl
theorem coCell {P0 : List Value} {A : List (Option LIA)} {Z : List Value} {c : Nat} {a : LIA} (h : A[c]? = some (some a)) (h5 : P0.length = 5) : (P0 ++ (A.map optV ++ Z))[5 + c]? = some a.v := by
  have hl := (List.getElem?_eq_some_iff.1 h).1
  rw [List.getElem?_append_right (by omega), h5, show 5 + c - 5 = c by omega, List.getElem?_append_left (by simpa using hl)]
  exact optV_eq h
theorem tC_Ld {P : Prop} (h : P := by (first | ((first | refine bkCell (H.bkAt 0 rfl) ?_ | refine bkCell (H.bkAt 1 rfl) ?_ | refine bkCell (H.bkAt 2 rfl) ?_); (first | rfl | ((first | refine ints_at0 ?_ | refine bools_at0 ?_ | refine rows_at1 (f := accRow) (s := 2) (fun _ => rfl) (by decide) ?_ rfl | refine rows_at0 (f := accRow) (s := 2) (fun _ => rfl) (by decide) ?_ rfl | refine rows_at1 (f := coRow) (s := 4) (fun _ => rfl) (by decide) ?_ rfl | refine rows_at0 (f := coRow) (s := 4) (fun _ => rfl) (by decide) ?_ rfl); first | omega | assumption | (simp only [List.length_set, List.length_append, List.length_cons, List.length_nil, List.length_map, List.length_replicate, List.length_drop, List.length_take]; omega)))) | ((first | refine bkCan (H.bkAt 0 rfl) ?_ | refine bkCan (H.bkAt 1 rfl) ?_ | refine bkCan (H.bkAt 2 rfl) ?_); (first | decide | ((first | refine ints_lt ?_ | refine bools_lt ?_ | refine rows_lt1 (f := accRow) (s := 2) (fun _ => rfl) (by decide) ?_ | refine rows_lt0 (f := accRow) (s := 2) (fun _ => rfl) (by decide) ?_ | refine rows_lt1 (f := coRow) (s := 4) (fun _ => rfl) (by decide) ?_ | refine rows_lt0 (f := coRow) (s := 4) (fun _ => rfl) (by decide) ?_); first | omega | assumption | (simp only [List.length_set, List.length_append, List.length_cons, List.length_nil, List.length_map, List.length_replicate, List.length_drop, List.length_take]; omega)) | (simp only [List.length_cons, List.length_nil]; omega))) | ((first | refine bkThere (H.bkAt 0 rfl) ?_ | refine bkThere (H.bkAt 1 rfl) ?_ | refine bkThere (H.bkAt 2 rfl) ?_); (first | decide | (simp only [List.length_cons, List.length_nil]; omega) | (refine rows_le (f := accRow) (s := 2) (fun _ => rfl) ?_; first | omega | assumption | (simp only [List.length_set, List.length_append, List.length_cons, List.length_nil, List.length_map, List.length_replicate, List.length_drop, List.length_take]; omega)) | (refine rows_le (f := coRow) (s := 4) (fun _ => rfl) ?_; first | omega | assumption | (simp only [List.length_set, List.length_append, List.length_cons, List.length_nil, List.length_map, List.length_replicate, List.length_drop, List.length_take]; omega)))) | exact ⟨by omega, by omega⟩)) : P := h
theorem tS_Ld {w0 w : World} {S : List Nat} {L L' : Blocks} {b o : Nat} {v : Value} {K : World → Prop} (H : St w0 S w L) (k : ∀ w', St w0 S w' L' → K w') (h : SetG w b o v (fun w' => St w0 S w' L') := by ((first | refine bkSet H 0 rfl (fun w H => ?_) | refine bkSet H 1 rfl (fun w H => ?_) | refine bkSet H 2 rfl (fun w H => ?_)); (try simp only [List.set_cons_succ, List.set_cons_zero, ints_set0, bools_set0, pair_set0, pair_set1, co_t0, co_t1, co_t2, co_t3, co_t4, co_t5, co_t6, co_t7, co_t8, co_t9, co_t10, co_pass] at H); exact H)) : SetG w b o v K := k _ h
theorem tG_Ld {w0 w : World} {S : List Nat} {L L' : Blocks} {b o : Nat} {vs : List Value} {K : World → Prop} (H : St w0 S w L) (k : ∀ w', St w0 S w' L' → K w') (h : SetsG w b o vs (fun w' => St w0 S w' L') := by ((first | refine bkSetsF H 0 rfl rfl (fun w H => ?_) | refine bkSetsF H 1 rfl rfl (fun w H => ?_) | refine bkSetsF H 2 rfl rfl (fun w H => ?_) | (refine bkSetsP H 0 rfl ?_ (fun w H => ?_); · first | omega | assumption | (simp only [List.length_set, List.length_append, List.length_cons, List.length_nil, List.length_map, List.length_replicate, List.length_drop, List.length_take]; omega)) | (refine bkSetsP H 1 rfl ?_ (fun w H => ?_); · first | omega | assumption | (simp only [List.length_set, List.length_append, List.length_cons, List.length_nil, List.length_map, List.length_replicate, List.length_drop, List.length_take]; omega)) | (refine bkSetsP H 2 rfl ?_ (fun w H => ?_); · first | omega | assumption | (simp only [List.length_set, List.length_append, List.length_cons, List.length_nil, List.length_map, List.length_replicate, List.length_drop, List.length_take]; omega)) ); (try simp only [List.set_cons_succ, List.set_cons_zero, ints_set0, bools_set0, pair_set0, pair_set1, co_t0, co_t1, co_t2, co_t3, co_t4, co_t5, co_t6, co_t7, co_t8, co_t9, co_t10, co_pass] at H); exact H)) : SetsG w b o vs K := k _ h
theorem cohFirst (a : CA) (s : CS) (p : PS) (hf : s.fits a) (ho : s.ok) (hp : p.wf) (t u now : Int) (ht : s.ss.there t = true) :
    Sp Tryz.prog 242 #[ptr a.l, .pointer (some ⟨a.rb, 0 + t.toNat * 4, none⟩), i64 u, i64 now] (cohL a s ++ portL a.pa p) (didV (s.doE p t u 4)) (cohL a (s.doS p t u 4) ++ portL a.pa (s.doP p t u 4)) := by
  obtain ⟨h1, h2⟩ := seat_there ht
  have e1 : s.places.length = s.ss.l.length := ho.len
  have e2 : t.toNat < s.places.length := by omega
  obtain ⟨hn, x, hx⟩ := ho.node t ht
  obtain ⟨a1, X, Y, ha1, hfx, hwx, hset, hfit⟩ := locs_at hf.locs hx
  have hpa1 : a1.pa = a.pa := hf.pl _ (List.mem_of_getElem? ha1) _ rfl
  have hpg : a.glob.pa = a.pa := hf.pg
  have hloc : s.loc t = x := by simp [CS.loc, List.getD_eq_getElem?_getD, hx]
  have hsame := hset x
  rw [locs_same hx] at hsame
  have hset' := hset
  simp only [CS.pl, List.getD_eq_getElem?_getD] at hset'
  have hcell : ∀ P0 : List Value, P0.length = 5 → ∀ Z : List Value, (P0 ++ (a.locs.map optV ++ Z))[5 + (s.pl t).node.toNat]? = some a1.v := fun P0 h5 Z => coCell ha1 h5
  intro w0 S w B H
  simp only [cohL, hsame, List.cons_append, List.append_assoc] at H
  refine callsCohortLock_first _ _ _ _ _ _ _ ?_
  unfold preCohortLock_first
  (repeat (first | refine PtrSome_at ?_ | refine andOne ?_ | ((first | apply exSlice | apply exInt | apply exBool | apply exPtr | apply exVal | apply andCell | apply andBd | apply andCan | apply andThere); · exact tC_Ld) | (refine toSet ?_; refine tS_Ld H (fun w H => ?_)) | (refine toSets ?_; refine tG_Ld H (fun w H => ?_)) | refine H.drewK (fun w H => ?_) | refine H.allocK (fun w H => ?_)))
  refine coP (portStore a.pa p hp u (s.at_ t) 1) H (fun w H => ⟨rfl, ?_⟩)
  (repeat (first | refine PtrSome_at ?_ | refine andOne ?_ | ((first | apply exSlice | apply exInt | apply exBool | apply exPtr | apply exVal | apply andCell | apply andBd | apply andCan | apply andThere); · exact tC_Ld) | (refine toSet ?_; refine tS_Ld H (fun w H => ?_)) | (refine toSets ?_; refine tG_Ld H (fun w H => ?_)) | refine H.drewK (fun w H => ?_) | refine H.allocK (fun w H => ?_)))
  refine ⟨rfl, H.tail.to ?_⟩
  simp [cohL, hsame, CS.doS, CS.doP]
theorem cohLook (a : CA) (s : CS) (p : PS) (hf : s.fits a) (ho : s.ok) (hp : p.wf) (t u now : Int) (ht : s.ss.there t = true) :
    Sp Tryz.prog 203 #[ptr a.l, .pointer (some ⟨a.rb, 0 + t.toNat * 4, none⟩), i64 u, i64 now] (cohL a s ++ portL a.pa p) (didV (s.doE p t u 2)) (cohL a (s.doS p t u 2) ++ portL a.pa (s.doP p t u 2)) := by
  obtain ⟨h1, h2⟩ := seat_there ht
  have e1 : s.places.length = s.ss.l.length := ho.len
  have e2 : t.toNat < s.places.length := by omega
  obtain ⟨hn, x, hx⟩ := ho.node t ht
  obtain ⟨a1, X, Y, ha1, hfx, hwx, hset, hfit⟩ := locs_at hf.locs hx
  have hpa1 : a1.pa = a.pa := hf.pl _ (List.mem_of_getElem? ha1) _ rfl
  have hpg : a.glob.pa = a.pa := hf.pg
  have hloc : s.loc t = x := by simp [CS.loc, List.getD_eq_getElem?_getD, hx]
  have hsame := hset x
  rw [locs_same hx] at hsame
  have hset' := hset
  simp only [CS.pl, List.getD_eq_getElem?_getD] at hset'
  have hcell : ∀ P0 : List Value, P0.length = 5 → ∀ Z : List Value, (P0 ++ (a.locs.map optV ++ Z))[5 + (s.pl t).node.toNat]? = some a1.v := fun P0 h5 Z => coCell ha1 h5
  intro w0 S w B H
  simp only [cohL, hsame, List.cons_append, List.append_assoc] at H
  refine callsCohortLock_look _ _ _ _ _ _ _ ?_
  unfold preCohortLock_look
  (repeat (first | refine PtrSome_at ?_ | refine andOne ?_ | ((first | apply exSlice | apply exInt | apply exBool | apply exPtr | apply exVal | apply andCell | apply andBd | apply andCan | apply andThere); · exact tC_Ld) | (refine toSet ?_; refine tS_Ld H (fun w H => ?_)) | (refine toSets ?_; refine tG_Ld H (fun w H => ?_)) | refine H.drewK (fun w H => ?_) | refine H.allocK (fun w H => ?_)))
  refine coP (portLoad a.pa p hp u (s.at_ t)) H (fun w H => ⟨_, rfl, ?_⟩)
  by_cases c : p.loadV u (s.at_ t) = 0
  · refine Br_nne c ?_
    (repeat (first | refine PtrSome_at ?_ | refine andOne ?_ | ((first | apply exSlice | apply exInt | apply exBool | apply exPtr | apply exVal | apply andCell | apply andBd | apply andCan | apply andThere); · exact tC_Ld) | (refine toSet ?_; refine tS_Ld H (fun w H => ?_)) | (refine toSets ?_; refine tG_Ld H (fun w H => ?_)) | refine H.drewK (fun w H => ?_) | refine H.allocK (fun w H => ?_)))
    refine exVal (H.cell 1 rfl rfl) ?_
    (repeat (first | refine PtrSome_at ?_ | refine andOne ?_ | ((first | apply exSlice | apply exInt | apply exBool | apply exPtr | apply exVal | apply andCell | apply andBd | apply andCan | apply andThere); · exact tC_Ld) | (refine toSet ?_; refine tS_Ld H (fun w H => ?_)) | (refine toSets ?_; refine tG_Ld H (fun w H => ?_)) | refine H.drewK (fun w H => ?_) | refine H.allocK (fun w H => ?_)))
    refine rawIf_v (fun ty iv e => ?_)
    rw [← e]
    refine coG (liLock hf.glob (s.pl t).node (-1)) H (fun w H => ⟨_, rfl, ?_⟩)
    (repeat (first | refine PtrSome_at ?_ | refine andOne ?_ | ((first | apply exSlice | apply exInt | apply exBool | apply exPtr | apply exVal | apply andCell | apply andBd | apply andCan | apply andThere); · exact tC_Ld) | (refine toSet ?_; refine tS_Ld H (fun w H => ?_)) | (refine toSets ?_; refine tG_Ld H (fun w H => ?_)) | refine H.drewK (fun w H => ?_) | refine H.allocK (fun w H => ?_)))
    refine ⟨?_, H.tail.to ?_⟩
    · simp [CS.doE, c]
    · simp [cohL, hsame, CS.doS, CS.doP, c, CS.todo, CS.put, CS.pl]
  · refine Br_ne c ?_
    (repeat (first | refine PtrSome_at ?_ | refine andOne ?_ | ((first | apply exSlice | apply exInt | apply exBool | apply exPtr | apply exVal | apply andCell | apply andBd | apply andCan | apply andThere); · exact tC_Ld) | (refine toSet ?_; refine tS_Ld H (fun w H => ?_)) | (refine toSets ?_; refine tG_Ld H (fun w H => ?_)) | refine H.drewK (fun w H => ?_) | refine H.allocK (fun w H => ?_)))
    refine ⟨?_, H.tail.to ?_⟩
    · simp [CS.doE, c]
    · simp [cohL, hsame, CS.doS, CS.doP, c]
theorem cohFinish (a : CA) (s : CS) (p : PS) (hf : s.fits a) (ho : s.ok) (hp : p.wf) (t u now : Int) (ht : s.ss.there t = true) :
    Sp Tryz.prog 201 #[ptr a.l, .pointer (some ⟨a.rb, 0 + t.toNat * 4, none⟩), i64 u, i64 now] (cohL a s ++ portL a.pa p) (didV (s.doE p t u 8)) (cohL a (s.doS p t u 8) ++ portL a.pa (s.doP p t u 8)) := by
  obtain ⟨h1, h2⟩ := seat_there ht
  have e1 : s.places.length = s.ss.l.length := ho.len
  have e2 : t.toNat < s.places.length := by omega
  obtain ⟨hn, x, hx⟩ := ho.node t ht
  obtain ⟨a1, X, Y, ha1, hfx, hwx, hset, hfit⟩ := locs_at hf.locs hx
  have hpa1 : a1.pa = a.pa := hf.pl _ (List.mem_of_getElem? ha1) _ rfl
  have hpg : a.glob.pa = a.pa := hf.pg
  have hloc : s.loc t = x := by simp [CS.loc, List.getD_eq_getElem?_getD, hx]
  have hsame := hset x
  rw [locs_same hx] at hsame
  have hset' := hset
  simp only [CS.pl, List.getD_eq_getElem?_getD] at hset'
  have hcell : ∀ P0 : List Value, P0.length = 5 → ∀ Z : List Value, (P0 ++ (a.locs.map optV ++ Z))[5 + (s.pl t).node.toNat]? = some a1.v := fun P0 h5 Z => coCell ha1 h5
  intro w0 S w B H
  simp only [cohL, hsame, List.cons_append, List.append_assoc] at H
  refine callsCohortLock_finish _ _ _ _ _ _ _ ?_
  unfold preCohortLock_finish
  (repeat (first | refine PtrSome_at ?_ | refine andOne ?_ | ((first | apply exSlice | apply exInt | apply exBool | apply exPtr | apply exVal | apply andCell | apply andBd | apply andCan | apply andThere); · exact tC_Ld) | (refine toSet ?_; refine tS_Ld H (fun w H => ?_)) | (refine toSets ?_; refine tG_Ld H (fun w H => ?_)) | refine H.drewK (fun w H => ?_) | refine H.allocK (fun w H => ?_)))
  refine coP (portStore a.pa p hp u (s.at_ t) 0) H (fun w H => ⟨rfl, ?_⟩)
  (repeat (first | refine PtrSome_at ?_ | refine andOne ?_ | ((first | apply exSlice | apply exInt | apply exBool | apply exPtr | apply exVal | apply andCell | apply andBd | apply andCan | apply andThere); · exact tC_Ld) | (refine toSet ?_; refine tS_Ld H (fun w H => ?_)) | (refine toSets ?_; refine tG_Ld H (fun w H => ?_)) | refine H.drewK (fun w H => ?_) | refine H.allocK (fun w H => ?_)))
  refine exVal (H.cell 1 rfl rfl) ?_
  (repeat (first | refine PtrSome_at ?_ | refine andOne ?_ | ((first | apply exSlice | apply exInt | apply exBool | apply exPtr | apply exVal | apply andCell | apply andBd | apply andCan | apply andThere); · exact tC_Ld) | (refine toSet ?_; refine tS_Ld H (fun w H => ?_)) | (refine toSets ?_; refine tG_Ld H (fun w H => ?_)) | refine H.drewK (fun w H => ?_) | refine H.allocK (fun w H => ?_)))
  refine rawIf_v (fun ty iv e => ?_)
  rw [← e]
  refine coG (liUnlock hf.glob (s.pl t).node) H (fun w H => ⟨_, rfl, ?_⟩)
  (repeat (first | refine PtrSome_at ?_ | refine andOne ?_ | ((first | apply exSlice | apply exInt | apply exBool | apply exPtr | apply exVal | apply andCell | apply andBd | apply andCan | apply andThere); · exact tC_Ld) | (refine toSet ?_; refine tS_Ld H (fun w H => ?_)) | (refine toSets ?_; refine tG_Ld H (fun w H => ?_)) | refine H.drewK (fun w H => ?_) | refine H.allocK (fun w H => ?_)))
  refine ⟨rfl, H.tail.to ?_⟩
  simp [cohL, hsame, CS.doS, CS.doP, CS.todo, CS.put, CS.pl]
theorem cohAway (a : CA) (s : CS) (p : PS) (hf : s.fits a) (ho : s.ok) (t : Int) (ht : s.ss.there t = true) :
    Sp Tryz.prog 241 #[ptr a.l, .pointer (some ⟨a.rb, 0 + t.toNat * 4, none⟩)] (cohL a s ++ portL a.pa p) (didV { ev := 0 }) (cohL a (s.away t) ++ portL a.pa p) := by
  obtain ⟨h1, h2⟩ := seat_there ht
  have e1 : s.places.length = s.ss.l.length := ho.len
  have e2 : t.toNat < s.places.length := by omega
  obtain ⟨hn, x, hx⟩ := ho.node t ht
  obtain ⟨a1, X, Y, ha1, hfx, hwx, hset, hfit⟩ := locs_at hf.locs hx
  have hpa1 : a1.pa = a.pa := hf.pl _ (List.mem_of_getElem? ha1) _ rfl
  have hpg : a.glob.pa = a.pa := hf.pg
  have hloc : s.loc t = x := by simp [CS.loc, List.getD_eq_getElem?_getD, hx]
  have hsame := hset x
  rw [locs_same hx] at hsame
  have hset' := hset
  simp only [CS.pl, List.getD_eq_getElem?_getD] at hset'
  have hcell : ∀ P0 : List Value, P0.length = 5 → ∀ Z : List Value, (P0 ++ (a.locs.map optV ++ Z))[5 + (s.pl t).node.toNat]? = some a1.v := fun P0 h5 Z => coCell ha1 h5
  intro w0 S w B H
  simp only [cohL, hsame, List.cons_append, List.append_assoc] at H
  refine callsCohortLock_away _ _ _ _ _ ?_
  unfold preCohortLock_away
  (repeat (first | refine PtrSome_at ?_ | refine andOne ?_ | ((first | apply exSlice | apply exInt | apply exBool | apply exPtr | apply exVal | apply andCell | apply andBd | apply andCan | apply andThere); · exact tC_Ld) | (refine toSet ?_; refine tS_Ld H (fun w H => ?_)) | (refine toSets ?_; refine tG_Ld H (fun w H => ?_)) | refine H.drewK (fun w H => ?_) | refine H.allocK (fun w H => ?_)))
  refine ⟨hn, exVal (H.cell 1 rfl (hcell [_, _, _, _, _] rfl _)) ?_⟩
  (repeat (first | refine PtrSome_at ?_ | refine andOne ?_ | ((first | apply exSlice | apply exInt | apply exBool | apply exPtr | apply exVal | apply andCell | apply andBd | apply andCan | apply andThere); · exact tC_Ld) | (refine toSet ?_; refine tS_Ld H (fun w H => ?_)) | (refine toSets ?_; refine tG_Ld H (fun w H => ?_)) | refine H.drewK (fun w H => ?_) | refine H.allocK (fun w H => ?_)))
  refine rawIf_v (fun ty iv e => ?_)
  rw [← e]
  refine coL (liUnlock hfx (s.pl t).inner) H (fun w H => ⟨_, rfl, ?_⟩)
  (repeat (first | refine PtrSome_at ?_ | refine andOne ?_ | ((first | apply exSlice | apply exInt | apply exBool | apply exPtr | apply exVal | apply andCell | apply andBd | apply andCan | apply andThere); · exact tC_Ld) | (refine toSet ?_; refine tS_Ld H (fun w H => ?_)) | (refine toSets ?_; refine tG_Ld H (fun w H => ?_)) | refine H.drewK (fun w H => ?_) | refine H.allocK (fun w H => ?_)))
  refine ⟨rfl, H.tail.to ?_⟩
  simp [cohL, CS.away, CS.setLoc, hset', hloc, CS.todo, CS.put, CS.pl]
theorem cohOut (a : CA) (s : CS) (p : PS) (hf : s.fits a) (ho : s.ok) (hp : p.wf) (t u now : Int) (ht : s.ss.there t = true) :
    Sp Tryz.prog 255 #[ptr a.l, .pointer (some ⟨a.rb, 0 + t.toNat * 4, none⟩), i64 u, i64 now] (cohL a s ++ portL a.pa p) (didV (s.doE p t u 10)) (cohL a (s.doS p t u 10) ++ portL a.pa (s.doP p t u 10)) := by
  obtain ⟨h1, h2⟩ := seat_there ht
  have e1 : s.places.length = s.ss.l.length := ho.len
  have e2 : t.toNat < s.places.length := by omega
  obtain ⟨hn, x, hx⟩ := ho.node t ht
  obtain ⟨a1, X, Y, ha1, hfx, hwx, hset, hfit⟩ := locs_at hf.locs hx
  have hpa1 : a1.pa = a.pa := hf.pl _ (List.mem_of_getElem? ha1) _ rfl
  have hpg : a.glob.pa = a.pa := hf.pg
  have hloc : s.loc t = x := by simp [CS.loc, List.getD_eq_getElem?_getD, hx]
  have hsame := hset x
  rw [locs_same hx] at hsame
  have hset' := hset
  simp only [CS.pl, List.getD_eq_getElem?_getD] at hset'
  have hcell : ∀ P0 : List Value, P0.length = 5 → ∀ Z : List Value, (P0 ++ (a.locs.map optV ++ Z))[5 + (s.pl t).node.toNat]? = some a1.v := fun P0 h5 Z => coCell ha1 h5
  intro w0 S w B H
  simp only [cohL, hsame, List.cons_append, List.append_assoc] at H
  have hst := liStep hfx hwx hp (s.pl t).inner u now
  rw [hpa1] at hst
  refine callsCohortLock_out _ _ _ _ _ _ _ ?_
  unfold preCohortLock_out
  (repeat (first | refine PtrSome_at ?_ | refine andOne ?_ | ((first | apply exSlice | apply exInt | apply exBool | apply exPtr | apply exVal | apply andCell | apply andBd | apply andCan | apply andThere); · exact tC_Ld) | (refine toSet ?_; refine tS_Ld H (fun w H => ?_)) | (refine toSets ?_; refine tG_Ld H (fun w H => ?_)) | refine H.drewK (fun w H => ?_) | refine H.allocK (fun w H => ?_)))
  refine ⟨hn, exVal (H.cell 1 rfl (hcell [_, _, _, _, _] rfl _)) ?_⟩
  (repeat (first | refine PtrSome_at ?_ | refine andOne ?_ | ((first | apply exSlice | apply exInt | apply exBool | apply exPtr | apply exVal | apply andCell | apply andBd | apply andCan | apply andThere); · exact tC_Ld) | (refine toSet ?_; refine tS_Ld H (fun w H => ?_)) | (refine toSets ?_; refine tG_Ld H (fun w H => ?_)) | refine H.drewK (fun w H => ?_) | refine H.allocK (fun w H => ?_)))
  refine rawIf_v (fun ty iv e => ?_)
  rw [← e]
  refine coLS hst H (fun w H => ⟨_, _, _, _, rfl, ?_⟩)
  (repeat (first | refine PtrSome_at ?_ | refine andOne ?_ | ((first | apply exSlice | apply exInt | apply exBool | apply exPtr | apply exVal | apply andCell | apply andBd | apply andCan | apply andThere); · exact tC_Ld) | (refine toSet ?_; refine tS_Ld H (fun w H => ?_)) | (refine toSets ?_; refine tG_Ld H (fun w H => ?_)) | refine H.drewK (fun w H => ?_) | refine H.allocK (fun w H => ?_)))
  refine ⟨?_, H.tail.to ?_⟩
  · simp [CS.doE, hloc]
  · simp [cohL, CS.doS, CS.doP, CS.setLoc, hset', hloc, CS.todo, CS.put, CS.pl]
end Go.Proofs.YtollfjfcdofbaaaGreat
