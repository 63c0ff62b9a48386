/- The machine: made; run; its port asked. -/
import Derived.Test.YtollfjfcdofbaaaGreatMc
namespace Go.Proofs.YtollfjfcdofbaaaGreat
open Go Go.Proofs
set_option linter.unusedSimpArgs false
set_option linter.unusedVariables false
set_option maxRecDepth 100000
set_option maxHeartbeats 4000000
-- NB 3

/-- a machine at first -/
def MS.first (c : Cf) : MS := ⟨c.first, PS.first c.homes.length c.wh c.ww, [], 0, 0, List.replicate c.homes.length 0⟩
theorem notAgg_v (a : LkA) : notAgg a.v = true := by
  cases a with
  | inn a => cases a <;> rfl
  | _ => rfl
theorem machNew (c : Cf) (p : Option Addr) (cap : Nat) (hl : c.homes.length ≤ 1000000) :
    SpR Tryz.prog 51 #[c.val p cap] (fun w S => ROi w S p c.homes) [] (fun r A =>
      (c.err ≠ 0 ∧ r = .tuple #[.pointer none, i64 c.err] ∧ A = []) ∨
      (c.err = 0 ∧ ∃ a : MA, r = .tuple #[ptr a.m, i64 0] ∧ a.tp = none ∧ a.tm = [] ∧ MS.ok1 a.la (MS.first c) ∧ A = machL a (MS.first c))) := by
  intro w0 S w B hr H
  refine callsMachineNew _ _ _ _ _ _ _ _ _ _ _ _ ?_
  unfold preMachineNew
  refine H.allocK (fun w H => exInt (H.cell 0 rfl rfl) (exSlice (H.cell 0 rfl rfl) (exInt (H.cell 0 rfl rfl) (exInt (H.cell 0 rfl rfl) (exInt (H.cell 0 rfl rfl) (exInt (H.cell 0 rfl rfl) (exInt (H.cell 0 rfl rfl) (exInt (H.cell 0 rfl rfl) ?_))))))))
  refine (buildNew c p cap hl).go H.tail [] B rfl (hr.sub H (by simp)) (fun r A w hq H => ?_)
  rcases hq with ⟨he, rfl, rfl⟩ | ⟨he, la, rfl, hg, rfl⟩
  · exact ⟨_, _, _, rfl, Br_ne he ⟨_, [], rfl, Or.inl ⟨he, rfl, rfl⟩, H⟩⟩
  · refine ⟨_, _, _, rfl, Br_nne rfl ?_⟩
    have hn := (Cf.err_ok he).2.1
    have hfl := c.first_len
    refine (lkLen hg).go H [] (portL la.pa (PS.first c.homes.length c.wh c.ww) ++ B) (by simp) (fun w H => ⟨_, rfl, ?_⟩)
    rw [hfl]
    have h64 := hn.1.2
    refine ⟨⟨by omega, by omega, by omega, by omega⟩, H.allocK (fun w1 H => ⟨notAgg_v la, H.allocK (fun w2 H => ?_)⟩)⟩
    rw [made_ints] at H
    simp only [Int.toNat_natCast] at H ⊢
    refine ⟨_, _, rfl, Or.inr ⟨he, ⟨w1.heap.size, none, [], w.heap.size, la⟩, rfl, rfl, rfl, ⟨hg, PS.first_wf _ _ _ (wh_ww_len he), ?_⟩, rfl⟩, H.to ?_⟩
    · simp [MS.first, hfl]
    · simp [machL, MS.first, slB, slA]
/-! ## events -/
abbrev evRow (x : Int × Int × Int) : List Value := [(.int .i64 x.1), (.int .i64 x.2.1), (.int .i64 x.2.2)]
theorem evRow_set0 (xs : List (Int × Int × Int)) (i : Nat) (v : Int) : (rows evRow xs).set (0 + i * 3) (.int .i64 v) = rows evRow (xs.set i (v, (xs.getD i default).2.1, (xs.getD i default).2.2)) := rows_set0 (f := evRow) (s := 3) (fun _ => rfl) (by decide) xs i (v, (xs.getD i default).2.1, (xs.getD i default).2.2) rfl
theorem evRow_set1 (xs : List (Int × Int × Int)) (i : Nat) (v : Int) : (rows evRow xs).set (0 + i * 3 + 1) (.int .i64 v) = rows evRow (xs.set i ((xs.getD i default).1, v, (xs.getD i default).2.2)) := rows_set1 (f := evRow) (s := 3) (fun _ => rfl) (by decide) xs i ((xs.getD i default).1, v, (xs.getD i default).2.2) rfl
theorem evRow_set2 (xs : List (Int × Int × Int)) (i : Nat) (v : Int) : (rows evRow xs).set (0 + i * 3 + 2) (.int .i64 v) = rows evRow (xs.set i ((xs.getD i default).1, (xs.getD i default).2.1, v)) := rows_set1 (f := evRow) (s := 3) (fun _ => rfl) (by decide) xs i ((xs.getD i default).1, (xs.getD i default).2.1, v) rfl
theorem bkSets_evRow {w0 w : World} {S : List Nat} {L : Blocks} {b : Nat} {K : World → Prop} {xs : List (Int × Int × Int)} {j : Nat} {v0 : Int} {v1 : Int} {v2 : Int} (H : St w0 S w L) (i : Nat) (h : L[i]? = some (b, rows evRow xs)) (hj : j < xs.length) (k : ∀ w', St w0 S w' (L.set i (b, rows evRow (xs.set j (v0, v1, v2)))) → K w') : SetsG w b (0 + j * 3) [(.int .i64 v0), (.int .i64 v1), (.int .i64 v2)] K := St.setsR (f := evRow) (s := 3) (fun _ => rfl) H i h (v0, v1, v2) hj rfl (K := fun w' => K w') k _ rfl
theorem evs_get (l : List MS.Ev) (i j : Nat) (h : i < l.length) (v : Value) (hj : j < 3) (hv : (evRow (l.getD i default))[j]? = some v) : (l.flatMap evRow)[i * 3 + j]? = some v := by
  rw [← hv]
  exact rowsA_getL (f := evRow) (s := 3) (fun _ => rfl) l i j _ (by simp [h]) hj
theorem machRun (a : MA) (s : MS) (ho : s.ok a) (p : Option Addr) (l : List MS.Ev) (c : Nat) (hl : s.tr.length + 3 * l.length ≤ 900000) :
    SpR Tryz.prog 58 #[ptr a.m, .slice p l.length c] (fun w S => RO w S p (l.flatMap evRow)) (machL a s) (fun r A => r = i64 (s.runN l) ∧ MQ a (s.run l) A) := by
  intro w0 S w B hr H
  refine callsMachineMachineRun _ _ _ _ _ _ ?_
  unfold preMachineMachineRun
  refine ⟨fun n i w' => (0 ≤ i ∧ i ≤ l.length) ∧ n = s.runN (l.take i.toNat) ∧ ∃ tp' tm', (tp' = none → (s.run (l.take i.toNat)).tr ++ tm' = []) ∧ St w0 S w' (machL (a.at_ tp' tm') (s.run (l.take i.toNat)) ++ B),
    fun _ i _ => (l.length - i).toNat, ⟨⟨by omega, by omega⟩, by simp [MS.runN], a.tp, a.tm, by simpa [MS.run] using ho.tn, H⟩, ?_⟩
  rintro _g w n i ⟨⟨h0, h1⟩, rfl, tp, tm, htn, H⟩
  by_cases c1 : i < l.length
  · have hi : i.toNat < l.length := by omega
    generalize he : l.getD i.toNat default = e
    have hrd : ∀ j v, j < 3 → (evRow e)[j]? = some v → ∃ b o, p = some ⟨b, o, none⟩ ∧ w.cell? ⟨b, o + (i.toNat * 3 + j), none⟩ = some v := fun j v hj hv => RO.read hr H (evs_get l i.toNat j hi v hj (by rw [he]; exact hv))
    obtain ⟨b, o, rfl, k0⟩ := hrd 0 _ (by decide) rfl
    obtain ⟨_, _, e1, k1⟩ := hrd 1 _ (by decide) rfl
    cases e1
    obtain ⟨_, _, e2, k2⟩ := hrd 2 _ (by decide) rfl
    cases e2
    refine Br_t c1 ⟨⟨h0, c1⟩, PtrSome_at (exInt (by simpa [Nat.add_assoc] using k0) (exInt (by simpa [Nat.add_assoc] using k1) (exInt (by simpa [Nat.add_assoc] using k2) ?_)))⟩
    refine H.allocK (fun w H => ⟨H.thereF 0 rfl rfl, H.setsF 0 rfl rfl (fun w H => exInt (H.cell 0 rfl rfl) (exInt (H.cell 0 rfl rfl) (exInt (H.cell 0 rfl rfl) ?_)))⟩)
    have hlen := MS.run_len s (l.take i.toNat)
    rw [List.length_take] at hlen
    have hok : (s.run (l.take i.toNat)).ok (a.at_ tp tm) := MS.ok1.ok (a := a.at_ tp tm) (MS.ok1_run ho.ok1 (l.take i.toNat)) htn
    refine (machDo (a.at_ tp tm) (s.run (l.take i.toNat)) hok (by omega) e).go H.tail [] B rfl (fun r A w hq H => ?_)
    obtain ⟨rfl, tp', tm', rfl, htn'⟩ := hq
    have et : (i + 1).toNat = i.toNat + 1 := by omega
    have htk : l.take (i.toNat + 1) = l.take i.toNat ++ [e] := by
      rw [List.take_add_one, List.getElem?_eq_getElem hi, ← he, List.getD_eq_getElem?_getD, List.getElem?_eq_getElem hi]; rfl
    have hbd := MS.runN_bd s (l.take i.toNat)
    rw [List.length_take] at hbd
    have hrun : s.run (l.take (i + 1).toNat) = (s.run (l.take i.toNat)).do_ e := by rw [et, htk, MS.run_snoc]
    have hN : s.runN (l.take (i + 1).toNat) = s.runN (l.take i.toNat) + (if (s.run (l.take i.toNat)).doB e = true then 1 else 0) := by
      rw [et, htk, MS.runN_app]; simp [MS.runN]
    refine ⟨_, rfl, ?_⟩
    rw [wrap_succ h0 (by omega)]
    cases hb : (s.run (l.take i.toNat)).doB e
    · refine Br_neg rfl ⟨⟨⟨by omega, by omega⟩, ?_, tp', tm', ?_, H.to ?_⟩, show (l.length - (i + 1)).toNat < (l.length - i).toNat by omega⟩
      · rw [hN, hb]; simp
      · rw [hrun]; exact htn'
      · rw [hrun]; rfl
    · refine Br_pos rfl ?_
      rw [wrap_succ hbd.1 (by omega)]
      refine ⟨⟨⟨by omega, by omega⟩, ?_, tp', tm', ?_, H.to ?_⟩, show (l.length - (i + 1)).toNat < (l.length - i).toNat by omega⟩
      · rw [hN, hb]; simp
      · rw [hrun]; exact htn'
      · rw [hrun]; rfl
  · have ei : i.toNat = l.length := by omega
    rw [ei, List.take_length] at htn H ⊢
    exact Br_f c1 ⟨_, _, rfl, ⟨rfl, tp, tm, rfl, htn⟩, H⟩
end Go.Proofs.YtollfjfcdofbaaaGreat
