/- The laws of the machine: the walks. -/
import Derived.Test.YtollfjfcdofbaaaGreatNa
namespace Go.Proofs.YtollfjfcdofbaaaGreat
open Go Go.Proofs
set_option linter.unusedSimpArgs false
set_option linter.unusedVariables false
set_option maxRecDepth 100000
set_option maxHeartbeats 4000000
-- NB 3

theorem machineNews (c : Cf) (p : Option Addr) (cap : Nat) (W : World) (hr : ROi W [] p c.homes) :
    Calls Tryz.prog 10 #[c.val p cap] W (True_ W) := by
  have H : St W [] W [] := St.start (L := []) (by simp) (by simp)
  refine callsWeighlocklaw18MachineNews _ _ _ _ _ _ _ _ _ _ _ _ ?_
  unfold preWeighlocklaw18MachineNews
  refine H.allocK (fun w1 H => exSlice (H.cell 0 rfl rfl) ?_)
  have aw : ∀ {w : World} {L : Blocks}, St W [] w L → Calls Tryz.prog 50 #[] w fun e4 w5 => ∃ b6, e4 = Ending.returned (.bool b6) ∧ True_ W (.returned (.bool b6)) w5 :=
    fun {w} {L} H => awake18.go H [] L (by simp) (fun w H => ⟨_, rfl, rfl, H.upd⟩)
  by_cases h80 : ((c.homes.length : Nat) : Int) > 80
  · exact Br_t h80 (aw H)
  have hl : c.homes.length ≤ 1000000 := by omega
  refine Br_f h80 ?_
  refine exInt (H.cell 0 rfl rfl) (exSlice (H.cell 0 rfl rfl) (exInt (H.cell 0 rfl rfl) (exInt (H.cell 0 rfl rfl) (exInt (H.cell 0 rfl rfl) (exInt (H.cell 0 rfl rfl) (exInt (H.cell 0 rfl rfl) (exInt (H.cell 0 rfl rfl) ?_)))))))
  refine (machNew c p cap hl).go H [_] [] rfl (hr.sub H (by simp)) (fun r A w2 hq H => ?_)
  have rest : ∀ {w : World} {L : Blocks} {x : Nat × List Value}, St W [] w (x :: L) → True := fun _ => trivial
  rcases hq with ⟨he, rfl, rfl⟩ | ⟨he, a, rfl, htp, htm, hok, rfl⟩
  · refine ⟨_, _, rfl, ?_⟩
    simp only [List.cons_append, List.nil_append] at H
    refine exInt (H.cell 0 rfl rfl) (exSlice (H.cell 0 rfl rfl) (exInt (H.cell 0 rfl rfl) (exInt (H.cell 0 rfl rfl) (exInt (H.cell 0 rfl rfl) (exInt (H.cell 0 rfl rfl) (exInt (H.cell 0 rfl rfl) (exInt (H.cell 0 rfl rfl) ?_)))))))
    refine (law17Ref c p cap []).go H [] _ rfl (fun w3 H => ⟨_, _, _, _, _, _, _, _, _, _, rfl, ?_⟩)
    refine (refCheck c p cap hl).go H [] _ rfl (hr.sub H (by simp)) (fun r A w4 hq H => ?_)
    obtain ⟨rfl, rfl⟩ := hq
    exact ⟨_, rfl, Br_ne he (Br_pos rfl (Br_eq rfl (aw H)))⟩
  · refine ⟨_, _, rfl, ?_⟩
    simp only [List.cons_append, List.nil_append] at H
    refine exInt (H.cell 0 rfl rfl) (exSlice (H.cell 0 rfl rfl) (exInt (H.cell 0 rfl rfl) (exInt (H.cell 0 rfl rfl) (exInt (H.cell 0 rfl rfl) (exInt (H.cell 0 rfl rfl) (exInt (H.cell 0 rfl rfl) (exInt (H.cell 0 rfl rfl) ?_)))))))
    refine (law17Ref c p cap []).go H [] _ rfl (fun w3 H => ⟨_, _, _, _, _, _, _, _, _, _, rfl, ?_⟩)
    refine (refCheck c p cap hl).go H [] _ rfl (hr.sub H (by simp)) (fun r A w4 hq H => ?_)
    obtain ⟨rfl, rfl⟩ := hq
    refine ⟨_, rfl, Br_nne he (H.drewK (fun w5 H => Br_eq rfl (Br_pos rfl ?_)))⟩
    simp only [List.nil_append] at H
    have hok' : (MS.first c).ok a := hok.ok (fun _ => by rw [htm]; rfl)
    refine exSlice (H.cell 0 rfl rfl) ((machLen a (MS.first c) hok').go H [_] [] rfl (fun w6 H => ⟨_, rfl, H.cell 0 rfl rfl, Br_eq (by simp only [MS.first]; rw [c.first_len]) ?_⟩))
    refine (machNow a (MS.first c)).go H [_] [] rfl (fun w7 H => ⟨_, rfl, Br_eq rfl ?_⟩)
    refine (machTrace a (MS.first c) hok' (by simp [MS.first])).go H [_] [] rfl (fun r A w8 hq H => ?_)
    obtain ⟨bp, more, rfl, _, rfl⟩ := hq
    refine ⟨_, _, _, rfl, Br_eq rfl ?_⟩
    refine (machIdle a (MS.first c)).go H (_ :: slB enRow bp ((MS.first c).tr ++ more)) [] (by simp; rfl) (fun w9 H => ⟨_, rfl, Br_eq rfl (aw H)⟩)
end Go.Proofs.YtollfjfcdofbaaaGreat
