/- Part 12 of the texts for the claim. -/
import Derived.Test.YtoipokalbjjghaaGreatDoorStaudt11
set_option linter.unusedVariables false
set_option linter.unusedSimpArgs false
namespace Go.Ev
set_option linter.unusedVariables false
set_option linter.unusedSimpArgs false
open Go Go.Wf Go.Proofs
noncomputable def nF : List In → Option (List Ou)
  | [.n (.ofNat m)] => bif Nat.beq m 4 || Nat.beq m 6 || Nat.beq m 10 || Nat.beq m 12 || Nat.beq m 16 || Nat.beq m 18 || Nat.beq m 22 || Nat.beq m 28 || Nat.beq m 30 || Nat.beq m 36 || Nat.beq m 40 then some [.qs (bnQ (Nat.succ m))] else none
  | _ => none
theorem con_num : ConT Tryz.prog tabs1 345 nF := by
  intro X w n ins vs os hX hT hn hw hin e
  have hw2 : TabsIn w 2 tabs1 := fun p hp => by
    obtain rfl : p = (1, tab64) := by simpa using hp
    exact ⟨by decide, (hw _ hp).2⟩
  have key : ∀ m, chkQs (numR m) (bnQ (m + 1)) = true → Calls Tryz.prog 345 #[.int .i64 (Int.ofNat m)] w (Ret w fun v w' => PoR X w' [.qs (bnQ (m + 1))] v) := fun m hm =>
    closedQs exS0 (prL_s TA_ok) mixed hm X w hX hT (by decide) hw2 [_] (fun Φ => by simp only [RvL, Rv]; exact ⟨_, _, rfl, rfl, rfl⟩)
  unfold nF at e
  split at e
  · rename_i m
    cases hb : (Nat.beq m 4 || Nat.beq m 6 || Nat.beq m 10 || Nat.beq m 12 || Nat.beq m 16 || Nat.beq m 18 || Nat.beq m 22 || Nat.beq m 28 || Nat.beq m 30 || Nat.beq m 36 || Nat.beq m 40) with
    | false => rw [hb] at e; cases e
    | true =>
      rw [hb] at e
      cases e
      obtain ⟨v, u, rfl, rfl, rfl⟩ := hin
      simp only [Bool.or_eq_true] at hb
      have q : ∀ {k : Nat}, Nat.beq m k = true → m = k := fun h => Nat.eq_of_beq_eq_true h
      rcases hb with (((((((((hb | hb) | hb) | hb) | hb) | hb) | hb) | hb) | hb) | hb) | hb <;> cases q hb
      · exact key 4 num_4
      · exact key 6 num_6
      · exact key 10 num_10
      · exact key 12 num_12
      · exact key 16 num_16
      · exact key 18 num_18
      · exact key 22 num_22
      · exact key 28 num_28
      · exact key 30 num_30
      · exact key 36 num_36
      · exact key 40 num_40
  · cases e
noncomputable def TB : PrL := (345, prFT tabs1 [.n] nF) :: TA
theorem TB_ok : ∀ e ∈ TB, PrimK Tryz.prog e.1 e.2 := by
  unfold TB
  rw [List.forall_mem_cons]
  exact ⟨primT tabs1_i cb345 con_num, TA_ok⟩
theorem awake_run : tt (evCall Tryz.prog (prL TB) (fun _ => 0) 100 8 [] (hpG 2 tabs1)) = true := by kernel_rfl
def aF : List In → Option (List Ou)
  | [] => some [.b true]
  | _ => none
theorem awake_c {w : World} (hT : TabsIn w 2 tabs1) : Calls Tryz.prog 8 #[] w (Ret w fun v _ => v = .bool true) := by
  refine (closedG_true exS0 (prL_s TB_ok) mixed awake_run (by decide) w hT).mono ?_
  rintro en w' ⟨rfl, hb⟩
  exact ⟨rfl, hb⟩
theorem con_awake : ConT Tryz.prog tabs1 8 aF := by
  intro X w n ins vs os hX hT hn hw hin e
  have hw2 : TabsIn w 2 tabs1 := fun p hp => by
    obtain rfl : p = (1, tab64) := by simpa using hp
    exact ⟨by decide, (hw _ hp).2⟩
  unfold aF at e
  split at e
  · cases e
    have hin : vs = [] := hin
    subst hin
    exact awake_c hw2
  · cases e
noncomputable def TC : PrL := (8, prFT tabs1 [] aF) :: TB
theorem TC_ok : ∀ e ∈ TC, PrimK Tryz.prog e.1 e.2 := by
  unfold TC
  rw [List.forall_mem_cons]
  exact ⟨primT tabs1_i cb8 con_awake, TB_ok⟩
def sq2 (c : Code) : Code := match c with
  | .seq _ b => b
  | c => c
noncomputable def restS : Code := sq2 (sq2 ((Tryz.prog.funcs[3]?.bind (·.body)).getD .skip))
noncomputable def callT : CallF := evCallF Tryz.prog (prL TC) (fun _ => 0) 100
theorem callT_s : CallS Tryz.prog callT := call_s exS0 (prL_s TC_ok) mixed 100
noncomputable abbrev runB (p : Nat) : Bool := ttO (evCode Tryz.prog callT 41 restS (setF 3 (.i .i64 (Int.ofNat p)) (fillF .u)) (hpG 2 tabs1)) 2
end Go.Ev
