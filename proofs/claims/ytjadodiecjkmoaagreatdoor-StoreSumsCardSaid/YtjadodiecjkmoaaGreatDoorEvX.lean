/-
  From a walk by hand to the machine: code that the machine carries out from slots and boxes that are known.
-/
import Derived.Test.YtjadodiecjkmoaaGreatDoorEvS
import Derived.Test.YtjadodiecjkmoaaGreatDoorCoreH
namespace Go.Ev
set_option linter.unusedVariables false
set_option linter.unusedSimpArgs false
open Go Go.Wf Go.RowKit

/-- the code returns, and the slot t holds true -/
noncomputable def ttO (o : Out) (t : Nat) : Bool := match o with
  | .rt f _ => (match getF t f with | .b true => true | _ => false)
  | _ => false
/-- one box of k cells, nothing known of them -/
noncomputable def hp1 (ty k : Nat) : Hp := ⟨set5 0 (some ⟨ty, true, false, repl k [AV.u], .row⟩) (fill5 none), 1⟩
def Phi1 (g k : Nat) : Phi := fun id => if id = 0 then some ⟨g, 0, k⟩ else none
def Tau1 (g : Nat) : Tau := fun b => if b = g then .own 0 else .out
theorem repl_u (k : Nat) : repl k [AV.u] = List.replicate k AV.u := by
  unfold repl
  induction k with
  | zero => rfl
  | succ k ih => rw [List.replicate_succ, List.flatten_cons, ih]; rfl
theorem rel1 {w : World} {g ty : Nat} {vs : List Value} (hw : w.heap[g]? = some (.cells vs.toArray ty (0, 0))) : Rel (Phi1 g vs.length) (Tau1 g) (hp1 ty vs.length) w := by
  have h5 : ∀ id, id < big5 → get5 id (hp1 ty vs.length).t = if id = 0 then some ⟨ty, true, false, repl vs.length [AV.u], .row⟩ else none := by
    intro id hid
    have := get5_set5 id 0 (some (⟨ty, true, false, repl vs.length [AV.u], .row⟩ : Blk)) (fill5 none) hid (by decide)
    rw [get5_fill] at this
    exact this
  refine ⟨(by decide : 1 ≤ big5), ?_, ?_⟩
  · intro id b hid hb
    have hid : id < 1 := hid
    obtain rfl : id = 0 := by omega
    rw [h5 0 (by decide), if_pos rfl] at hb
    cases hb
    refine .inl ⟨⟨g, 0, vs.length⟩, vs.toArray, ty, ⟨if_pos rfl, if_pos rfl, rfl, rfl, ⟨(0, 0), hw, fun _ => rfl⟩, by simp, ?_, fun _ => ⟨rfl, ?_⟩, ?_⟩⟩
    · show (repl vs.length [AV.u]).length ≤ vs.length
      rw [repl_u, List.length_replicate]; exact Nat.le_refl _
    · show (repl vs.length [AV.u]).length = vs.length
      rw [repl_u, List.length_replicate]
    · intro i a hi
      have hi : (repl vs.length [AV.u])[i]? = some a := hi
      rw [repl_u, List.getElem?_replicate] at hi
      split at hi
      · rename_i hlt
        cases hi
        refine ⟨vs[i], by simp [hlt], ?_⟩
        simp only [Rv]
      · cases hi
  · intro id h1 h2
    rw [h5 id h2, if_neg (by have : 1 ≤ id := h1; omega)]
/-- slots: a box, the rest not known -/
theorem fr1 {Φ : Phi} {F : Wf.Fr} {t : Nat} {a : AV} (ht : t < 4096) (h : Rv Φ a (F t)) : FR Φ (setF t a (fillF .u)) F := by
  intro s hs
  rw [getF_setF _ _ _ _ hs ht]
  by_cases e : s = t
  · rw [if_pos e, e]; exact h
  · rw [if_neg e, getF_fill]; simp only [Rv]
section
variable {fc : Fence} [Fw fc] {P : Program} {call : CallF} {n : Nat}
/-- What stands behind: from one box of one's own the machine returns true. -/
theorem tail_true (hc : CallS P call) (hn : n ≤ 4096) (hm : P.follows .mixedOrders = true) {c : Code} {t s g ty : Nat} {vs : List Value} {F : Wf.Fr} {w : World} {D : List Deferred} {Q : Wf.Post}
    (e : ttO (evCode P call n c (setF t (.p 0 0) (fillF .u)) (hp1 ty vs.length)) s = true) (ht : Nat.blt t 4096 = true) (hs : Nat.blt s 4096 = true) (hF : F t = .pointer (some ⟨g, 0, none⟩)) (hw : w.heap[g]? = some (.cells vs.toArray ty (0, 0)))
    (hq : ∀ F' w', F' s = .bool true → (w'.os = w.os ∧ w'.tape = w.tape ∧ w'.output = w.output ∧ w.heap.size ≤ w'.heap.size ∧ ∀ b, b < w.heap.size → b ≠ g → w'.heap[b]? = w.heap[b]?) → Q .ret F' w') : W fc P c n D Q F w := by
  have ok : okO (evCode P call n c (setF t (.p 0 0) (fillF .u)) (hp1 ty vs.length)) := by
    unfold ttO at e
    split at e
    · rename_i ho; rw [ho]; trivial
    · cases e
  obtain ⟨_, s1⟩ := code_s (fc := fc) hc hn hm c _ _ ok
  refine (s1 (Phi1 g vs.length) (Tau1 g) F w D (fr1 (of_blt ht) ?_) (rel1 hw) ?_).mono ?_
  · rw [hF]; simp only [Rv]; exact ⟨⟨g, 0, vs.length⟩, if_pos rfl, by simp⟩
  · intro id h1 _
    exact if_neg (by have : 1 ≤ id := h1; omega)
  · intro ex F' w' q
    unfold ttO at e
    split at e
    · rename_i f1 h1 ho
      rw [ho] at q
      cases ex with
      | ret =>
        obtain ⟨Φ', τ', q1, q2, q3⟩ := q
        split at e
        · rename_i hb
          have := q1 s (of_blt hs)
          rw [hb] at this
          refine hq F' w' this.bI ⟨q3.os, q3.tape, q3.output, q3.size, fun b hb1 hb2 => (q3.keep b hb1 fun id he => ?_).1⟩
          have he : Tau1 g b = .own id := he
          unfold Tau1 at he
          rw [if_neg hb2] at he
          cases he
        · cases e
      | _ => exact q.elim
    · cases e
end
end Go.Ev
