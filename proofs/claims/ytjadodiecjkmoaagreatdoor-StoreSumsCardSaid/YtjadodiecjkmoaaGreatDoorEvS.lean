/-
  A closed call that begins where tables of the program's are laid.
-/
import Derived.Test.YtjadodiecjkmoaaGreatDoorEvR
namespace Go.Ev
set_option linter.unusedVariables false
set_option linter.unusedSimpArgs false
open Go Go.Wf Go.RowKit

def blkG (cs : List AV) : Blk := ⟨0, false, true, cs, .glb⟩
noncomputable def tabs (l : List (Nat × List AV)) : T5 (Option Blk) := List.rec (fill5 none) (fun p _ ih => set5 p.1 (some (blkG p.2)) ih) l
/-- memory that holds tables alone, n blocks in all -/
noncomputable def hpG (n : Nat) (l : List (Nat × List AV)) : Hp := ⟨tabs l, n⟩
/-- the tables lie in the world -/
def TabsIn (w : World) (n : Nat) (l : List (Nat × List AV)) : Prop := ∀ p ∈ l, p.1 < n ∧ ∃ C T fr, w.heap[p.1]? = some (.cells C T fr) ∧ ∀ Φ, CR Φ C 0 p.2
theorem tabs_get {l : List (Nat × List AV)} (hl : ∀ p ∈ l, p.1 < big5) {id : Nat} (hid : id < big5) : (∃ p ∈ l, p.1 = id ∧ get5 id (tabs l) = some (blkG p.2)) ∨ (∀ p ∈ l, p.1 ≠ id) ∧ get5 id (tabs l) = none := by
  induction l with
  | nil => exact .inr ⟨fun _ h => (by cases h), get5_fill id none⟩
  | cons p l ih =>
    have e : tabs (p :: l) = set5 p.1 (some (blkG p.2)) (tabs l) := rfl
    rw [e, get5_set5 _ _ _ _ hid (hl p (by simp))]
    by_cases h : id = p.1
    · rw [if_pos h]; exact .inl ⟨p, by simp, h.symm, rfl⟩
    · rw [if_neg h]
      rcases ih (fun q hq => hl q (by simp [hq])) with ⟨q, h1, h2, h3⟩ | ⟨h1, h2⟩
      · exact .inl ⟨q, by simp [h1], h2, h3⟩
      · refine .inr ⟨?_, h2⟩
        intro q hq
        rcases List.mem_cons.1 hq with rfl | hq
        · exact fun e => h e.symm
        · exact h1 q hq
def PhiG (l : List (Nat × List AV)) : Phi := fun id => if id ∈ l.map (·.1) then some ⟨id, 0, 0⟩ else none
def TauG (l : List (Nat × List AV)) : Tau := fun g => if g ∈ l.map (·.1) then .ro else .out
theorem relG {w : World} {n : Nat} {l : List (Nat × List AV)} (hn : n ≤ big5) (h : TabsIn w n l) : Rel (PhiG l) (TauG l) (hpG n l) w := by
  have hl : ∀ p ∈ l, p.1 < big5 := fun p hp => Nat.lt_of_lt_of_le (h p hp).1 hn
  refine ⟨hn, ?_, ?_⟩
  · intro id b hid hb
    have hb : get5 id (tabs l) = some b := hb
    have hid : id < n := hid
    rcases tabs_get hl (Nat.lt_of_lt_of_le hid hn) with ⟨p, h1, rfl, h3⟩ | ⟨_, h2⟩
    · rw [h3] at hb
      cases hb
      obtain ⟨_, C, T, fr, h4, h5⟩ := h p h1
      have hm : p.1 ∈ l.map (·.1) := List.mem_map_of_mem h1
      exact .inr (.inr (.inl ⟨⟨p.1, 0, 0⟩, C, ⟨if_pos hm, rfl, if_pos hm, rfl, rfl, ⟨T, fr, h4⟩, h5 _⟩⟩))
    · rw [h2] at hb; cases hb
  · intro id h1 h2
    rcases tabs_get hl h2 with ⟨p, h3, rfl, _⟩ | ⟨_, h3⟩
    · exact absurd (h p h3).1 (Nat.not_lt.2 h1)
    · exact h3
section
variable {P : Program}
theorem closedG {pr : Prim} {ex : FuncId → Nat} (hx : ExS P ex) (hp : PrimS P pr) (hm : P.follows .mixedOrders = true) {m k n : Nat} {l : List (Nat × List AV)} {args : List AV} {v : AV} {h' : Hp} (e : evCall P pr ex m k args (hpG n l) = .ok v h')
    (w : World) (hn : n ≤ big5) (hw : TabsIn w n l) (vs : List Value) (hv : ∀ Φ, RvL Φ args vs) : Calls P k vs.toArray w fun en w' => (∃ x Φ, en = .returned x ∧ Rv Φ v x) ∧ Below w.heap.size w w' := by
  obtain ⟨_, _, s⟩ := (call_s hx hp hm m).run k args (hpG n l) _ e trivial
  have := s (PhiG l) (TauG l) w vs (relG hn hw) (fun id h1 _ => if_neg (fun hh => by
    obtain ⟨p, hp, rfl⟩ := List.mem_map.1 hh
    exact absurd (hw p hp).1 (Nat.not_lt.2 h1))) (hv _)
  refine this.mono ?_
  intro en w' hh
  cases en with
  | returned x =>
    obtain ⟨v2, h2, e9, Φ', τ', hv, _, t⟩ := hh
    cases e9
    refine ⟨⟨x, Φ', rfl, hv⟩, ⟨t.os, t.tape, t.output, t.size, fun g hg => (t.keep g hg fun id e => ?_).1⟩⟩
    have e : TauG l g = .own id := e
    unfold TauG at e
    split at e <;> cases e
  | panicked ch => obtain ⟨v2, h2, e9, _⟩ := hh; cases e9
  | outgrown => exact hh.elim
theorem closedG_true {pr : Prim} {ex : FuncId → Nat} (hx : ExS P ex) (hp : PrimS P pr) (hm : P.follows .mixedOrders = true) {m k n : Nat} {l : List (Nat × List AV)} (e : tt (evCall P pr ex m k [] (hpG n l)) = true) (hn : n ≤ big5) (w : World) (hw : TabsIn w n l) :
    Calls P k #[] w fun en w' => en = .returned (.bool true) ∧ Below w.heap.size w w' := by
  unfold tt at e
  split at e
  · rename_i h' he
    refine (closedG hx hp hm he w hn hw [] (fun _ => by simp only [RvL])).mono ?_
    rintro en w' ⟨⟨x, Φ, rfl, hv⟩, hb⟩
    rw [hv.bI]
    exact ⟨rfl, hb⟩
  · cases e
end
end Go.Ev
