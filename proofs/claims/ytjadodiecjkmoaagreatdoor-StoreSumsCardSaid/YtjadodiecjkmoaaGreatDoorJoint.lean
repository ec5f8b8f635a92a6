/-
  The closed facts of a row of a great program, part by part.
-/
import Derived.JoinedOf
import Derived.ClosedOfChecked
namespace Go.Joint
set_option linter.unusedVariables false
set_option linter.unusedSimpArgs false
open Go

/-- what a function leads to, by its number -/
noncomputable def leads (P : Program) (f : FuncId) : List FuncId := Option.rec [] (fun g => P.leadsTo g) P.funcs[f]?
theorem leads_eq (P : Program) (f : FuncId) : leads P f = (P.funcs[f]?).elim [] P.leadsTo := by unfold leads; cases P.funcs[f]? <;> rfl
/-- the closure, what has been seen as bits -/
noncomputable def clo (P : Program) (n : Nat) : List FuncId → List FuncId → Nat → List FuncId :=
  Nat.rec (fun _ seen _ => seen) (fun _ ih todo seen bits => List.rec seen (fun f todo' _ => Bool.rec (ih (leads P f ++ todo') (f :: seen) (Nat.lor bits (Nat.shiftLeft 1 f))) (ih todo' seen bits) (Nat.beq (Nat.land (Nat.shiftRight bits f) 1) 1)) todo) n
theorem bit_eq (b f : Nat) : Nat.beq (Nat.land (Nat.shiftRight b f) 1) 1 = b.testBit f := by
  have e : Nat.land (Nat.shiftRight b f) 1 = (b >>> f) % 2 := Nat.and_one_is_mod _
  rw [e, Nat.testBit_eq_decide_div_mod_eq, Nat.shiftRight_eq_div_pow]
  have h : b / 2 ^ f % 2 < 2 := Nat.mod_lt _ (by decide)
  cases h1 : b / 2 ^ f % 2 with
  | zero => rfl
  | succ m =>
    cases m with
    | zero => rfl
    | succ k => omega
theorem clo_eq (P : Program) : ∀ (n : Nat) (todo seen : List FuncId) (bits : Nat), (∀ f, bits.testBit f = seen.contains f) → P.closureVia n todo seen = (clo P n todo seen bits).reverse := by
  intro n
  induction n with
  | zero => intro todo seen bits _; rfl
  | succ n ih =>
    intro todo seen bits hb
    cases todo with
    | nil => rfl
    | cons f todo =>
      have e1 : P.closureVia (n + 1) (f :: todo) seen = if seen.contains f then P.closureVia n todo seen else P.closureVia n ((P.funcs[f]?).elim [] P.leadsTo ++ todo) (f :: seen) := rfl
      have e2 : clo P (n + 1) (f :: todo) seen bits = Bool.rec (clo P n (leads P f ++ todo) (f :: seen) (Nat.lor bits (Nat.shiftLeft 1 f))) (clo P n todo seen bits) (Nat.beq (Nat.land (Nat.shiftRight bits f) 1) 1) := rfl
      rw [e1, e2, bit_eq, hb f, leads_eq]
      cases h : seen.contains f with
      | true => exact ih todo seen bits hb
      | false =>
        refine ih _ _ _ fun g => ?_
        have e3 : Nat.lor bits (Nat.shiftLeft 1 f) = bits ||| 1 <<< f := rfl
        rw [e3, Nat.testBit_or, hb g, Nat.one_shiftLeft, Nat.testBit_two_pow, List.contains_cons]
        by_cases h2 : f = g
        · subst h2; simp
        · rw [decide_eq_false h2]
          have : (g == f) = false := by simpa using fun e => h2 e.symm
          rw [this, Bool.or_false, Bool.false_or]
theorem closure_of {P : Program} {f : FuncId} {l : List FuncId} (h : clo P (1 + (P.funcs.toList.map fun g => (P.leadsTo g).length + 1).sum) [f] [] 0 = l) : P.closure f = l.reverse := by
  unfold Program.closure
  rw [clo_eq P _ _ _ 0 (fun f => by simp), h]
theorem joined {P : Program} {f : FuncId} {fn : Func} {s : ChangeSpec} {c : OpenClaim} (h1 : c.wf (OpenSpec.ofChange s) = true) (h2 : laidOutB P = true) (h3 : mapsRowed P = true)
    (h4 : (fn.params.all (P.readableRec ·) && namedTie P c.named s.vars && (c.stops == []) && (P.stops == []) && (c.knobs == []) && (P.stopKnobs == [])) = true)
    (h5 : P.inPlace f = c.inPlace) (h6 : P.unfollowed f = c.unfollowed) (h7 : P.recurses f = c.recurses) (h8 : P.varsNamed f = c.named)
    (h9 : ((c.maps == (fn.params.toList ++ s.plain.varTypes P).any (P.mapsRec ·)) && (c.ifaces == (fn.params.toList ++ s.plain.varTypes P).any (P.ifacesRec ·)) && (c.mapsOut == P.mapsAmong fn.resultTypes.toList) && (c.loops == (fn.params.toList ++ s.plain.varTypes P).any (P.loopsFrom ·)) && (c.wideKeys == (fn.params.toList ++ s.plain.varTypes P ++ fn.resultTypes.toList).any (P.wideKeysFrom ·))) = true)
    (h10 : (s.vars.all (P.varReadable ·) && fn.resultTypes.all (fun t => P.readableRec t && decide (t < P.types.size)) && (c.ifacesOut == fn.resultTypes.toList.any (P.ifacesRec ·)) && (c.loopsOut == fn.resultTypes.toList.any (P.loopsFrom ·))) = true)
    (h11 : P.plainKeys = c.plainKeys) (h12 : (c.shortTexts.isNone && P.stopsHeard) = true) (h13 : P.mayEnter = true) (h14 : (c.lifted == P.liftsFinal && (P.make == some c.make)) = true)
    (h15 : ((c.kinds == (if c.domain.isEmpty then [] else fn.params.toList.map fun t => match P.underlying t with | some (.int k) => some k | _ => none)) && (c.pinned == c.pinnedBy)) = true)
    (h16 : ((c.veiled == (fn.params.toList ++ s.plain.varTypes P ++ fn.resultTypes.toList).any (P.veiledRec ·)) && c.veiledFits P fn.params.toList (fn.params.toList ++ s.plain.varTypes P ++ fn.resultTypes.toList)) = true) :
    joinedFacts P f fn s c = true := by
  simp only [Bool.and_eq_true] at h4 h9 h10 h12 h14 h15 h16
  unfold joinedFacts
  rw [h5, h6, h7, h8, h11]
  simp only [h1, h2, h3, h4, h9, h10, h12, h13, h14, h15, h16, Bool.and_self, beq_self_eq_true, Bool.and_true, Bool.true_and]
  exact h15.1
end Go.Joint
