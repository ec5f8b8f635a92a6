/- Part 16 of the texts for the claim. -/
import Derived.Test.YtoipokalbjjghaaGreatDoorStaudt15
import Derived.Test.YtoipokalbjjghaaGreatDoorRows
import Derived.ProofKit
import Derived.Lay
import Derived.Carry
import Derived.LaidMore
import Derived.OpenShut
import Derived.MakeChecks
import Derived.Lib.LaidU8
import Derived.Lib.SmallJoins
import Derived.JoinedOf
import Derived.ClosedOfChecked
set_option linter.unusedVariables false
set_option linter.unusedSimpArgs false
namespace Go.Wf
open Go Go.Proofs Go.RowKit Go.Ev
set_option maxRecDepth 100000
set_option linter.unusedVariables false
set_option linter.unusedSimpArgs false
theorem rest_true {X : Nat → Prop} {x y : Nat → Prop} {w w' : World} (C : Cx X w x y w') (hT : TabsIn w 2 tabs1) {F : Wf.Fr} {p : Nat} (hr : runB p = true) (hF : F 3 = .int .i64 (Int.ofNat p)) :
    W Fence.wide Tryz.prog restS 41 [] (retQ Tryz.prog Tryz.f3 (Ret w fun v w' => v = .bool true)) F w' := by
  have hb : Below w.heap.size w w' := toBelow C.below
  refine tailG_true callT_s (by decide) mixed hr rfl rfl (fun Φ => by rw [hF]; simp only [Rv]) (by decide) (tabsBelow hT hb) ?_
  intro F' w2 h2 hb2
  refine ret_1 rfl (resV.t h2) ?_
  exact ⟨rfl, ⟨hb2.os.trans hb.os, hb2.tape.trans hb.tape, hb2.output.trans hb.output, Nat.le_trans hb.size hb2.size, fun k hk => (hb2.block k (Nat.lt_of_lt_of_le hk hb.size)).trans (hb.block k hk)⟩⟩
set_option maxHeartbeats 4000000 in
theorem staudt_c {X : Nat → Prop} {w : World} (hX : ∀ b, X b → b < w.heap.size) {i : Int} (hT : TabsIn w 2 tabs1) : Calls Tryz.prog 3 #[.int .i64 i] w (Ret w fun v w' => v = .bool true) := by
 have key : ∃ p : Nat, runB p = true ∧ (([5, 7, 11, 13, 17, 19, 23, 29, 31, 37, 41] : List Int).getD ((i % 11).toNat) 0) = Int.ofNat p := by
  have h0 := Int.emod_nonneg i (by decide : (11 : Int) ≠ 0)
  have h1 := Int.emod_lt_of_pos i (by decide : (0 : Int) < 11)
  have h : (i % 11).toNat = 0 ∨ (i % 11).toNat = 1 ∨ (i % 11).toNat = 2 ∨ (i % 11).toNat = 3 ∨ (i % 11).toNat = 4 ∨ (i % 11).toNat = 5 ∨ (i % 11).toNat = 6 ∨ (i % 11).toNat = 7 ∨ (i % 11).toNat = 8 ∨ (i % 11).toNat = 9 ∨ (i % 11).toNat = 10 := by omega
  rcases h with h | h | h | h | h | h | h | h | h | h | h <;> rw [h]
  · exact ⟨5, run_5, rfl⟩
  · exact ⟨7, run_7, rfl⟩
  · exact ⟨11, run_11, rfl⟩
  · exact ⟨13, run_13, rfl⟩
  · exact ⟨17, run_17, rfl⟩
  · exact ⟨19, run_19, rfl⟩
  · exact ⟨23, run_23, rfl⟩
  · exact ⟨29, run_29, rfl⟩
  · exact ⟨31, run_31, rfl⟩
  · exact ⟨37, run_37, rfl⟩
  · exact ⟨41, run_41, rfl⟩
 obtain ⟨p, hp, he⟩ := key
 have C := Cx.start hX
 refine Calls.ofW (args := [(.int .i64 i)]) Tryz.func3 rfl rfl (Nat.le_of_ble_eq_true rfl) (W.seq (W.region (O rfl (St.assign (Sq.nil (W.seq (W.region (O rfl (St.bsPub (T := i64Ty) (css := [[(.int .i64 5)], [(.int .i64 7)], [(.int .i64 11)], [(.int .i64 13)], [(.int .i64 17)], [(.int .i64 19)], [(.int .i64 23)], [(.int .i64 29)], [(.int .i64 31)], [(.int .i64 37)], [(.int .i64 41)]]) (l := [5, 7, 11, 13, 17, 19, 23, 29, 31, 37, 41]) C sl22 io3 (by decide) (by decide) rfl (by kernel_rfl) ⟨⟨rfl, (by omega), (by omega)⟩, ⟨rfl, (by omega), (by omega)⟩, ⟨rfl, (by omega), (by omega)⟩, ⟨rfl, (by omega), (by omega)⟩, ⟨rfl, (by omega), (by omega)⟩, ⟨rfl, (by omega), (by omega)⟩, ⟨rfl, (by omega), (by omega)⟩, ⟨rfl, (by omega), (by omega)⟩, ⟨rfl, (by omega), (by omega)⟩, ⟨rfl, (by omega), (by omega)⟩, ⟨rfl, (by omega), (by omega)⟩, trivial⟩ ?_)))))))))
 intro g5 w1 C2 s3 h4
 refine O rfl (St.move (O rfl (St.callR C2 cb4 rfl rfl (x_mod C2.bd (by decide) (by decide)) ?_)))
 intro v8 w9 C10 s11 h12
 replace h4 := h4.sp s11
 subst h12
 refine O rfl (St.idx (j := (i % 11).toNat) (u := ([5, 7, 11, 13, 17, 19, 23, 29, 31, 37, 41].getD ((i % 11).toNat) 0)) h4 sl22 io3 rfl rfl (by omega) (getSome (by simp only [List.length_cons, List.length_nil]; omega)) ?_)
 intro b13 o14 cs15 e16
 obtain ⟨rfl, bd17⟩ : cs15 = _ ∧ _ := e16.rd
 refine O rfl (St.load1 pl3 rfl (e16.cell 0 _ rfl) (O rfl (St.assign (Sq.nil ?_))))
 exact rest_true C10 hT hp (congrArg (Value.int .i64) he)
end Go.Wf
namespace Go.Proofs.YtoipokalbjjghaaGreatDoor
set_option linter.unusedVariables false
set_option linter.unusedSimpArgs false
open Go Go.Ev Go.Wf Go.RowKit Go.Proofs
def nums64 : List Int := [0, 1, 56, 2, 57, 49, 28, 3, 61, 58, 42, 50, 38, 29, 17, 4, 62, 47, 59, 36, 45, 43, 51, 22, 53, 39, 33, 30, 24, 18, 12, 5, 63, 55, 48, 27, 60, 41, 37, 16, 46, 35, 44, 21, 52, 32, 23, 11, 54, 26, 40, 15, 34, 20, 31, 10, 25, 14, 19, 9, 13, 8, 7, 6]
theorem nums64_av : tab64 = nums64.map (fun z => AV.i .u8 z) := by rfl
theorem nums64_data : (Rows.laid_math_bits_deBruijn64tab : DataW Unit) = Lib.tabData .u8 nums64 := by rfl
def laidL : List (String × DataW Unit) := Rows.congruenceStaudtRow.laid
theorem g64 : Tryz.prog.globalNamed "math/bits.deBruijn64tab" = some 1 := by kernel_rfl
theorem t64 : (Tryz.prog.globals[1]?).map (·.type) = some 355 := by kernel_rfl
theorem u5 : Tryz.prog.underlying 5 = some (.int .u8) := by kernel_rfl
theorem c5 : Tryz.prog.cellsOf 5 = 1 := by kernel_rfl
theorem c355 : Tryz.prog.cellsOf 355 = 64 := by kernel_rfl
theorem tabs57 {W : World} (h : laidMetH Tryz.prog laidL W) : TabsIn W 2 [(1, tab64)] := by
  rw [MakeChecks.laidMetH_plain _ _ _ (by kernel_rfl)] at h
  obtain ⟨g, t, cs, fuel, p, h1, h2, h3, h4⟩ := Lib.laidMet.reads h (n := "math/bits.deBruijn64tab") (d := Rows.laid_math_bits_deBruijn64tab) (.head _)
  obtain rfl := Option.some.inj (g64.symm.trans h1)
  obtain rfl := Option.some.inj (t64.symm.trans h2)
  rw [nums64_data] at h4
  have hcs := Lib.cells_of_tab Tryz.underlying355 u5 c5 c355 h4
  intro q hq
  obtain rfl : q = (1, tab64) := by simpa using hq
  refine ⟨by decide, ?_⟩
  unfold World.var? at h3
  rw [h1] at h3
  simp only [Option.bind_some] at h3
  split at h3
  · rename_i C T fr hC
    cases h3
    refine ⟨_, T, fr, hC, fun Φ i a hi => ?_⟩
    have hi : tab64[i]? = some a := hi
    rw [nums64_av, List.getElem?_map] at hi
    simp only [Option.map_eq_some_iff] at hi
    obtain ⟨z, hz, rfl⟩ := hi
    refine ⟨.int .u8 z, ?_, by simp only [Rv]⟩
    rw [Nat.zero_add, ← Array.getElem?_toList, hcs, List.getElem?_map, hz]
    rfl
  · cases h3
theorem own57 : ownKnob Tryz.prog.godebug = none := by kernel_rfl
end Go.Proofs.YtoipokalbjjghaaGreatDoor
namespace Go.Joint
set_option linter.unusedVariables false
set_option linter.unusedSimpArgs false
open Go
noncomputable def leads (P : Program) (f : FuncId) : List FuncId := Option.rec [] (fun g => P.leadsTo g) P.funcs[f]?
theorem leads_eq (P : Program) (f : FuncId) : leads P f = (P.funcs[f]?).elim [] P.leadsTo := by unfold leads; cases P.funcs[f]? <;> rfl
noncomputable def clo (P : Program) (n : Nat) : List FuncId → List FuncId → Nat → List FuncId :=
  Nat.rec (fun _ seen _ => seen) (fun _ ih todo seen bits => List.rec seen (fun f todo' _ => Bool.rec (ih (leads P f ++ todo') (f :: seen) (Nat.lor bits (Nat.shiftLeft 1 f))) (ih todo' seen bits) (Nat.beq (Nat.land (Nat.shiftRight bits f) 1) 1)) todo) n
theorem bit_eq (b f : Nat) : Nat.beq (Nat.land (Nat.shiftRight b f) 1) 1 = b.testBit f := by
  have e : Nat.land (Nat.shiftRight b f) 1 = (b >>> f) % 2 := Nat.and_one_is_mod _
  rw [e, Nat.testBit_eq_decide_div_mod_eq, Nat.shiftRight_eq_div_pow]
  have h : b / 2 ^ f % 2 < 2 := Nat.mod_lt _ (by decide)
  cases h1 : b / 2 ^ f % 2 with
  | zero => rfl
  | succ m =>
    cases m with
    | zero => rfl
    | succ k => omega
theorem clo_eq (P : Program) : ∀ (n : Nat) (todo seen : List FuncId) (bits : Nat), (∀ f, bits.testBit f = seen.contains f) → P.closureVia n todo seen = (clo P n todo seen bits).reverse := by
  intro n
  induction n with
  | zero => intro todo seen bits _; rfl
  | succ n ih =>
    intro todo seen bits hb
    cases todo with
    | nil => rfl
    | cons f todo =>
      have e1 : P.closureVia (n + 1) (f :: todo) seen = if seen.contains f then P.closureVia n todo seen else P.closureVia n ((P.funcs[f]?).elim [] P.leadsTo ++ todo) (f :: seen) := rfl
      have e2 : clo P (n + 1) (f :: todo) seen bits = Bool.rec (clo P n (leads P f ++ todo) (f :: seen) (Nat.lor bits (Nat.shiftLeft 1 f))) (clo P n todo seen bits) (Nat.beq (Nat.land (Nat.shiftRight bits f) 1) 1) := rfl
      rw [e1, e2, bit_eq, hb f, leads_eq]
      cases h : seen.contains f with
      | true => exact ih todo seen bits hb
      | false =>
        refine ih _ _ _ fun g => ?_
        have e3 : Nat.lor bits (Nat.shiftLeft 1 f) = bits ||| 1 <<< f := rfl
        rw [e3, Nat.testBit_or, hb g, Nat.one_shiftLeft, Nat.testBit_two_pow, List.contains_cons]
        by_cases h2 : f = g
        · subst h2; simp
        · rw [decide_eq_false h2]
          have : (g == f) = false := by simpa using fun e => h2 e.symm
          rw [this, Bool.or_false, Bool.false_or]
theorem closure_of {P : Program} {f : FuncId} {l : List FuncId} (h : clo P (1 + (P.funcs.toList.map fun g => (P.leadsTo g).length + 1).sum) [f] [] 0 = l) : P.closure f = l.reverse := by
  unfold Program.closure
  rw [clo_eq P _ _ _ 0 (fun f => by simp), h]
theorem joined {P : Program} {f : FuncId} {fn : Func} {s : ChangeSpec} {c : OpenClaim} (h1 : c.wf (OpenSpec.ofChange s) = true) (h2 : laidOutB P = true) (h3 : mapsRowed P = true)
    (h4 : (fn.params.all (P.readableRec ·) && namedTie P c.named s.vars && (c.stops == []) && (P.stops == []) && (c.knobs == []) && (P.stopKnobs == [])) = true)
    (h5 : P.inPlace f = c.inPlace) (h6 : P.unfollowed f = c.unfollowed) (h7 : P.recurses f = c.recurses) (h8 : P.varsNamed f = c.named)
    (h9 : ((c.maps == (fn.params.toList ++ s.plain.varTypes P).any (P.mapsRec ·)) && (c.ifaces == (fn.params.toList ++ s.plain.varTypes P).any (P.ifacesRec ·)) && (c.mapsOut == P.mapsAmong fn.resultTypes.toList) && (c.loops == (fn.params.toList ++ s.plain.varTypes P).any (P.loopsFrom ·)) && (c.wideKeys == (fn.params.toList ++ s.plain.varTypes P ++ fn.resultTypes.toList).any (P.wideKeysFrom ·))) = true)
    (h10 : (s.vars.all (P.varReadable ·) && fn.resultTypes.all (fun t => P.readableRec t && decide (t < P.types.size)) && (c.ifacesOut == fn.resultTypes.toList.any (P.ifacesRec ·)) && (c.loopsOut == fn.resultTypes.toList.any (P.loopsFrom ·))) = true)
    (h11 : P.plainKeys = c.plainKeys) (h12 : (c.shortTexts.isNone && P.stopsHeard) = true) (h13 : P.mayEnter = true) (h14 : (c.lifted == P.liftsFinal && (P.make == some c.make)) = true)
    (h15 : ((c.kinds == (if c.domain.isEmpty then [] else fn.params.toList.map fun t => match P.underlying t with | some (.int k) => some k | _ => none)) && (c.pinned == c.pinnedBy)) = true)
    (h16 : ((c.veiled == (fn.params.toList ++ s.plain.varTypes P ++ fn.resultTypes.toList).any (P.veiledRec ·)) && c.veiledFits P fn.params.toList (fn.params.toList ++ s.plain.varTypes P ++ fn.resultTypes.toList)) = true) :
    joinedFacts P f fn s c = true := by
  simp only [Bool.and_eq_true] at h4 h9 h10 h12 h14 h15 h16
  unfold joinedFacts
  rw [h5, h6, h7, h8, h11]
  simp only [h1, h2, h3, h4, h9, h10, h12, h13, h14, h15, h16, Bool.and_self, beq_self_eq_true, Bool.and_true, Bool.true_and]
  exact h15.1
end Go.Joint
