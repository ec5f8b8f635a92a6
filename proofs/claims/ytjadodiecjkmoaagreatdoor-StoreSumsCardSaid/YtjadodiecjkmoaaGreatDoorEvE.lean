/-
  The operations that look at no memory, continued.
-/
import Derived.Test.YtjadodiecjkmoaaGreatDoorEvD
import Derived.Lib.Builder
namespace Go.Ev
set_option linter.unusedVariables false
set_option linter.unusedSimpArgs false
open Go Go.Wf Go.RowKit

section
variable {P : Program} {Φ : Phi} {ρ : Operand → Value} {dst : Option Tmp} {ty yt t : TypeId} {pos : String} {after : Array Edge} {gd : Option (Nat × Bool)} {w : World} {a b v : AV} {h h' : Hp} {x y : Operand}
theorem isBool_u {t : TypeId} (h : isBool P t = true) : P.underlying t = some .bool := by unfold isBool at h; split at h <;> first | assumption | cases h
theorem isPtr_u {t : TypeId} (h : isPtr P t = true) : ∃ e, P.underlying t = some (.pointer e) := by unfold isPtr at h; split at h <;> first | exact ⟨_, by assumption⟩ | cases h
theorem isSl_u {t : TypeId} (h : isSl P t = true) : ∃ e, P.underlying t = some (.slice e) := by unfold isSl at h; split at h <;> first | exact ⟨_, by assumption⟩ | cases h
theorem isFn_u {t : TypeId} (h : isFn P t = true) : ∃ a b c, P.underlying t = some (.func a b c) := by unfold isFn at h; split at h <;> first | exact ⟨_, _, _, by assumption⟩ | cases h
theorem isStr_u {t : TypeId} (h : isStr P t = true) : P.underlying t = some .string := by unfold isStr at h; split at h <;> first | assumption | cases h
theorem slOf_u {t e : TypeId} (h : slOf P t = some e) : P.underlying t = some (.slice e) := by unfold slOf at h; split at h <;> first | (cases h; assumption) | cases h
theorem isInt_u {t : TypeId} {k : IntKind} (h : isInt P t = some k) : P.underlying t = some (.int k) := by unfold isInt at h; split at h <;> first | (cases h; assumption) | cases h
theorem szOf_u {t sz : Nat} (h : szOf P t = some sz) : ∃ z by_, infoOf P t = some (z, sz, by_) := by
  unfold szOf at h
  rw [Option.map_eq_some_iff] at h
  obtain ⟨⟨z, s, b⟩, h1, rfl⟩ := h
  exact ⟨z, b, h1⟩
theorem zcOf_u {t : TypeId} {l : List AV} (h : zcOf P t = some l) : ∃ z sz by_, infoOf P t = some (z, sz, by_) ∧ l = z.cells.toList.map cv := by
  unfold zcOf at h
  rw [Option.map_eq_some_iff] at h
  obtain ⟨⟨z, s, b⟩, h1, rfl⟩ := h
  exact ⟨z, s, b, h1, rfl⟩
theorem cvs_sound (l : List Value) : RvL Φ (l.map cv) l := by
  refine RvL.mk (by simp) fun i a v hi hv => ?_
  rw [List.getElem?_map, hv] at hi
  simp at hi; subst hi; exact cv_sound v
theorem boolR {p q : Bool} {r : Bool} (h : (Bool.rec none (some p) q : Option Bool) = some r) : q = true ∧ p = r := by cases q; cases h; cases h; exact ⟨rfl, rfl⟩
theorem eqIn (t : TypeId) (a b : Value) : Op.equal t a b = Op.equalIn (9999 + 1) t a b := rfl
def noGuard : Value → Value → Bool
  | .nilIface, .nilIface => false
  | .agg _, .agg _ => false
  | _, _ => true
theorem guard_pure {op : BinOp} {p q : Value} (h : noGuard p q = true) : eqGuard op t x y p q = pure () := by
  unfold eqGuard
  cases op <;> first | rfl | (cases p <;> cases q <;> first | rfl | cases h)
theorem u8n {n : Nat} (h : n < 256) : (UInt8.ofNat n).toNat = n := by simp [Nat.mod_eq_of_lt h]
section
variable {d : Nat} {p q : Value} {el : TypeId}
theorem eqP1 {c : Option Addr} (hq : P.underlying t = some (.pointer el)) : (Op.equalIn (d + 1) t (.pointer none) (.pointer c)).run P w = .ok c.isNone w := by simp [Op.equalIn, run_underlying hq]
theorem eqP2 {c : Addr} (hq : P.underlying t = some (.pointer el)) : (Op.equalIn (d + 1) t (.pointer (some c)) (.pointer none)).run P w = .ok false w := by simp [Op.equalIn, run_underlying hq]
theorem eqS1 {c : Option Addr} {n m k l : Nat} (hq : P.underlying t = some (.slice el)) : (Op.equalIn (d + 1) t (.slice none n m) (.slice c k l)).run P w = .ok c.isNone w := by simp [Op.equalIn, run_underlying hq]
theorem eqS2 {c : Addr} {n m k l : Nat} (hq : P.underlying t = some (.slice el)) : (Op.equalIn (d + 1) t (.slice (some c) n m) (.slice none k l)).run P w = .ok false w := by simp [Op.equalIn, run_underlying hq]
theorem eqF0 {a b : Array TypeId} {c : Bool} (hq : P.underlying t = some (.func a b c)) : (Op.equalIn (d + 1) t .nilFunc .nilFunc).run P w = .ok true w := by simp [Op.equalIn, run_underlying hq]
theorem eqF1 {a b : Array TypeId} {c : Bool} {f : Fn} {u v : Array Value} (hq : P.underlying t = some (.func a b c)) : (Op.equalIn (d + 1) t .nilFunc (.func f u v)).run P w = .ok false w := by simp [Op.equalIn, run_underlying hq]
theorem eqF2 {a b : Array TypeId} {c : Bool} {f : Fn} {u v : Array Value} (hq : P.underlying t = some (.func a b c)) : (Op.equalIn (d + 1) t (.func f u v) .nilFunc).run P w = .ok false w := by simp [Op.equalIn, run_underlying hq]
theorem eq2 {r : Bool} (hg : noGuard p q = true) (hb : binOp .eql t p q = (do pure (.bool (← Op.equal t p q))) := by rfl) (hb' : binOp .neq t p q = (do pure (.bool (!(← Op.equal t p q)))) := by rfl) (hr : (Op.equalIn (9999 + 1) t p q).run P w = .ok r w) :
    noGuard p q = true ∧ (binOp .eql t p q).run P w = .ok (.bool r) w ∧ (binOp .neq t p q).run P w = .ok (.bool (!r)) w := by
  refine ⟨hg, ?_, ?_⟩
  · rw [hb, eqIn, Sem.run_bind, hr]; rfl
  · rw [hb', eqIn, Sem.run_bind, hr]; rfl
end
/-! parts, equality by type -/
theorem lkOf_one {t : TypeId} (h : lkOf P t = .one) : plainTy P t = true := by
  unfold lkOf at h
  cases hp : plainTy P t with
  | true => rfl
  | false =>
    rw [hp] at h
    simp only [cond_false] at h
    split at h
    · rename_i s hs
      cases hb : aggTy P t s with
      | true => rw [hb] at h; cases h
      | false => rw [hb] at h; cases h
    · cases h
theorem lkOf_agg {t : TypeId} {sz : Nat} (h : lkOf P t = .agg sz) : aggTy P t sz = true := by
  unfold lkOf at h
  cases hp : plainTy P t with
  | true => rw [hp] at h; cases h
  | false =>
    rw [hp] at h
    simp only [cond_false] at h
    split at h
    · rename_i s hs
      cases hb : aggTy P t s with
      | true => rw [hb] at h; cases h; exact hb
      | false => rw [hb] at h; cases h
    · cases h
theorem partA_s {cs : List AV} {off : Nat} {Cs : List Value} (e : partA P t cs off = some a) (h : RvL Φ cs Cs) : ∃ A, (part t Cs.toArray off).run P w = .ok A w ∧ Rv Φ a A := by
  unfold partA at e
  split at e
  · rename_i hl
    rw [nth_eq] at e
    obtain ⟨v, hv, hr⟩ := h.at e
    refine ⟨v, ?_, hr⟩
    simp [part, run_isAgg_plain (lkOf_one hl), hv]
  · rename_i sz hl
    cases e
    rw [tk_eq, dr_eq]
    refine ⟨.agg ((Cs.drop off).take sz).toArray, ?_, ?_⟩
    · simp [part, run_isAgg_agg (lkOf_agg hl)]
    · simp only [Rv]; exact ⟨_, rfl, (h.drop off).take sz⟩
  · cases e
theorem part2_s {xs ys : List AV} {off : Nat} {Xs Ys : List Value} {k : AV → AV → Option Bool} {r : Bool} (e : part2 P t xs ys off k none = some r) (hx : RvL Φ xs Xs) (hy : RvL Φ ys Ys) :
    ∃ a b A B, (part t Xs.toArray off).run P w = .ok A w ∧ (part t Ys.toArray off).run P w = .ok B w ∧ Rv Φ a A ∧ Rv Φ b B ∧ k a b = some r := by
  unfold part2 at e
  split at e
  · rename_i a ha
    split at e
    · rename_i b hb
      obtain ⟨A, h1, h2⟩ := partA_s (w := w) ha hx
      obtain ⟨B, h3, h4⟩ := partA_s (w := w) hb hy
      exact ⟨a, b, A, B, h1, h3, h2, h4, e⟩
    · cases e
  · cases e
theorem andO_s {p q : Option Bool} {r : Bool} (e : andO p q = some r) : (p = some false ∧ r = false) ∨ (p = some true ∧ q = some r) := by
  unfold andO at e
  cases p with
  | none => cases e
  | some b => cases b with
    | false => cases e; exact .inl ⟨rfl, rfl⟩
    | true => exact .inr ⟨rfl, e⟩
/-- the loop of an array's comparing -/
def eqArr (d : Nat) (e n : Nat) (xs ys : Array Value) : List Nat → Sem Bool
  | [] => pure true
  | i :: l => do
    let a ← part e xs (i * n)
    let b ← part e ys (i * n)
    let r ← Op.equalIn d e a b
    if (!r) = true then pure false else eqArr d e n xs ys l
theorem run_equalIn_arr (d : Nat) {n e sz : Nat} (xs ys : Array Value) (ht : P.underlying t = some (.array n e)) (hs : (sizeOf e).run P w = .ok sz w) :
    (Op.equalIn (d + 1) t (.agg xs) (.agg ys)).run P w = (eqArr d e sz xs ys (List.range' 0 n)).run P w := by
  simp only [Op.equalIn, Sem.run_bind, run_underlying ht, Result.andThen_ok, hs]
  rw [Std.Legacy.Range.forIn_eq_forIn_range']
  have : (Std.Legacy.Range.mk 0 n 1 (by omega)).size = n := by simp [Std.Legacy.Range.size]
  simp only [this]
  generalize List.range' 0 n = l
  clear ht hs
  induction l generalizing w with
  | nil => simp [eqArr]
  | cons i l ih =>
    simp only [List.forIn_cons, eqArr, Sem.run_bind]
    generalize (part e xs (i * sz)).run P w = r1
    cases r1 with
    | ok a w1 =>
      simp only [Result.andThen_ok]
      generalize (part e ys (i * sz)).run P w1 = r2
      cases r2 with
      | ok b w2 =>
        simp only [Result.andThen_ok]
        generalize (Op.equalIn d e a b).run P w2 = r3
        cases r3 with
        | ok r w3 =>
          cases r
          · simp only [Result.andThen_ok, Bool.not_false, if_true, Sem.run_pure]
          · simp only [Result.andThen_ok, Bool.not_true, Bool.false_eq_true, if_false, Sem.run_pure]
            exact ih
        | halt x w3 => simp [Result.andThen]
      | halt x w2 => simp [Result.andThen]
    | halt x w1 => simp [Result.andThen]
theorem Rv.agI {l : List AV} {v : Value} (h : Rv Φ (.ag l) v) : ∃ vs : List Value, v = .agg vs.toArray ∧ RvL Φ l vs := by simp only [Rv] at h; exact h
theorem eqT_s : ∀ (d : Nat) (t : TypeId) (x y : AV) (X Y : Value) (r : Bool) (D : Nat), d ≤ D → eqT P d t x y = some r → Rv Φ x X → Rv Φ y Y → (Op.equalIn D t X Y).run P w = .ok r w := by
  intro d
  induction d with
  | zero => intro t x y X Y r D _ e; cases e
  | succ d ih =>
    intro t x y X Y r D hD e hx hy
    obtain ⟨D, rfl⟩ : ∃ D', D = D' + 1 := ⟨D - 1, by omega⟩
    have hD : d ≤ D := by omega
    replace e : eqT1 P (eqT P d) t x y = some r := e
    unfold eqT1 at e
    split at e
    · rename_i k hu
      split at e
      · obtain ⟨he, rfl⟩ := boolR e
        have := ikEq_eq he; subst this
        rw [hx.iI, hy.iI, run_equalIn_int w D t _ _ _ _ hu, ieq_eq]; rfl
      · cases e
    · rename_i hu
      split at e
      · rename_i l m
        cases e
        obtain ⟨h1, hx⟩ := hx.sI
        obtain ⟨h2, hy⟩ := hy.sI
        rw [hx, hy, leqL_eq]
        unfold str
        rw [run_equalIn_string w D t _ _ hu, ByteArray.toList_eq, ByteArray.toList_eq]
        have : (l.map UInt8.ofNat == m.map UInt8.ofNat) = decide (l = m) := by
          rw [Bool.eq_iff_iff]; simp only [decide_eq_true_iff, beq_iff_eq]
          exact ⟨fun e => map_inj h1 h2 e, fun e => by rw [e]⟩
        rw [this]
      · cases e
    · rename_i hu
      split at e
      · cases e
        rw [hx.bI, hy.bI, run_equalIn_bool' w D t _ _ hu]
      · cases e
    · rename_i fs hu
      split at e
      · rename_i xs ys
        obtain ⟨Xs, rfl, hX⟩ := hx.agI
        obtain ⟨Ys, rfl, hY⟩ := hy.agI
        have hfs : P.fieldsOf t = fs := by simp [Program.fieldsOf, hu]
        cases hp : P.stoodInHeld t with
        | true => rw [hp] at e; cases e
        | false =>
          rw [hp] at e
          replace e : eqFs P (eqT P d) xs ys fs.toList = some r := e
          rw [run_equalIn_agg w D t _ _ (by rw [hfs]; exact hu) hp, hfs]
          revert e
          generalize fs.toList = l
          intro e
          clear hu hfs hp
          induction l with
          | nil => cases e; simp [Op.eqFields]
          | cons f l ihl =>
            replace e : (Bool.rec (part2 P f.type xs ys f.offset (fun a b => andO (eqT P d f.type a b) (eqFs P (eqT P d) xs ys l)) none) (eqFs P (eqT P d) xs ys l) (f.name == "_") : Option Bool) = some r := e
            cases hn : (f.name == "_") with
            | true =>
              rw [hn] at e
              have hn : f.name = "_" := by simpa using hn
              simp only [Op.eqFields, hn, ne_eq, not_true_eq_false, if_false]
              exact ihl e
            | false =>
              rw [hn] at e
              have hn : ¬ f.name = "_" := by simpa using hn
              obtain ⟨a, b, A, B, h1, h2, h3, h4, h5⟩ := part2_s (w := w) e hX hY
              simp only [Op.eqFields, ne_eq, hn, not_false_eq_true, if_true, Sem.run_bind, h1, h2, Result.andThen_ok]
              rcases andO_s h5 with ⟨q, rfl⟩ | ⟨q, q2⟩
              · rw [ih _ _ _ _ _ _ D hD q h3 h4]; simp
              · rw [ih _ _ _ _ _ _ D hD q h3 h4]
                simp only [Result.andThen_ok, Bool.not_true, Bool.false_eq_true, if_false]
                exact ihl q2
      · cases e
    · rename_i n el hu
      split at e
      · rename_i xs ys
        obtain ⟨Xs, rfl, hX⟩ := hx.agI
        obtain ⟨Ys, rfl, hY⟩ := hy.agI
        cases hs : szOf P el with
        | none => rw [hs] at e; cases e
        | some sz =>
          rw [hs] at e
          replace e : eqAr P (eqT P d el) el sz xs ys n 0 = some r := e
          obtain ⟨z, by_, hinf⟩ := szOf_u hs
          obtain ⟨inf, hi', _, hsz, _⟩ := infoOf_parts hinf
          rw [run_equalIn_arr (w := w) D (sz := sz) _ _ hu (by simp [sizeOf, typeInfo, hi', hsz])]
          have key : ∀ (n i : Nat), eqAr P (eqT P d el) el sz xs ys n (i * sz) = some r → (eqArr D el sz Xs.toArray Ys.toArray (List.range' i n)).run P w = .ok r w := by
            intro n
            induction n with
            | zero => intro i e; cases e; simp [eqArr]
            | succ n ihn =>
              intro i e
              replace e : part2 P el xs ys (i * sz) (fun a b => andO (eqT P d el a b) (fz (Nat.add (i * sz) sz) (eqAr P (eqT P d el) el sz xs ys n))) none = some r := e
              obtain ⟨a, b, A, B, h1, h2, h3, h4, h5⟩ := part2_s (w := w) e hX hY
              rw [List.range'_succ]
              simp only [eqArr, Sem.run_bind, h1, h2, Result.andThen_ok]
              rcases andO_s h5 with ⟨q, rfl⟩ | ⟨q, q2⟩
              · rw [ih _ _ _ _ _ _ D hD q h3 h4]; simp
              · rw [ih _ _ _ _ _ _ D hD q h3 h4]
                simp only [Result.andThen_ok, Bool.not_true, Bool.false_eq_true, if_false]
                rw [fz_eq] at q2
                refine ihn (i + 1) ?_
                rw [Nat.succ_mul]; exact q2
          refine key n 0 ?_
          rw [Nat.zero_mul]; exact e
      · cases e
    · cases e
theorem isIf_u {t : TypeId} (h : isIf P t = true) : ∃ m, P.underlying t = some (.interface m) := by unfold isIf at h; split at h <;> first | exact ⟨_, by assumption⟩ | cases h
theorem isMap_u {t : TypeId} (h : isMap P t = true) : ∃ a b, P.underlying t = some (.map a b) := by unfold isMap at h; split at h <;> first | exact ⟨_, _, by assumption⟩ | cases h
theorem ptrOf_u {t e : TypeId} (h : ptrOf P t = some e) : P.underlying t = some (.pointer e) := by unfold ptrOf at h; split at h <;> first | (cases h; assumption) | cases h
theorem isConst_u {o : Operand} (h : isConst o = true) : ∃ v, o = .const v := by cases o <;> first | exact ⟨_, rfl⟩ | cases h
theorem eqI1 {m : Array (String × TypeId)} {d : Nat} {u : TypeId} {p : Value} (hq : P.underlying t = some (.interface m)) : (Op.equalIn (d + 1) t .nilIface (.iface u p)).run P w = .ok false w := by simp [Op.equalIn, run_underlying hq]
theorem eqI2 {m : Array (String × TypeId)} {d : Nat} {u : TypeId} {p : Value} (hq : P.underlying t = some (.interface m)) : (Op.equalIn (d + 1) t (.iface u p) .nilIface).run P w = .ok false w := by simp [Op.equalIn, run_underlying hq]
theorem eqI0 {m : Array (String × TypeId)} {d : Nat} (hq : P.underlying t = some (.interface m)) : (Op.equalIn (d + 1) t .nilIface .nilIface).run P w = .ok true w := by simp [Op.equalIn, run_underlying hq]
theorem eqM1 {k e : TypeId} {d : Nat} {c : Option Nat} (hq : P.underlying t = some (.map k e)) : (Op.equalIn (d + 1) t (.map none) (.map c)).run P w = .ok c.isNone w := by simp [Op.equalIn, run_underlying hq]
theorem eqM2 {k e : TypeId} {d : Nat} {c : Nat} (hq : P.underlying t = some (.map k e)) : (Op.equalIn (d + 1) t (.map (some c)) (.map none)).run P w = .ok false w := by simp [Op.equalIn, run_underlying hq]
/-- what a test of equality does: no halt ahead of it; '==' and '!=' -/
def EqS (P : Program) (t : TypeId) (x y : Operand) (p q : Value) (r : Bool) (w : World) : Prop :=
  (∀ op, op = .eql ∨ op = .neq → (eqGuard op t x y p q).run P w = .ok () w) ∧ (binOp .eql t p q).run P w = .ok (.bool r) w ∧ (binOp .neq t p q).run P w = .ok (.bool (!r)) w
theorem EqS.of {p q : Value} {r : Bool} (h : noGuard p q = true ∧ (binOp .eql t p q).run P w = .ok (.bool r) w ∧ (binOp .neq t p q).run P w = .ok (.bool (!r)) w) : EqS P t x y p q r w :=
  ⟨fun op _ => by rw [guard_pure h.1]; rfl, h.2⟩
theorem eqV_s {c : Bool} (hc : c = (isConst x || isConst y)) {r : Bool} (e : eqV P c t a b = some r) (hx : Rv Φ a (ρ x)) (hy : Rv Φ b (ρ y)) : EqS P t x y (ρ x) (ρ y) r w := by
  unfold eqV at e
  split at e
  · obtain ⟨he, rfl⟩ := boolR e
    have := ikEq_eq he; subst this
    rw [hx.iI, hy.iI, ieq_eq]
    refine EqS.of ⟨rfl, ?_, ?_⟩
    · rw [binOp_eql]; rfl
    · rw [binOp_neq]; rfl
  · obtain ⟨he, rfl⟩ := boolR e
    rw [hx.bI, hy.bI]
    exact EqS.of ⟨rfl, run_eql_bool w t _ _ (isBool_u he), by rw [run_neq_bool w t _ _ (isBool_u he)]⟩
  · rename_i l m
    cases e
    obtain ⟨h1, hx⟩ := hx.sI
    obtain ⟨h2, hy⟩ := hy.sI
    rw [hx, hy, leqL_eq]
    have : decide (l = m) = (l.map UInt8.ofNat == m.map UInt8.ofNat) := by
      rw [Bool.eq_iff_iff]; simp only [decide_eq_true_iff, beq_iff_eq]
      exact ⟨fun e => by rw [e], fun e => map_inj h1 h2 e⟩
    refine EqS.of ⟨rfl, ?_, ?_⟩
    · unfold str
      rw [binOp_string_eql, ByteArray.toList_eq, ByteArray.toList_eq, this]; rfl
    · unfold str
      rw [binOp_string_neq, ByteArray.toList_eq, ByteArray.toList_eq, this]; rfl
  · obtain ⟨he, rfl⟩ := boolR e
    obtain ⟨q, hq⟩ := isPtr_u he
    simp only [Rv] at hx hy; rw [hx, hy]
    exact EqS.of <| eq2 rfl (hr := eqP1 hq)
  · obtain ⟨he, rfl⟩ := boolR e
    obtain ⟨q, hq⟩ := isPtr_u he
    obtain ⟨_, _, hy⟩ := hy.pI
    simp only [Rv] at hx; rw [hx, hy]
    exact EqS.of <| eq2 rfl (hr := eqP1 hq)
  · obtain ⟨he, rfl⟩ := boolR e
    obtain ⟨q, hq⟩ := isPtr_u he
    obtain ⟨_, _, hx⟩ := hx.pI
    simp only [Rv] at hy; rw [hx, hy]
    exact EqS.of <| eq2 rfl (hr := eqP2 hq)
  · obtain ⟨he, rfl⟩ := boolR e
    obtain ⟨q, hq⟩ := isSl_u he
    simp only [Rv] at hx hy; rw [hx, hy]
    exact EqS.of <| eq2 rfl (hr := eqS1 hq)
  · obtain ⟨he, rfl⟩ := boolR e
    obtain ⟨q, hq⟩ := isSl_u he
    obtain ⟨_, _, _, hy, _⟩ := hy.slI
    simp only [Rv] at hx; rw [hx, hy]
    exact EqS.of <| eq2 rfl (hr := eqS1 hq)
  · obtain ⟨he, rfl⟩ := boolR e
    obtain ⟨q, hq⟩ := isSl_u he
    obtain ⟨_, _, _, hx, _⟩ := hx.slI
    simp only [Rv] at hy; rw [hx, hy]
    exact EqS.of <| eq2 rfl (hr := eqS2 hq)
  · obtain ⟨he, rfl⟩ := boolR e
    obtain ⟨_, _, _, hq⟩ := isFn_u he
    simp only [Rv] at hx hy; rw [hx, hy]
    exact EqS.of <| eq2 rfl (hr := eqF0 hq)
  · obtain ⟨he, rfl⟩ := boolR e
    obtain ⟨_, _, _, hq⟩ := isFn_u he
    obtain ⟨_, hy, _⟩ := hy.fnI
    simp only [Rv] at hx; rw [hx, hy]
    exact EqS.of <| eq2 rfl (hr := eqF1 hq)
  · obtain ⟨he, rfl⟩ := boolR e
    obtain ⟨_, _, _, hq⟩ := isFn_u he
    obtain ⟨_, hx, _⟩ := hx.fnI
    simp only [Rv] at hy; rw [hx, hy]
    exact EqS.of <| eq2 rfl (hr := eqF2 hq)
  · obtain ⟨he, rfl⟩ := boolR e
    obtain ⟨h1, h2⟩ := and_t he
    obtain ⟨_, hq⟩ := isIf_u h1
    have hcc : isConst x = true ∨ isConst y = true := by rw [hc] at h2; simpa using h2
    simp only [Rv] at hx hy
    refine ⟨fun op ho => ?_, ?_⟩
    · rw [hx, hy]
      rcases hcc with h | h <;> obtain ⟨v, rfl⟩ := isConst_u h
      · rcases ho with rfl | rfl <;> simp [eqGuard]
      · rcases ho with rfl | rfl <;> cases x <;> simp [eqGuard]
    · rw [hx, hy]
      refine ⟨?_, ?_⟩
      · rw [show binOp .eql t .nilIface .nilIface = (do pure (.bool (← Op.equal t .nilIface .nilIface))) from rfl, eqIn, Sem.run_bind, eqI0 hq]; rfl
      · rw [show binOp .neq t .nilIface .nilIface = (do pure (.bool (!(← Op.equal t .nilIface .nilIface)))) from rfl, eqIn, Sem.run_bind, eqI0 hq]; rfl
  · obtain ⟨he, rfl⟩ := boolR e
    obtain ⟨_, hq⟩ := isIf_u he
    simp only [Rv] at hx hy
    obtain ⟨_, hy, _⟩ := hy
    rw [hx, hy]
    exact EqS.of <| eq2 rfl (hr := eqI1 hq)
  · obtain ⟨he, rfl⟩ := boolR e
    obtain ⟨_, hq⟩ := isIf_u he
    simp only [Rv] at hx hy
    obtain ⟨_, hx, _⟩ := hx
    rw [hx, hy]
    exact EqS.of <| eq2 rfl (hr := eqI2 hq)
  · obtain ⟨he, rfl⟩ := boolR e
    obtain ⟨_, _, hq⟩ := isMap_u he
    simp only [Rv] at hx hy
    rw [hx, hy]
    exact EqS.of <| eq2 rfl (hr := eqM1 hq)
  · obtain ⟨he, rfl⟩ := boolR e
    obtain ⟨_, _, hq⟩ := isMap_u he
    simp only [Rv] at hx hy
    obtain ⟨_, _, hy⟩ := hy
    rw [hx, hy]
    exact EqS.of <| eq2 rfl (hr := eqM1 hq)
  · obtain ⟨he, rfl⟩ := boolR e
    obtain ⟨_, _, hq⟩ := isMap_u he
    simp only [Rv] at hx hy
    obtain ⟨_, _, hx⟩ := hx
    rw [hx, hy]
    exact EqS.of <| eq2 rfl (hr := eqM2 hq)
  · obtain ⟨he, rfl⟩ := boolR e
    obtain ⟨he, h2⟩ := and_t he
    obtain ⟨h0, h1⟩ := and_t he
    obtain ⟨inf, hinf⟩ := Option.isSome_iff_exists.1 h0
    obtain ⟨el, hel, hte⟩ := Option.bind_eq_some_iff.1 hinf
    have hq := ptrOf_u hel
    have e1 := Nat.eq_of_beq_eq_true h1
    have e2 := Nat.eq_of_beq_eq_true h2
    subst e1; subst e2
    obtain ⟨e1, he1, hx⟩ := hx.pI
    obtain ⟨e2, he2, hy⟩ := hy.pI
    rw [he1] at he2; cases he2
    rw [hx, hy]
    have hall : ∀ (A : Addr) (d : Nat), (Op.equalIn (d + 1) t (.pointer (some A)) (.pointer (some A))).run P w = .ok true w := fun A d => by
      simp [Op.equalIn, run_underlying hq, sizeOf, typeInfo, hte, run_sameAddr_same]
    exact EqS.of <| eq2 rfl (hr := hall _ 9999)
  · rename_i xs ys
    cases hg : P.eqGuardType P.depth t with
    | true => rw [hg] at e; cases e
    | false =>
      rw [hg] at e
      have hr := eqT_s (w := w) 4 t _ _ _ _ _ 10000 (by omega) e hx hy
      obtain ⟨Xs, hX, _⟩ := hx.agI
      obtain ⟨Ys, hY, _⟩ := hy.agI
      rw [hX, hY] at hr ⊢
      refine ⟨fun op _ => run_eqGuard_agg w op t x y _ _ hg, ?_, ?_⟩
      · rw [run_eql_struct, hr]; rfl
      · rw [run_neq_struct, hr]; rfl
  · cases e
theorem binE {op : BinOp} {u : Value} (hg : (eqGuard op t x y (ρ x) (ρ y)).run P w = .ok () w) (hr : (binOp op t (ρ x) (ρ y)).run P w = .ok u w) (h : Rv Φ v u) :
    St P ρ ⟨dst, .binOp op t x y yt, ty, pos, after, gd⟩ w (KP Φ w v) KF := by
  refine St.of_run (v := u) ?_ ⟨rfl, h⟩
  simp [execOp, hg, hr]
theorem bEql_s (e : bEql P (isConst x || isConst y) t a b h = .ok v h') : h' = h ∧ (Rv Φ a (ρ x) → Rv Φ b (ρ y) → St P ρ ⟨dst, .binOp .eql t x y yt, ty, pos, after, gd⟩ w (KP Φ w v) KF) := by
  unfold bEql at e
  split at e
  · rename_i r hr
    obtain ⟨rfl, rfl⟩ := okB_ok e
    refine ⟨rfl, fun hx hy => ?_⟩
    obtain ⟨h1, h2, _⟩ := eqV_s (w := w) rfl hr hx hy
    exact binE (h1 _ (.inl rfl)) h2 Rv.mb
  · cases e
theorem bNeq_s (e : bNeq P (isConst x || isConst y) t a b h = .ok v h') : h' = h ∧ (Rv Φ a (ρ x) → Rv Φ b (ρ y) → St P ρ ⟨dst, .binOp .neq t x y yt, ty, pos, after, gd⟩ w (KP Φ w v) KF) := by
  unfold bNeq at e
  split at e
  · rename_i r hr
    obtain ⟨rfl, rfl⟩ := okB_ok e
    refine ⟨rfl, fun hx hy => ?_⟩
    obtain ⟨h1, _, h2⟩ := eqV_s (w := w) rfl hr hx hy
    exact binE (h1 _ (.inr rfl)) h2 Rv.mb
  · cases e
theorem ltL_eq : ∀ (a b : List Nat), (∀ n ∈ a, n < 256) → (∀ n ∈ b, n < 256) → ltL a b = Op.bytesLess (a.map UInt8.ofNat) (b.map UInt8.ofNat) := by
  intro a
  induction a with
  | nil => intro b _ _; cases b <;> rfl
  | cons x a ih =>
    intro b ha hb
    cases b with
    | nil => rfl
    | cons y b =>
      have hx := ha x (by simp)
      have hy := hb y (by simp)
      have ih := ih b (fun n hn => ha n (by simp [hn])) (fun n hn => hb n (by simp [hn]))
      show (Bool.rec (Bool.rec false (ltL a b) (Nat.beq x y)) true (Nat.blt x y) : Bool) = _
      rw [List.map_cons, List.map_cons, blt_eq, beq_eq, ih]
      have e1 : (UInt8.ofNat x < UInt8.ofNat y) ↔ x < y := by
        rw [UInt8.lt_iff_toNat_lt, u8n hx, u8n hy]
      have e2 : (UInt8.ofNat x = UInt8.ofNat y) ↔ x = y := by
        rw [← UInt8.toNat_inj, u8n hx, u8n hy]
      by_cases h1 : x < y
      · rw [decide_eq_true h1]
        show true = _
        simp [Op.bytesLess, e1, h1]
      · rw [decide_eq_false h1]
        show (Bool.rec false _ (decide (x = y)) : Bool) = _
        by_cases h2 : x = y
        · rw [decide_eq_true h2]; subst h2; simp [Op.bytesLess]
        · rw [decide_eq_false h2]; simp [Op.bytesLess, e1, e2, h1, h2]
theorem bLss_s (e : bLss a b h = .ok v h') : h' = h ∧ (Rv Φ a (ρ x) → Rv Φ b (ρ y) → St P ρ ⟨dst, .binOp .lss t x y yt, ty, pos, after, gd⟩ w (KP Φ w v) KF) := by
  unfold bLss at e
  split at e
  · obtain ⟨he, e⟩ := recB e
    obtain ⟨rfl, rfl⟩ := okB_ok e
    refine ⟨rfl, fun hx hy => ?_⟩
    have := ikEq_eq he; subst this
    exact St.lss hx.iI hy.iI (ilt_eq _ _).symm ⟨rfl, Rv.mb⟩
  · obtain ⟨rfl, rfl⟩ := okB_ok e
    refine ⟨rfl, fun hx hy => ?_⟩
    obtain ⟨h1, hx⟩ := hx.sI
    obtain ⟨h2, hy⟩ := hy.sI
    exact St.lssS hx hy (ltL_eq _ _ h1 h2).symm ⟨rfl, Rv.mb⟩
  · cases e
theorem bLeq_s (e : bLeq a b h = .ok v h') : h' = h ∧ (Rv Φ a (ρ x) → Rv Φ b (ρ y) → St P ρ ⟨dst, .binOp .leq t x y yt, ty, pos, after, gd⟩ w (KP Φ w v) KF) := by
  unfold bLeq at e
  split at e
  · obtain ⟨he, e⟩ := recB e
    obtain ⟨rfl, rfl⟩ := okB_ok e
    refine ⟨rfl, fun hx hy => ?_⟩
    have := ikEq_eq he; subst this
    exact St.leq hx.iI hy.iI (by rw [ilt_eq, ← decide_not, decide_eq_decide]; omega) ⟨rfl, Rv.mb⟩
  · cases e
theorem bGtr_s (e : bGtr a b h = .ok v h') : h' = h ∧ (Rv Φ a (ρ x) → Rv Φ b (ρ y) → St P ρ ⟨dst, .binOp .gtr t x y yt, ty, pos, after, gd⟩ w (KP Φ w v) KF) := by
  unfold bGtr at e
  split at e
  · obtain ⟨he, e⟩ := recB e
    obtain ⟨rfl, rfl⟩ := okB_ok e
    refine ⟨rfl, fun hx hy => ?_⟩
    have := ikEq_eq he; subst this
    exact St.gtr hx.iI hy.iI (ilt_eq _ _).symm ⟨rfl, Rv.mb⟩
  · cases e
theorem bGeq_s (e : bGeq a b h = .ok v h') : h' = h ∧ (Rv Φ a (ρ x) → Rv Φ b (ρ y) → St P ρ ⟨dst, .binOp .geq t x y yt, ty, pos, after, gd⟩ w (KP Φ w v) KF) := by
  unfold bGeq at e
  split at e
  · obtain ⟨he, e⟩ := recB e
    obtain ⟨rfl, rfl⟩ := okB_ok e
    refine ⟨rfl, fun hx hy => ?_⟩
    have := ikEq_eq he; subst this
    exact St.geq hx.iI hy.iI (by rw [ilt_eq, ← decide_not, decide_eq_decide]; omega) ⟨rfl, Rv.mb⟩
  · cases e
end
theorem wrap_mod (k : IntKind) {z z' : Int} (h : z % 2 ^ k.bits = z' % 2 ^ k.bits) : k.wrap z = k.wrap z' := by unfold IntKind.wrap; simp only [h]
theorem not_wrap (k : IntKind) (a : Int) : k.wrap ((BitVec.ofInt k.bits (if k.signed then -1 else k.max) ^^^ BitVec.ofInt k.bits a).toNat : Int) = k.wrap (-1 - a) := by
  have e1 : BitVec.ofInt k.bits (if k.signed then -1 else k.max) = BitVec.allOnes k.bits := by cases k <;> rfl
  rw [e1, BitVec.allOnes_xor, BitVec.toNat_not, BitVec.toNat_ofInt]
  apply wrap_mod
  have hN : (0 : Int) < 2 ^ k.bits := Int.pow_pos (by omega)
  generalize hn : (2 : Int) ^ k.bits = N at *
  have hc : ((2 ^ k.bits : Nat) : Int) = N := by rw [← hn]; simp
  have h1 := Int.emod_add_mul_ediv a N
  have h2 := Int.emod_nonneg a (show N ≠ 0 by omega)
  have h3 := Int.emod_lt_of_pos a hN
  have h4 : ((2 ^ k.bits - 1 - (a % ((2 ^ k.bits : Nat) : Int)).toNat : Nat) : Int) = (-1 - a) + N * (a / N + 1) := by
    rw [Int.mul_add, Int.mul_one, hc]
    have : ((2 ^ k.bits - 1 - (a % N).toNat : Nat) : Int) = N - 1 - a % N := by omega
    rw [this]; omega
  rw [h4, Int.add_mul_emod_self_left]
/-- what a pure operation does -/
def Pu (P : Program) (op : Op) (f : Fr) (v : AV) : Prop := ∀ (Φ : Phi) (F : Wf.Fr) (w : World) (dst : Option Tmp) (ty : TypeId) (pos : String) (after : Array Edge) (gd : Option (Nat × Bool)), FR Φ f F →
  St P (fe F) ⟨dst, op, ty, pos, after, gd⟩ w (KP Φ w v) KF
section
variable {P : Program} {f : Fr} {v : AV} {h h' : Hp}
theorem evBin_s {op : BinOp} {t yt : TypeId} {x y : Operand} (e : evBin P op t x y f h = .ok v h') : h' = h ∧ Pu P (.binOp op t x y yt) f v := by
  have key : ∀ {g : AV → AV → Hp → Res}, g (opd f x) (opd f y) h = .ok v h' → (∀ {Φ : Phi} {ρ : Operand → Value} {dst : Option Tmp} {ty : TypeId} {pos : String} {after : Array Edge} {gd : Option (Nat × Bool)} {w : World},
      g (opd f x) (opd f y) h = .ok v h' → h' = h ∧ (Rv Φ (opd f x) (ρ x) → Rv Φ (opd f y) (ρ y) → St P ρ ⟨dst, .binOp op t x y yt, ty, pos, after, gd⟩ w (KP Φ w v) KF)) → h' = h ∧ Pu P (.binOp op t x y yt) f v := by
    intro g hg hh
    refine ⟨(hh (Φ := fun _ => none) (ρ := fun _ => .nilFunc) (dst := none) (ty := 0) (pos := "") (after := #[]) (gd := none) (w := default) hg).1, ?_⟩
    intro Φ F w dst ty pos after gd hF
    exact (hh hg).2 (opd_sound hF x) (opd_sound hF y)
  cases op
  · exact key (g := bAdd) e bAdd_s
  · exact key (g := bSub) e bSub_s
  · exact key (g := bMul) e bMul_s
  · exact key (g := bQuo) e bQuo_s
  · exact key (g := bRem) e bRem_s
  all_goals first
    | exact key (g := bBits fun m n => Nat.xor m (Nat.land m n)) e bAndNot_s
    | exact key (g := bBits Nat.land) e bAnd_s
    | exact key (g := bBits Nat.lor) e bOr_s
    | exact key (g := bBits Nat.xor) e bXor_s
    | exact key (g := bShl) e bShl_s
    | exact key (g := bShr) e bShr_s
    | exact key (g := bEql P (isConst x || isConst y) t) e bEql_s
    | exact key (g := bNeq P (isConst x || isConst y) t) e bNeq_s
    | exact key (g := bLss) e bLss_s
    | exact key (g := bLeq) e bLeq_s
    | exact key (g := bGtr) e bGtr_s
    | exact key (g := bGeq) e bGeq_s
    | cases e
theorem evMove_s {x : Operand} (e : evMove x f h = .ok v h') : h' = h ∧ Pu P (.move x) f v ∧ Pu P (.assign x) f v := by
  obtain ⟨rfl, rfl⟩ := ok_inj e
  exact ⟨rfl, fun Φ F w dst ty pos after gd hF => St.move ⟨rfl, opd_sound hF x⟩, fun Φ F w dst ty pos after gd hF => St.assign ⟨rfl, opd_sound hF x⟩⟩
theorem evPick_s {c a b : Operand} (e : evPick c a b f h = .ok v h') : h' = h ∧ Pu P (.pick c a b) f v := by
  unfold evPick at e
  split at e
  · rename_i t ht
    cases t
    · obtain ⟨rfl, rfl⟩ := ok_inj e
      refine ⟨rfl, fun Φ F w dst ty pos after gd hF => ?_⟩
      have := opd_sound hF c
      rw [ht] at this
      exact St.pick this.bI ⟨rfl, opd_sound hF b⟩
    · obtain ⟨rfl, rfl⟩ := ok_inj e
      refine ⟨rfl, fun Φ F w dst ty pos after gd hF => ?_⟩
      have := opd_sound hF c
      rw [ht] at this
      exact St.pick this.bI ⟨rfl, opd_sound hF a⟩
  · cases e
theorem evNilCheck_s {x : Operand} (e : evNilCheck x f h = .ok v h') : h' = h ∧ Pu P (.nilCheck x) f v := by
  unfold evNilCheck at e
  split at e
  · rename_i id off hx
    obtain ⟨rfl, rfl⟩ := ok_inj e
    refine ⟨rfl, fun Φ F w dst ty pos after gd hF => ?_⟩
    have := opd_sound hF x
    rw [hx] at this
    obtain ⟨e, he, hv⟩ := this.pI
    exact St.nilCheck hv ⟨rfl, Rv.mp he⟩
  · rename_i k c hx
    obtain ⟨rfl, rfl⟩ := ok_inj e
    refine ⟨rfl, fun Φ F w dst ty pos after gd hF => ?_⟩
    have hr := opd_sound hF x
    rw [hx] at hr
    obtain ⟨vs, hv, _⟩ := hr.fnI
    refine St.of_run (v := fe F x) (w' := w) ?_ ⟨rfl, hr⟩
    simp [execOp, hv]
  · rename_i g off hx
    obtain ⟨rfl, rfl⟩ := ok_inj e
    refine ⟨rfl, fun Φ F w dst ty pos after gd hF => ?_⟩
    have hr := opd_sound hF x
    rw [hx] at hr
    have hv := hr
    simp only [Rv] at hv
    exact St.nilCheck hv ⟨rfl, by rw [← hv]; exact hr⟩
  · cases e
theorem evUn_s {op : UnOp} {t : TypeId} {x : Operand} (e : evUn op x f h = .ok v h') : h' = h ∧ Pu P (.unOp op t x) f v := by
  unfold evUn at e
  split at e
  · rename_i hx
    obtain ⟨rfl, rfl⟩ := okB_ok e
    refine ⟨rfl, fun Φ F w dst ty pos after gd hF => ?_⟩
    have := opd_sound hF x
    rw [hx] at this
    exact St.not this.bI ⟨rfl, Rv.mb⟩
  · rename_i hx
    obtain ⟨rfl, rfl⟩ := okI_ok e
    refine ⟨rfl, fun Φ F w dst ty pos after gd hF => ?_⟩
    have := opd_sound hF x
    rw [hx] at this
    exact St.neg this.iI (wrapF_eq _ _).symm ⟨rfl, Rv.mi⟩
  · rename_i k a hx
    obtain ⟨rfl, rfl⟩ := okI_ok e
    refine ⟨rfl, fun Φ F w dst ty pos after gd hF => ?_⟩
    have hr := opd_sound hF x
    rw [hx] at hr
    refine St.of_run (v := .int k (wrapF k (Int.sub (Int.negSucc 0) a))) (w' := w) ?_ ⟨rfl, Rv.mi⟩
    rw [wrapF_eq]
    have e9 : Op.intBits .xor k (if k.signed then -1 else k.max) a = pure (.int k (k.wrap ((Int.negSucc 0).sub a))) := by
      show pure (Value.int k (k.wrap ((BitVec.ofInt k.bits (if k.signed then -1 else k.max) ^^^ BitVec.ofInt k.bits a).toNat : Int))) = _
      rw [not_wrap]; rfl
    simp [execOp, hr.iI, Op.unary, e9]
  · cases e
theorem evConvP_s {s d : TypeId} {x : Operand} (e : evConvP P s d x f h = .ok v h') : h' = h ∧ Pu P (.convert s d x) f v := by
  unfold evConvP at e
  split at e
  · rename_i hx
    split at e
    · rename_i j hj
      obtain ⟨hs, e⟩ := recB e
      obtain ⟨rfl, rfl⟩ := okI_ok e
      refine ⟨rfl, fun Φ F w dst ty pos after gd hF => ?_⟩
      have := opd_sound hF x
      rw [hx] at this
      exact St.conv hs (isInt_u hj) this.iI (wrapF_eq _ _).symm ⟨rfl, Rv.mi⟩
    · cases e
  · rename_i l hx
    obtain ⟨hs, e⟩ := recB e
    obtain ⟨rfl, rfl⟩ := ok_inj e
    obtain ⟨h1, h2⟩ := and_t hs
    refine ⟨rfl, fun Φ F w dst ty pos after gd hF => ?_⟩
    have hr := opd_sound hF x
    rw [hx] at hr
    refine St.of_run (v := fe F x) (w' := w) ?_ ⟨rfl, hr⟩
    obtain ⟨_, hv⟩ := hr.sI
    simp [execOp, hv, str, convert, run_underlying (isStr_u h1), run_underlying (isStr_u h2)]
  · cases e
theorem evFieldAddr_s {s : TypeId} {x : Operand} {i : Nat} (e : evFieldAddr P s x i f h = .ok v h') : h' = h ∧ Pu P (.fieldAddr s x i) f v := by
  unfold evFieldAddr at e
  split at e
  · rename_i id off hx
    split at e
    · rename_i o ho
      rw [fz_eq] at e
      obtain ⟨rfl, rfl⟩ := ok_inj e
      refine ⟨rfl, fun Φ F w dst ty pos after gd hF => ?_⟩
      have := opd_sound hF x
      rw [hx] at this
      obtain ⟨e, he, hv⟩ := this.pI
      exact St.fieldAddr ho hv ⟨rfl, by rw [Nat.add_assoc]; exact Rv.mp he⟩
    · cases e
  · rename_i g off hx
    split at e
    · rename_i o ho
      rw [fz_eq] at e
      obtain ⟨rfl, rfl⟩ := ok_inj e
      refine ⟨rfl, fun Φ F w dst ty pos after gd hF => ?_⟩
      have hr := opd_sound hF x
      rw [hx] at hr
      simp only [Rv] at hr
      exact St.fieldAddr ho hr ⟨rfl, by simp only [Rv]; rfl⟩
    · cases e
  · cases e
theorem arrOf_u {t n e : Nat} (h : arrOf P t = some (n, e)) : P.underlying t = some (.array n e) := by unfold arrOf at h; split at h <;> first | (cases h; assumption) | cases h
theorem St.indexArr {ρ : Operand → Value} {dst : Option Tmp} {ty : TypeId} {pos : String} {after : Array Edge} {gd : Option (Nat × Bool)} {w : World} {K : Value → World → Prop} {Kp : List PanicEntry → World → Prop}
    {x i : Operand} {t e n : Nat} {b o : Nat} {k : IntKind} {a : Int} {j : Nat} {inf : TypeInfo} (ht : P.underlying t = some (.array n e)) (hi : P.info? e = some inf)
    (hx : ρ x = .pointer (some ⟨b, o, none⟩)) (hy : ρ i = .int k a) (ha : a = j) (hj : j < n) (h : K (.pointer (some ⟨b, o + j * inf.size, none⟩)) w) :
    St P ρ ⟨dst, .indexAddr t x i, ty, pos, after, gd⟩ w K Kp := by
  subst ha
  refine St.of_run (v := .pointer (some ⟨b, o + j * inf.size, none⟩)) ?_ h
  simp [execOp, hx, hy, Instr.indexAt, Instr.sureAddr, asIntOf, run_underlying ht, sizeOf, typeInfo, hi, hj, Addr.add_lit]
theorem evIndexAddr_s {t : TypeId} {x i : Operand} (e : evIndexAddr P t x i f h = .ok v h') : h' = h ∧ Pu P (.indexAddr t x i) f v := by
  unfold evIndexAddr at e
  split at e
  · rename_i id off n z cap hx
    split at e
    · cases e
    · rename_i sz hsz
      obtain ⟨k, j, hi, e⟩ := recN e
      obtain ⟨hc, e⟩ := recB e
      obtain ⟨h1, h2⟩ := and_t hc
      rw [fz_eq] at e
      obtain ⟨rfl, rfl⟩ := ok_inj e
      have hz : sz = z := Nat.eq_of_beq_eq_true h2
      subst hz
      refine ⟨rfl, fun Φ F w dst ty pos after gd hF => ?_⟩
      have hxs := opd_sound hF x
      have his := opd_sound hF i
      rw [hx] at hxs
      rw [hi] at his
      obtain ⟨e, c, he, hv, _⟩ := hxs.slI
      rw [Option.bind_eq_some_iff] at hsz
      obtain ⟨el, hel, hsz⟩ := hsz
      obtain ⟨zv, by_, hinf⟩ := szOf_u hsz
      obtain ⟨inf, hi', _, hs, _⟩ := infoOf_parts hinf
      refine St.indexAddr (slOf_u hel) hi' hs hv his.iI rfl (of_blt h1) ⟨rfl, ?_⟩
      rw [Nat.add_assoc]; exact Rv.mp he
  · rename_i id off hx
    split at e
    · cases e
    · rename_i q hq
      split at e
      · cases e
      · rename_i sz hsz
        obtain ⟨k, j, hi, e⟩ := recN e
        obtain ⟨hc, e⟩ := recB e
        obtain ⟨h1, h2⟩ := and_t hc
        rw [fz_eq] at e
        obtain ⟨rfl, rfl⟩ := ok_inj e
        refine ⟨rfl, fun Φ F w dst ty pos after gd hF => ?_⟩
        have hxs := opd_sound hF x
        have his := opd_sound hF i
        rw [hx] at hxs
        rw [hi] at his
        obtain ⟨e, he, hv⟩ := hxs.pI
        obtain ⟨zv, by_, hinf⟩ := szOf_u hsz
        obtain ⟨inf, hi', _, hs, _⟩ := infoOf_parts hinf
        subst hs
        refine St.indexArr (arrOf_u hq) hi' hv his.iI rfl (of_blt h1) ⟨rfl, ?_⟩
        rw [Nat.add_assoc]; exact Rv.mp he
  · rename_i id off hx
    split at e
    · cases e
    · rename_i q hq
      split at e
      · cases e
      · rename_i sz hsz
        obtain ⟨k, j, hi, e⟩ := recN e
        obtain ⟨hc, e⟩ := recB e
        obtain ⟨h1, h2⟩ := and_t hc
        rw [fz_eq] at e
        obtain ⟨rfl, rfl⟩ := ok_inj e
        refine ⟨rfl, fun Φ F w dst ty pos after gd hF => ?_⟩
        have hxs := opd_sound hF x
        have his := opd_sound hF i
        rw [hx] at hxs
        rw [hi] at his
        simp only [Rv] at hxs
        obtain ⟨zv, by_, hinf⟩ := szOf_u hsz
        obtain ⟨inf, hi', _, hs, _⟩ := infoOf_parts hinf
        subst hs
        exact St.indexArr (arrOf_u hq) hi' hxs his.iI rfl (of_blt h1) ⟨rfl, by simp only [Rv]; rfl⟩
  · cases e
theorem evIndex_s {t : TypeId} {x i : Operand} (e : evIndex P t x i f h = .ok v h') : h' = h ∧ Pu P (.index t x i) f v := by
  unfold evIndex at e
  split at e
  · rename_i l hx
    obtain ⟨ht, e⟩ := recB e
    obtain ⟨k, j, hi, e⟩ := recN e
    split at e
    · rename_i c hc
      obtain ⟨rfl, rfl⟩ := ok_inj e
      rw [nth_eq] at hc
      refine ⟨rfl, fun Φ F w dst ty pos after gd hF => ?_⟩
      have hxs := opd_sound hF x
      have his := opd_sound hF i
      rw [hx] at hxs
      rw [hi] at his
      obtain ⟨hl, hv⟩ := hxs.sI
      have hcl := hl c (List.mem_of_getElem? hc)
      refine St.indexL (c := UInt8.ofNat c) (isStr_u ht) hv his.iI rfl (by rw [List.getElem?_map, hc]; rfl) ⟨rfl, ?_⟩
      rw [u8n hcl]; exact Rv.mi
    · cases e
  · rename_i cs hx
    split at e
    · cases e
    · rename_i q hq
      split at e
      · cases e
      · rename_i sz hsz
        obtain ⟨k, j, hi, e⟩ := recN e
        obtain ⟨hc, e⟩ := recB e
        split at e
        · rename_i r hr
          obtain ⟨rfl, rfl⟩ := ok_inj e
          refine ⟨rfl, fun Φ F w dst ty pos after gd hF => ?_⟩
          have hxs := opd_sound hF x
          have his := opd_sound hF i
          rw [hx] at hxs
          rw [hi] at his
          obtain ⟨Cs, hv, hC⟩ := hxs.agI
          obtain ⟨A, h1, h2⟩ := partA_s (w := w) hr hC
          obtain ⟨zv, by_, hinf⟩ := szOf_u hsz
          obtain ⟨inf, hi', _, hs, _⟩ := infoOf_parts hinf
          subst hs
          refine St.of_run (v := A) (w' := w) ?_ ⟨rfl, h2⟩
          have hlt : j < q.1 := of_blt hc
          have h1' : (part q.2 Cs.toArray (j * inf.size)).run P w = .ok A w := h1
          simp [execOp, hv, his.iI, Instr.index, asIntOf, run_underlying (arrOf_u hq), sizeOf, typeInfo, hi', hlt, h1']
        · cases e
  · cases e
theorem fldOf_u {s i : Nat} {q : TypeId × Nat} (h : fldOf P s i = some q) : ∃ fs : Array Field, ∃ fl, P.underlying s = some (.struct fs) ∧ fs[i]? = some fl ∧ q = (fl.type, fl.offset) := by
  unfold fldOf at h
  split at h
  · rename_i fs hu
    rw [Option.map_eq_some_iff] at h
    obtain ⟨fl, h1, h2⟩ := h
    exact ⟨fs, fl, hu, h1, h2.symm⟩
  · cases h
theorem evField_s {s : TypeId} {x : Operand} {i : Nat} (e : evField P s x i f h = .ok v h') : h' = h ∧ Pu P (.field s x i) f v := by
  unfold evField at e
  split at e
  · rename_i cs hx
    split at e
    · cases e
    · rename_i q hq
      split at e
      · rename_i r hr
        obtain ⟨rfl, rfl⟩ := ok_inj e
        refine ⟨rfl, fun Φ F w dst ty pos after gd hF => ?_⟩
        have hxs := opd_sound hF x
        rw [hx] at hxs
        obtain ⟨Cs, hv, hC⟩ := hxs.agI
        obtain ⟨A, h1, h2⟩ := partA_s (w := w) hr hC
        obtain ⟨fs, fl, hu, hf, rfl⟩ := fldOf_u hq
        refine St.of_run (v := A) (w' := w) ?_ ⟨rfl, h2⟩
        have h1' : (part fl.type Cs.toArray fl.offset).run P w = .ok A w := h1
        simp [execOp, hv, Instr.field, run_underlying hu, hf, asAgg, h1']
      · cases e
  · cases e
theorem evMakeInterface_s {t : TypeId} {x : Operand} (e : evMakeInterface P t x f h = .ok v h') : h' = h ∧ Pu P (.makeInterface t x) f v := by
  unfold evMakeInterface at e
  obtain ⟨ht, e⟩ := recB e
  obtain ⟨rfl, rfl⟩ := ok_inj e
  refine ⟨rfl, fun Φ F w dst ty pos after gd hF => St.makeInterface ht ⟨rfl, ?_⟩⟩
  simp only [Rv]; exact ⟨_, rfl, opd_sound hF x⟩
theorem zvOf_s {Φ : Phi} {w : World} {t : TypeId} {z : AV} (h : zvOf P t = some z) : ∃ Z, (zeroValue t).run P w = .ok Z w ∧ Rv Φ z Z := by
  unfold zvOf at h
  rw [Option.map_eq_some_iff] at h
  obtain ⟨⟨Z, s, b⟩, h1, h2⟩ := h
  obtain ⟨inf, hi, hz, _, _⟩ := infoOf_parts h1
  refine ⟨Z, by simp [zeroValue, typeInfo, hi, hz], ?_⟩
  subst h2
  dsimp only
  split
  · rename_i cs
    simp only [Rv]; exact ⟨cs.toList, rfl, cvs_sound _⟩
  · exact cv_sound _
theorem evExtract_s {x : Operand} {i : Nat} (e : evExtract x i f h = .ok v h') : h' = h ∧ Pu P (.extract x i) f v := by
  unfold evExtract at e
  split at e
  · rename_i l hx
    split at e
    · rename_i r hu
      obtain ⟨rfl, rfl⟩ := ok_inj e
      rw [nth_eq] at hu
      refine ⟨rfl, fun Φ F w dst ty pos after gd hF => ?_⟩
      have hxs := opd_sound hF x
      rw [hx] at hxs
      simp only [Rv] at hxs
      obtain ⟨vs, hv, hl⟩ := hxs
      obtain ⟨y, hy, hr⟩ := hl.at hu
      exact St.extract hv (by simpa using hy) ⟨rfl, hr⟩
    · cases e
  · cases e
theorem evMakeFunc_s {fn : Fn} {first cap : Array Operand} (e : evMakeFunc fn first cap f h = .ok v h') : h' = h ∧ Pu P (.makeFunc fn first cap) f v := by
  unfold evMakeFunc at e
  split at e
  · rename_i k
    split at e
    · rename_i hf
      obtain ⟨rfl, rfl⟩ := ok_inj e
      refine ⟨rfl, fun Φ F w dst ty pos after gd hF => ?_⟩
      refine St.of_run (v := .func (.func k) #[] (cap.toList.map (fe F)).toArray) (w' := w) ?_ ⟨rfl, ?_⟩
      · have h1 : first = #[] := by apply Array.ext'; rw [hf]
        have h2 : cap.map (fe F) = (cap.toList.map (fe F)).toArray := by apply Array.ext'; simp
        subst h1
        simp [execOp, Instr.makeFunc, h2]
      · simp only [Rv]; exact ⟨_, rfl, opds_sound hF _⟩
    · cases e
  · cases e
theorem asrt_fail {ok : Bool} {at_ : TypeId} (e : (Bool.rec (Res.no 171) (match zvOf P at_ with | some z => Res.ok (.tp [z, .b false]) h | none => Res.no 171) ok : Res) = .ok v h') :
    h' = h ∧ ok = true ∧ ∃ z, zvOf P at_ = some z ∧ v = .tp [z, .b false] := by
  cases ok with
  | false => cases e
  | true =>
    have e : (match zvOf P at_ with | some z => Res.ok (.tp [z, .b false]) h | none => Res.no 171) = .ok v h' := e
    split at e
    · rename_i z hz
      obtain ⟨rfl, rfl⟩ := ok_inj e
      exact ⟨rfl, rfl, z, hz, rfl⟩
    · cases e
theorem Rv.tp2 {Φ : Phi} {a b : AV} {A B : Value} (h1 : Rv Φ a A) (h2 : Rv Φ b B) : Rv Φ (.tp [a, b]) (.tuple #[A, B]) := by
  simp only [Rv]
  exact ⟨[A, B], rfl, by simp only [RvL]; exact ⟨A, [B], rfl, h1, B, [], rfl, h2, rfl⟩⟩
theorem evTypeAssert_s {x : Operand} {xt at_ : TypeId} {ok : Bool} (e : evTypeAssert P x at_ ok f h = .ok v h') : h' = h ∧ Pu P (.typeAssert x xt at_ ok) f v := by
  unfold evTypeAssert at e
  split at e
  · cases e
  · cases e
  · rename_i D hni hu
    split at e
    · rename_i hx
      obtain ⟨rfl, rfl, z, hz, rfl⟩ := asrt_fail e
      refine ⟨rfl, fun Φ F w dst ty pos after gd hF => ?_⟩
      have hxs := opd_sound hF x
      rw [hx] at hxs
      simp only [Rv] at hxs
      obtain ⟨Z, h1, h2⟩ := zvOf_s (Φ := Φ) (w := w) hz
      refine St.of_run (v := .tuple #[Z, .bool false]) (w' := w) ?_ ⟨rfl, Rv.tp2 h2 Rv.mb⟩
      cases D <;> first | (exact (hni _ rfl).elim) | simp [execOp, hxs, Instr.typeAssert, run_underlying hu, h1]
    · rename_i t a hx
      cases hb : Nat.beq t at_ with
      | false =>
        rw [hb] at e
        obtain ⟨rfl, rfl, z, hz, rfl⟩ := asrt_fail e
        refine ⟨rfl, fun Φ F w dst ty pos after gd hF => ?_⟩
        have hxs := opd_sound hF x
        rw [hx] at hxs
        simp only [Rv] at hxs
        obtain ⟨X, hxs, _⟩ := hxs
        obtain ⟨Z, h1, h2⟩ := zvOf_s (Φ := Φ) (w := w) hz
        have hne : ¬ t = at_ := fun e => by rw [e, Nat.beq_refl] at hb; cases hb
        refine St.of_run (v := .tuple #[Z, .bool false]) (w' := w) ?_ ⟨rfl, Rv.tp2 h2 Rv.mb⟩
        cases D <;> first | (exact (hni _ rfl).elim) | simp [execOp, hxs, Instr.typeAssert, run_underlying hu, h1, hne]
      | true =>
        rw [hb] at e
        obtain ⟨rfl, rfl⟩ := ok_inj e
        have := Nat.eq_of_beq_eq_true hb
        subst this
        refine ⟨rfl, fun Φ F w dst ty pos after gd hF => ?_⟩
        have hxs := opd_sound hF x
        rw [hx] at hxs
        simp only [Rv] at hxs
        obtain ⟨X, hxs, hX⟩ := hxs
        cases ok with
        | false =>
          refine St.of_run (v := X) (w' := w) ?_ ⟨rfl, hX⟩
          cases D <;> first | (exact (hni _ rfl).elim) | simp [execOp, hxs, Instr.typeAssert, run_underlying hu]
        | true =>
          refine St.of_run (v := .tuple #[X, .bool true]) (w' := w) ?_ ⟨rfl, Rv.tp2 hX Rv.mb⟩
          cases D <;> first | (exact (hni _ rfl).elim) | simp [execOp, hxs, Instr.typeAssert, run_underlying hu]
    · cases e
end
end Go.Ev
