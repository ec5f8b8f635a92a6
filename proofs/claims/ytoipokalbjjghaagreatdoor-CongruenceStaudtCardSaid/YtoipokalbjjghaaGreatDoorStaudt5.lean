/- Part 5 of the texts for the claim. -/
import Derived.Test.YtoipokalbjjghaaGreatDoorStaudt4
import Derived.Laws.RangeString
import Derived.Lib.UnsafeStr
import Derived.Lib.MakeNoZero
import Derived.Laws.Externs
set_option linter.unusedVariables false
set_option linter.unusedSimpArgs false
namespace Go.Ev
set_option linter.unusedVariables false
set_option linter.unusedSimpArgs false
open Go Go.Wf Go.RowKit
section
variable {P : Program} {f : Fr} {v : AV} {h h' : Hp}
theorem cellsOf_s {Φ : Phi} {a : AV} {l : List AV} {v : Value} (hc : cellsOf a = some l) (h : Rv Φ a v) : ∃ vs : List Value, v.cells = vs.toArray ∧ RvL Φ l vs := by
  unfold cellsOf at hc
  split at hc
  · cases hc
  · cases hc
  · cases hc
    simp only [Rv] at h
    obtain ⟨vs, rfl, hl⟩ := h
    exact ⟨vs, rfl, hl⟩
  · rename_i h1 h2 h3
    cases hc
    refine ⟨[v], ?_, by simp only [RvL]; exact ⟨v, [], rfl, h, rfl⟩⟩
    cases a <;> first
      | (exact absurd rfl h1; done)
      | (exact absurd rfl (h2 _); done)
      | (exact absurd rfl (h3 _); done)
      | (simp only [Rv] at h; first
          | (subst h; rfl)
          | (obtain ⟨_, rfl⟩ := h; rfl)
          | (obtain ⟨_, _, rfl⟩ := h; rfl)
          | (obtain ⟨_, rfl, _⟩ := h; rfl)
          | (obtain ⟨_, _, rfl, _⟩ := h; rfl)
          | (obtain ⟨_, _, _, rfl, _⟩ := h; rfl))
theorem foldl_set (vs : List Value) (off : Nat) (C : Array Value) (hf : off + vs.length ≤ C.size) :
    (vs.toArray.zipIdx.foldl (fun cs (c, j) => cs.setIfInBounds (off + j) c) C) = (C.toList.take off ++ vs ++ C.toList.drop (off + vs.length)).toArray := by
  have key : ∀ (vs : List Value) (k off : Nat) (C : List Value), off + k + vs.length ≤ C.length →
      ((vs.zipIdx k).foldl (fun (cs : Array Value) p => cs.setIfInBounds (off + p.2) p.1) C.toArray) = (C.take (off + k) ++ vs ++ C.drop (off + k + vs.length)).toArray := by
    intro vs
    induction vs with
    | nil => intro k off C h; simp
    | cons v vs ih =>
      intro k off C h
      rw [List.length_cons] at h
      rw [List.zipIdx_cons, List.foldl_cons]
      have e1 : (C.toArray.setIfInBounds (off + k) v) = (C.set (off + k) v).toArray := by simp
      rw [e1, ih (k + 1) off (C.set (off + k) v) (by rw [List.length_set]; omega)]
      congr 1
      have hlt : off + k < C.length := by omega
      rw [List.set_eq_take_append_cons_drop, if_pos hlt]
      have e2 : (C.take (off + k)).length = off + k := by rw [List.length_take]; omega
      rw [show off + (k + 1) = (C.take (off + k)).length + 1 by rw [e2]; omega]
      rw [List.take_append, List.drop_append]
      simp only [e2, List.length_cons]
      rw [List.take_of_length_le (by rw [e2]; omega)]
      have e3 : off + k + 1 - (off + k) = 1 := by omega
      have e4 : off + k + 1 + vs.length - (off + k) = vs.length + 1 := by omega
      rw [e3, e4, List.drop_of_length_le (l := C.take (off + k)) (by rw [e2]; omega)]
      simp only [List.take_succ_cons, List.take_zero, List.nil_append, List.drop_succ_cons, List.append_assoc, List.cons_append]
      rw [List.drop_drop]
      congr 4
      omega
  have := key vs 0 off C.toList (by simpa using hf)
  simp only [Nat.add_zero] at this
  rw [← this]
  rw [← Array.foldl_toList]
  simp
theorem fillA_s {place : Nat → Option (Nat × Nat)} {k : List AV → Res} : ∀ (l : List (Nat × Operand)) (cs : List AV), fillA place f l cs k = .ok v h' →
    ∃ cs', k cs' = .ok v h' ∧ ∀ (Φ : Phi) (F : Wf.Fr) (C : List Value), FR Φ f F → RvL Φ cs C → ∃ C', Instr.fill place C.toArray (l.map fun p => (p.1, fe F p.2)) = some C'.toArray ∧ RvL Φ cs' C' := by
  intro l
  induction l with
  | nil => intro cs e; exact ⟨cs, e, fun Φ F C _ hC => ⟨C, rfl, hC⟩⟩
  | cons p l ih =>
    intro cs e
    unfold fillA at e
    simp only at e
    split at e
    · cases e
    · rename_i q hq
      split at e
      · cases e
      · rename_i vs hvs
        obtain ⟨hl, e⟩ := recB e
        have hl := Nat.eq_of_beq_eq_true hl
        rw [len_eq] at hl
        have e' : (putK cs q.1 vs fun cs' => fillA place f l cs' k) = .ok v h' := e
        rcases putK_eq cs q.1 vs (fun cs' => fillA place f l cs' k) with ⟨e2, hle⟩ | ⟨n, e2⟩
        · have e3 : fillA place f l (cs.take q.1 ++ vs ++ cs.drop (q.1 + vs.length)) k = .ok v h' := e2 ▸ e'
          obtain ⟨cs', h1, h2⟩ := ih _ e3
          refine ⟨cs', h1, fun Φ F C hF hC => ?_⟩
          obtain ⟨us, hu1, hu2⟩ := cellsOf_s hvs (opd_sound hF p.2)
          have hul := hu2.len
          have hcl := hC.len
          obtain ⟨C', g1, g2⟩ := h2 Φ F (C.take q.1 ++ us ++ C.drop (q.1 + us.length)) hF (by
            rw [hul]
            exact (((hC.take _).app hu2).app (hC.drop _)))
          refine ⟨C', ?_, g2⟩
          rw [List.map_cons, Instr.fill, hq]
          simp only
          rw [hu1]
          have : ¬ (us.toArray.size ≠ q.2 ∨ q.1 + us.toArray.size > C.toArray.size) := by simp; omega
          simp only [Bool.or_eq_true, decide_eq_true_eq]
          rw [if_neg this, foldl_set us q.1 C.toArray (by simp; omega)]
          exact g1
        · rw [e2] at e'
          cases e'
theorem placesOf_u {t : TypeId} {pl : List (Nat × Nat)} (h : placesOf P t = some pl) : ∃ fs, P.underlying t = some (.struct fs) ∧ fs.toList.mapM (fun f => (P.info? f.type).map fun i => (f.offset, i.size)) = some pl := by
  unfold placesOf at h
  split at h
  · rename_i fs hu; exact ⟨fs, hu, h⟩
  · cases h
theorem evBuild_s {t : TypeId} {ps : Array (Nat × Operand)} (e : evBuild P t ps f h = .ok v h') : h' = h ∧ Pu P (.build t ps) f v := by
  unfold evBuild at e
  split at e
  · rename_i pl z hpl hz
    obtain ⟨cs', h1, h2⟩ := fillA_s _ _ e
    obtain ⟨rfl, rfl⟩ := ok_inj h1
    refine ⟨rfl, fun Φ F w dst ty pos after gd hF => ?_⟩
    obtain ⟨zv, sz, by_, hinf, rfl⟩ := zcOf_u hz
    obtain ⟨inf, hi', hzz, _, _⟩ := infoOf_parts hinf
    obtain ⟨C', g1, g2⟩ := h2 Φ F zv.cells.toList hF (cvs_sound _)
    obtain ⟨fs, hu, hpl⟩ := placesOf_u hpl
    refine St.build (cs := C') rfl ?_ ⟨rfl, by simp only [Rv]; exact ⟨C', rfl, g2⟩⟩
    unfold Program.built
    rw [hi', hu]
    simp only [hzz, hpl]
    have e2 : (fun x => pl.toArray[x]?) = nth pl := by funext i; rw [nth_eq]; simp
    rw [e2]
    have e3 : zv.cells.toList.toArray = zv.cells := by simp
    rw [e3] at g1
    exact g1
  · cases e
theorem evLen_s {ts : Array TypeId} {args : Array Operand} (e : evLen P ts.toList (opds f args.toList) h = .ok v h') : h' = h ∧ Pu P (.call { callee := .builtin .len, args := args, argTypes := ts }) f v := by
  have key : ∀ {t : TypeId} {a : AV}, ts.toList = [t] → opds f args.toList = [a] → ∃ x, args = #[x] ∧ ts = #[t] ∧ opd f x = a := by
    intro t a h1 h2
    have e1 : ts = #[t] := by apply Array.ext'; rw [h1]
    cases hx : args.toList with
    | nil => rw [hx] at h2; cases h2
    | cons x r =>
      rw [hx] at h2
      have h3 : opd f x :: opds f r = [a] := h2
      cases r with
      | cons y r => cases h3
      | nil =>
        refine ⟨x, ?_, e1, ?_⟩
        · apply Array.ext'; rw [hx]
        · exact (List.cons.inj h3).1
  unfold evLen at e
  split at e
  · rename_i t id off n z cap h1 h2
    obtain ⟨x, rfl, rfl, hx⟩ := key h1 h2
    obtain ⟨ht, e⟩ := recB e
    obtain ⟨rfl, rfl⟩ := ok_inj e
    refine ⟨rfl, fun Φ F w dst ty pos after gd hF => ?_⟩
    have hr := opd_sound hF x
    rw [hx] at hr
    obtain ⟨_, _, _, hv, _⟩ := hr.slI
    obtain ⟨el, hel⟩ := isSl_u ht
    exact St.len hel hv ⟨rfl, Rv.mi⟩
  · rename_i t h1 h2
    obtain ⟨x, rfl, rfl, hx⟩ := key h1 h2
    obtain ⟨ht, e⟩ := recB e
    obtain ⟨rfl, rfl⟩ := ok_inj e
    refine ⟨rfl, fun Φ F w dst ty pos after gd hF => ?_⟩
    have hr := opd_sound hF x
    rw [hx] at hr
    simp only [Rv] at hr
    obtain ⟨el, hel⟩ := isSl_u ht
    exact St.len hel hr ⟨rfl, Rv.mi⟩
  · rename_i t h1 h2
    obtain ⟨x, rfl, rfl, hx⟩ := key h1 h2
    obtain ⟨ht, e⟩ := recB e
    obtain ⟨rfl, rfl⟩ := ok_inj e
    refine ⟨rfl, fun Φ F w dst ty pos after gd hF => ?_⟩
    have hr := opd_sound hF x
    rw [hx] at hr
    simp only [Rv] at hr
    obtain ⟨_, _, hr, _⟩ := hr
    obtain ⟨el, hel⟩ := isSl_u ht
    exact St.len hel hr ⟨rfl, Rv.mi⟩
  · rename_i t l h1 h2
    obtain ⟨x, rfl, rfl, hx⟩ := key h1 h2
    obtain ⟨ht, e⟩ := recB e
    rw [fz_eq] at e
    obtain ⟨rfl, rfl⟩ := ok_inj e
    refine ⟨rfl, fun Φ F w dst ty pos after gd hF => ?_⟩
    have hr := opd_sound hF x
    rw [hx] at hr
    obtain ⟨_, hv⟩ := hr.sI
    refine St.lenL (isStr_u ht) hv ⟨rfl, ?_⟩
    rw [len_eq, List.length_map]; exact Rv.mi
  · cases e
theorem two {l : List Operand} {a b : AV} (h : opds f l = [a, b]) : ∃ x y, l = [x, y] ∧ opd f x = a ∧ opd f y = b := by
  cases l with
  | nil => cases h
  | cons x l =>
    cases l with
    | nil => cases h
    | cons y l =>
      cases l with
      | cons z l => cases h
      | nil =>
        have h3 : [opd f x, opd f y] = [a, b] := h
        exact ⟨x, y, rfl, (List.cons.inj h3).1, (List.cons.inj (List.cons.inj h3).2).1⟩
theorem minL_s {Φ : Phi} {w : World} {k : IntKind} : ∀ (l : List AV) (a : Int) (vs : List Value), minL k h l a = .ok v h' → RvL Φ l vs → ∃ z, v = .i k z ∧ h' = h ∧ (vs.foldlM Builtin.min2 (.int k a)).run P w = .ok (.int k z) w := by
  intro l
  induction l with
  | nil =>
    intro a vs e hl
    simp only [RvL] at hl; subst hl
    obtain ⟨rfl, rfl⟩ := ok_inj e
    exact ⟨a, rfl, rfl, by simp⟩
  | cons x l ih =>
    intro a vs e hl
    simp only [RvL] at hl
    obtain ⟨y, r, rfl, hy, hr⟩ := hl
    cases x with
    | i k' b =>
      have e : (Bool.rec (minL k h l a) (minL k h l b) (ilt b a) : Res) = .ok v h' := e
      rw [recBk, ilt_eq] at e
      rw [hy.iI]
      have hstep : (Builtin.min2 (.int k a) (.int k' b)) = pure (.int k (if b < a then b else a)) := rfl
      simp only [List.foldlM_cons, hstep, pure_bind]
      by_cases hb : b < a
      · rw [if_pos (by simpa using hb)] at e
        rw [if_pos hb]
        exact ih b r e hr
      · rw [if_neg (by simpa using hb)] at e
        rw [if_neg hb]
        exact ih a r e hr
    | _ => cases e
theorem minL_h {k : IntKind} : ∀ (l : List AV) (a : Int), minL k h l a = .ok v h' → h' = h := by
  intro l
  induction l with
  | nil => intro a e; exact (ok_inj e).2.symm
  | cons x l ih =>
    intro a e
    cases x with
    | i k' b =>
      have e : (Bool.rec (minL k h l a) (minL k h l b) (ilt b a) : Res) = .ok v h' := e
      rw [recBk] at e
      split at e
      · exact ih b e
      · exact ih a e
    | _ => cases e
theorem evMin_s {ts : Array TypeId} {args : Array Operand} (e : evMin (opds f args.toList) h = .ok v h') : h' = h ∧ Pu P (.call { callee := .builtin .min, args := args, argTypes := ts }) f v := by
  unfold evMin at e
  split at e
  · rename_i k a l h2
    have key : ∀ (Φ : Phi) (F : Wf.Fr), FR Φ f F → ∃ vs : List Value, args.toList.map (fe F) = .int k a :: vs ∧ RvL Φ l vs := by
      intro Φ F hF
      have := opds_sound hF args.toList
      rw [h2] at this
      simp only [RvL] at this
      obtain ⟨x, r, h3, h4, h5⟩ := this
      rw [h4.iI] at h3
      exact ⟨r, h3, h5⟩
    refine ⟨?_, fun Φ F w dst ty pos after gd hF => ?_⟩
    · exact minL_h l a e
    · obtain ⟨vs, h3, h5⟩ := key Φ F hF
      obtain ⟨z, rfl, _, hz⟩ := minL_s (P := P) (w := w) l a vs e h5
      refine St.of_run (v := .int k z) (w' := w) ?_ ⟨rfl, Rv.mi⟩
      have h6 : (args.map (fe F)) = (Value.int k a :: vs).toArray := by apply Array.ext'; simp [h3]
      have h7 : (Builtin.min_ ts ty (Value.int k a :: vs).toArray).run P w = .ok (.int k z) w := hz
      simp [execOp, resolve, invoke, builtin, h6, h7]
  · cases e
theorem maxL_s {Φ : Phi} {w : World} {k : IntKind} : ∀ (l : List AV) (a : Int) (vs : List Value), maxL k h l a = .ok v h' → RvL Φ l vs → ∃ z, v = .i k z ∧ h' = h ∧ (vs.foldlM Builtin.max2 (.int k a)).run P w = .ok (.int k z) w := by
  intro l
  induction l with
  | nil =>
    intro a vs e hl
    simp only [RvL] at hl; subst hl
    obtain ⟨rfl, rfl⟩ := ok_inj e
    exact ⟨a, rfl, rfl, by simp⟩
  | cons x l ih =>
    intro a vs e hl
    simp only [RvL] at hl
    obtain ⟨y, r, rfl, hy, hr⟩ := hl
    cases x with
    | i k' b =>
      have e : (Bool.rec (maxL k h l a) (maxL k h l b) (ilt a b) : Res) = .ok v h' := e
      rw [recBk, ilt_eq] at e
      rw [hy.iI]
      have hstep : (Builtin.max2 (.int k a) (.int k' b)) = pure (.int k (if b > a then b else a)) := rfl
      simp only [List.foldlM_cons, hstep, pure_bind]
      by_cases hb : b > a
      · rw [if_pos (by simpa using hb)] at e
        rw [if_pos hb]
        exact ih b r e hr
      · rw [if_neg (by simpa using hb)] at e
        rw [if_neg hb]
        exact ih a r e hr
    | _ => cases e
theorem maxL_h {k : IntKind} : ∀ (l : List AV) (a : Int), maxL k h l a = .ok v h' → h' = h := by
  intro l
  induction l with
  | nil => intro a e; exact (ok_inj e).2.symm
  | cons x l ih =>
    intro a e
    cases x with
    | i k' b =>
      have e : (Bool.rec (maxL k h l a) (maxL k h l b) (ilt a b) : Res) = .ok v h' := e
      rw [recBk] at e
      split at e
      · exact ih b e
      · exact ih a e
    | _ => cases e
theorem evMax_s {ts : Array TypeId} {args : Array Operand} (e : evMax (opds f args.toList) h = .ok v h') : h' = h ∧ Pu P (.call { callee := .builtin .max, args := args, argTypes := ts }) f v := by
  unfold evMax at e
  split at e
  · rename_i k a l h2
    have key : ∀ (Φ : Phi) (F : Wf.Fr), FR Φ f F → ∃ vs : List Value, args.toList.map (fe F) = .int k a :: vs ∧ RvL Φ l vs := by
      intro Φ F hF
      have := opds_sound hF args.toList
      rw [h2] at this
      simp only [RvL] at this
      obtain ⟨x, r, h3, h4, h5⟩ := this
      rw [h4.iI] at h3
      exact ⟨r, h3, h5⟩
    refine ⟨?_, fun Φ F w dst ty pos after gd hF => ?_⟩
    · exact maxL_h l a e
    · obtain ⟨vs, h3, h5⟩ := key Φ F hF
      obtain ⟨z, rfl, _, hz⟩ := maxL_s (P := P) (w := w) l a vs e h5
      refine St.of_run (v := .int k z) (w' := w) ?_ ⟨rfl, Rv.mi⟩
      have h6 : (args.map (fe F)) = (Value.int k a :: vs).toArray := by apply Array.ext'; simp [h3]
      have h7 : (Builtin.max_ ts ty (Value.int k a :: vs).toArray).run P w = .ok (.int k z) w := hz
      simp [execOp, resolve, invoke, builtin, h6, h7]
  · cases e
theorem getB_s {id : Nat} {k : Blk → Res} {n : Nat} (e : getB h id k (.no n) = .ok v h') : ∃ b, id < h.n ∧ get5 id h.t = some b ∧ b.ob = .row ∧ k b = .ok v h' := by
  unfold getB at e
  obtain ⟨h1, e⟩ := recB e
  cases hb : get5 id h.t with
  | none => rw [hb] at e; cases e
  | some b =>
    rw [hb] at e
    obtain ⟨ty, ex, ro, cs, ob⟩ := b
    cases ob <;> first | exact ⟨_, of_blt h1, rfl, rfl, e⟩ | cases e
theorem getM_s {id : Nat} {k : List En → Nat → Res} {n : Nat} (e : getM h id k (.no n) = .ok v h') : ∃ b es c, id < h.n ∧ get5 id h.t = some b ∧ b.ob = .map es c ∧ k es c = .ok v h' := by
  unfold getM at e
  obtain ⟨h1, e⟩ := recB e
  cases hb : get5 id h.t with
  | none => rw [hb] at e; cases e
  | some b =>
    rw [hb] at e
    obtain ⟨ty, ex, ro, cs, ob⟩ := b
    cases ob <;> first | exact ⟨_, _, _, of_blt h1, rfl, rfl, e⟩ | cases e
theorem getG_s {id : Nat} {k : List AV → Res} {n : Nat} (e : getG h id k (.no n) = .ok v h') : ∃ b, id < h.n ∧ get5 id h.t = some b ∧ b.ob = .glb ∧ k b.cs = .ok v h' := by
  unfold getG at e
  obtain ⟨h1, e⟩ := recB e
  cases hb : get5 id h.t with
  | none => rw [hb] at e; cases e
  | some b =>
    rw [hb] at e
    obtain ⟨ty, ex, ro, cs, ob⟩ := b
    cases ob <;> first | exact ⟨_, of_blt h1, rfl, rfl, e⟩ | cases e
theorem getL_s {id : Nat} {k : Bool → Nat → List Tmp → Code → Code → TF AV → Res} {n : Nat} (e : getL h id k (.no n) = .ok v h') : ∃ b busy m ps a bb f, id < h.n ∧ get5 id h.t = some b ∧ b.ob = .lp busy m ps a bb f ∧ k busy m ps a bb f = .ok v h' := by
  unfold getL at e
  obtain ⟨h1, e⟩ := recB e
  cases hb : get5 id h.t with
  | none => rw [hb] at e; cases e
  | some b =>
    rw [hb] at e
    obtain ⟨ty, ex, ro, cs, ob⟩ := b
    cases ob <;> first | exact ⟨_, _, _, _, _, _, _, of_blt h1, rfl, rfl, e⟩ | cases e
theorem getO_s {id : Nat} {k : Ob → Res} {n : Nat} (e : getO h id k (.no n) = .ok v h') : ∃ b, id < h.n ∧ get5 id h.t = some b ∧ k b.ob = .ok v h' := by
  unfold getO at e
  obtain ⟨h1, e⟩ := recB e
  cases hb : get5 id h.t with
  | none => rw [hb] at e; cases e
  | some b => rw [hb] at e; exact ⟨b, of_blt h1, rfl, e⟩
theorem BR.cell {Φ : Phi} {τ : Tau} {w : World} {b : Blk} {e : Ent} {id : Nat} {C : Array Value} {T : TypeId} (r : BR Φ τ w b e id C T) {o : Nat} {a : AV} (ha : b.cs[o]? = some a) : ∃ x, w.cell? ⟨e.g, e.base + o, none⟩ = some x ∧ Rv Φ a x := by
  obtain ⟨x, h1, h2⟩ := r.cr o a ha
  obtain ⟨fr, ho, _⟩ := r.obj
  exact ⟨x, by rw [cell_of_row w e.g (e.base + o) C T fr ho]; exact h1, h2⟩
theorem BR.cells {Φ : Phi} {τ : Tau} {w : World} {b : Blk} {e : Ent} {id : Nat} {C : Array Value} {T : TypeId} (r : BR Φ τ w b e id C T) (o n : Nat) (hn : n ≤ (b.cs.drop o).length) :
    ∃ vs : List Value, vs.length = n ∧ RvL Φ ((b.cs.drop o).take n) vs ∧ ∀ j u, vs[j]? = some u → w.cell? ⟨e.g, e.base + o + j, none⟩ = some u := by
  have hroom : n = 0 ∨ e.base + o + n ≤ C.size := by
    rw [List.length_drop] at hn
    rcases Nat.eq_zero_or_pos n with h | h
    · exact .inl h
    · have := r.room (n := o + n - 1) (by omega)
      exact .inr (by omega)
  refine ⟨(C.toList.drop (e.base + o)).take n, ?_, ?_, ?_⟩
  · rw [List.length_take, List.length_drop, Array.length_toList]
    omega
  · refine RvL.mk ?_ fun i a x hi hx => ?_
    · rw [List.length_take, List.length_take, List.length_drop, Array.length_toList]
      rw [List.length_drop] at hn
      rw [List.length_drop]; omega
    · rw [List.getElem?_take] at hi hx
      split at hi <;> rename_i hlt
      · rw [if_pos hlt, List.getElem?_drop] at hx
        rw [List.getElem?_drop] at hi
        obtain ⟨y, h1, h2⟩ := r.cr _ _ hi
        have h3 : C.toList[e.base + o + i]? = some y := by rw [← h1]; simp [Nat.add_assoc]
        rw [h3] at hx; cases hx; exact h2
      · cases hi
  · intro j x hj
    rw [List.getElem?_take] at hj
    split at hj
    · rw [List.getElem?_drop] at hj
      obtain ⟨fr, ho, _⟩ := r.obj
      rw [cell_of_row w e.g (e.base + o + j) C T fr ho]
      simpa using hj
    · cases hj
def Rd (P : Program) (op : Op) (f : Fr) (v : AV) (h : Hp) : Prop := ∀ (Φ : Phi) (τ : Tau) (F : Wf.Fr) (w : World) (dst : Option Tmp) (ty : TypeId) (pos : String) (after : Array Edge) (gd : Option (Nat × Bool)), FR Φ f F → Rel Φ τ h w →
  St P (fe F) ⟨dst, op, ty, pos, after, gd⟩ w (KP Φ w v) KF
theorem evLoad_s {t : TypeId} {a : Operand} (e : evLoad P t a f h = .ok v h') : h' = h ∧ Rd P (.load t a) f v h := by
  unfold evLoad at e
  split at e
  · rename_i id off ha
    obtain ⟨b, hid, hb, hrow, e⟩ := getB_s e
    split at e
    · rename_i hk
      split at e
      · rename_i x hx
        obtain ⟨rfl, rfl⟩ := ok_inj e
        rw [nth_eq] at hx
        refine ⟨rfl, fun Φ τ F w dst ty pos after gd hF hR => ?_⟩
        have hr := opd_sound hF a
        rw [ha] at hr
        obtain ⟨en, hen, hv⟩ := hr.pI
        obtain ⟨e', C, T, br⟩ := (hR.blk id b hid hb).row hrow
        have := br.ent
        rw [hen] at this; cases this
        obtain ⟨y, hy, hry⟩ := br.cell hx
        exact St.load1 (lkOf_one hk) hv hy ⟨rfl, hry⟩
      · cases e
    · rename_i sz hk
      rcases tkK_eq (dr b.cs off) sz (fun l => Res.ok (.ag l) h) with ⟨e2, hle⟩ | ⟨n, e2⟩
      · rw [e2] at e
        obtain ⟨rfl, rfl⟩ := ok_inj e
        rw [dr_eq] at hle ⊢
        refine ⟨rfl, fun Φ τ F w dst ty pos after gd hF hR => ?_⟩
        have hr := opd_sound hF a
        rw [ha] at hr
        obtain ⟨en, hen, hv⟩ := hr.pI
        obtain ⟨e', C, T, br⟩ := (hR.blk id b hid hb).row hrow
        have := br.ent
        rw [hen] at this; cases this
        obtain ⟨vs, hl, hrv, hc⟩ := br.cells off sz hle
        exact St.loadA (lkOf_agg hk) hv hl hc ⟨rfl, by simp only [Rv]; exact ⟨vs, rfl, hrv⟩⟩
      · rw [e2] at e; cases e
    · cases e
  · rename_i g off ha
    obtain ⟨b, hid, hb, hglb, e⟩ := getG_s e
    split at e
    · rename_i hk
      split at e
      · rename_i x hx
        obtain ⟨rfl, rfl⟩ := ok_inj e
        rw [nth_eq] at hx
        refine ⟨rfl, fun Φ τ F w dst ty pos after gd hF hR => ?_⟩
        have hr := opd_sound hF a
        rw [ha] at hr
        simp only [Rv] at hr
        obtain ⟨e', C, gr⟩ := (hR.blk _ b hid hb).tab hglb
        obtain ⟨T, fr, ho⟩ := gr.obj
        obtain ⟨y, hy, hry⟩ := gr.cr _ _ hx
        rw [Nat.zero_add] at hy
        refine St.load1 (lkOf_one hk) hr ?_ ⟨rfl, hry⟩
        rw [gr.at_] at ho
        rw [cell_of_row w g off C T fr ho]; exact hy
      · cases e
    · rename_i sz hk
      rcases tkK_eq (dr b.cs off) sz (fun l => Res.ok (.ag l) h) with ⟨e2, hle⟩ | ⟨n, e2⟩
      · rw [e2] at e
        obtain ⟨rfl, rfl⟩ := ok_inj e
        rw [dr_eq] at hle ⊢
        refine ⟨rfl, fun Φ τ F w dst ty pos after gd hF hR => ?_⟩
        have hr := opd_sound hF a
        rw [ha] at hr
        simp only [Rv] at hr
        obtain ⟨e', C, gr⟩ := (hR.blk _ b hid hb).tab hglb
        obtain ⟨T, fr, ho⟩ := gr.obj
        rw [gr.at_] at ho
        have hle : sz ≤ (b.cs.drop off).length := hle
        have hC : ∀ i a, ((b.cs.drop off).take sz)[i]? = some a → ∃ y, C[off + i]? = some y ∧ Rv Φ a y := by
          intro i a hi
          rw [List.getElem?_take] at hi
          split at hi
          · rw [List.getElem?_drop] at hi
            obtain ⟨y, h1, h2⟩ := gr.cr _ _ hi
            rw [Nat.zero_add] at h1
            exact ⟨y, h1, h2⟩
          · cases hi
        have hlen : ((C.toList.drop off).take sz).length = sz := by
          rw [List.length_take, List.length_drop, Array.length_toList]
          rw [List.length_drop] at hle
          rcases Nat.eq_zero_or_pos sz with h0 | h0
          · omega
          · obtain ⟨y, h1, _⟩ := hC (sz - 1) _ (List.getElem?_eq_getElem (by rw [List.length_take, List.length_drop]; omega))
            have := (Array.getElem?_eq_some_iff.1 h1).1
            omega
        refine St.loadA (cs := (C.toList.drop off).take sz) (lkOf_agg hk) hr hlen ?_ ⟨rfl, ?_⟩
        · intro j x hj
          rw [List.getElem?_take] at hj
          split at hj
          · rw [List.getElem?_drop] at hj
            rw [cell_of_row w g (off + j) C T fr ho]
            simpa using hj
          · cases hj
        · simp only [Rv]
          refine ⟨_, rfl, RvL.mk ?_ fun i a x hi hx => ?_⟩
          · rw [hlen, List.length_take]; omega
          · obtain ⟨y, h1, h2⟩ := hC i a hi
            rw [List.getElem?_take] at hx
            split at hx
            · rw [List.getElem?_drop] at hx
              have : C.toList[off + i]? = some y := by rw [← h1]; simp
              rw [this] at hx; cases hx; exact h2
            · cases hx
      · rw [e2] at e; cases e
    · cases e
  · cases e
end
end Go.Ev
namespace Go.Ev
set_option linter.unusedVariables false
set_option linter.unusedSimpArgs false
open Go Go.Wf Go.RowKit
section
variable {P : Program} {f : Fr} {v : AV} {h h' : Hp}
theorem bnd_s {α : Type} {o : Option Operand} {d : Nat} {k : Nat → Res} {n : Nat} {v : AV} (e : bnd f o d k (.no n) = .ok v h') :
    ∃ j, k j = .ok v h' ∧ ((o = none ∧ j = d) ∨ ∃ x kk, o = some x ∧ opd f x = .i kk (Int.ofNat j)) := by
  unfold bnd at e
  split at e
  · exact ⟨d, e, .inl ⟨rfl, rfl⟩⟩
  · obtain ⟨kk, m, hx, e⟩ := recN e
    rw [fz_eq] at e
    exact ⟨m, e, .inr ⟨_, kk, rfl, hx⟩⟩
theorem run_slice_str {Φ : Phi} {F : Wf.Fr} {w : World} {t : TypeId} {lo hi : Option Operand} {x : Value} {s : List UInt8} {i j : Nat} (hF : FR Φ f F) (ht : P.underlying t = some .string) (hx : x = str s)
    (hhi : (hi = none ∧ j = s.length) ∨ ∃ y kk, hi = some y ∧ opd f y = .i kk (Int.ofNat j)) (hlo : (lo = none ∧ i = 0) ∨ ∃ y kk, lo = some y ∧ opd f y = .i kk (Int.ofNat i)) (hij : i ≤ j) (hj : j ≤ s.length) :
    (Instr.sliceAt t x (lo.map (fe F)) (hi.map (fe F)) none).run P w = .ok (str ((s.take j).drop i)) w := by
  subst hx
  have hsz : (⟨s.toArray⟩ : ByteArray).size = s.length := by simp [ByteArray.size]
  have e := extract_list s i j
  have key : ∀ y kk m, opd f y = AV.i kk (Int.ofNat m) → fe F y = .int kk (Int.ofNat m) := fun y kk m hy => by have := opd_sound hF y; rw [hy] at this; exact this.iI
  rcases hhi with ⟨rfl, rfl⟩ | ⟨y, kk, rfl, hy⟩ <;> rcases hlo with ⟨rfl, rfl⟩ | ⟨y', kk', rfl, hy'⟩
  · simp [str, Instr.sliceAt, Instr.slice, run_underlying ht, Instr.sliceBounds, hsz] at e ⊢
  · have := key _ _ _ hy'
    simp [str, Instr.sliceAt, Instr.slice, run_underlying ht, Instr.sliceBounds, Instr.sliceBound, asIntOf, this, hsz, hij, hj] at e ⊢
    try exact e
  · have := key _ _ _ hy
    simp [str, Instr.sliceAt, Instr.slice, run_underlying ht, Instr.sliceBounds, Instr.sliceBound, asIntOf, this, hsz, hij, hj] at e ⊢
    try exact e
  · have h1 := key _ _ _ hy
    have h2 := key _ _ _ hy'
    simp [str, Instr.sliceAt, Instr.slice, run_underlying ht, Instr.sliceBounds, Instr.sliceBound, asIntOf, h1, h2, hsz, hij, hj] at e ⊢
    try exact e
theorem run_slice_sl {Φ : Phi} {F : Wf.Fr} {w : World} {t el : TypeId} {lo hi : Option Operand} {a : Option Addr} {n c sz i j : Nat} (hF : FR Φ f F) (ht : P.underlying t = some (.slice el)) (hsz : szOf P el = some sz)
    (hhi : (hi = none ∧ j = n) ∨ ∃ y kk, hi = some y ∧ opd f y = .i kk (Int.ofNat j)) (hlo : (lo = none ∧ i = 0) ∨ ∃ y kk, lo = some y ∧ opd f y = .i kk (Int.ofNat i)) (hij : i ≤ j) (hj : j ≤ c) :
    (Instr.sliceAt t (.slice a n c) (lo.map (fe F)) (hi.map (fe F)) none).run P w = .ok (.slice (if c = i then a else a.map (·.add (i * sz))) (j - i) (c - i)) w := by
  have key : ∀ y kk m, opd f y = AV.i kk (Int.ofNat m) → fe F y = .int kk (Int.ofNat m) := fun y kk m hy => by have := opd_sound hF y; rw [hy] at this; exact this.iI
  obtain ⟨z, by_, hinf⟩ := szOf_u hsz
  obtain ⟨inf, hi', _, hs, _⟩ := infoOf_parts hinf
  rcases hhi with ⟨rfl, rfl⟩ | ⟨y, kk, rfl, hy⟩ <;> rcases hlo with ⟨rfl, rfl⟩ | ⟨y', kk', rfl, hy'⟩
  · simp [Instr.sliceAt, Instr.slice, run_underlying ht, Instr.sliceBounds, sizeOf, typeInfo, hi', hs]
  · have := key _ _ _ hy'
    simp [Instr.sliceAt, Instr.slice, run_underlying ht, Instr.sliceBounds, Instr.sliceBound, asIntOf, this, sizeOf, typeInfo, hi', hs, hij]
  · have := key _ _ _ hy
    simp [Instr.sliceAt, Instr.slice, run_underlying ht, Instr.sliceBounds, Instr.sliceBound, asIntOf, this, sizeOf, typeInfo, hi', hs, hj]
  · have h1 := key _ _ _ hy
    have h2 := key _ _ _ hy'
    simp [Instr.sliceAt, Instr.slice, run_underlying ht, Instr.sliceBounds, Instr.sliceBound, asIntOf, h1, h2, sizeOf, typeInfo, hi', hs, hij, hj]
theorem evSliceP_s {t : TypeId} {x : Operand} {lo hi mx : Option Operand} (e : evSliceP P t x lo hi mx f h = .ok v h') : h' = h ∧ Pu P (.slice t x lo hi mx) f v := by
  unfold evSliceP at e
  split at e
  · cases e
  · split at e
    · rename_i l hx
      obtain ⟨ht, e⟩ := recB e
      obtain ⟨j, e, hjl⟩ := bnd_s (α := Nat) e
      obtain ⟨i, e, hil⟩ := bnd_s (α := Nat) e
      obtain ⟨hc, e⟩ := recB e
      obtain ⟨h1, h2⟩ := and_t hc
      have h1 := Nat.le_of_ble_eq_true h1
      have h2 := Nat.le_of_ble_eq_true h2
      obtain ⟨rfl, rfl⟩ := ok_inj e
      refine ⟨rfl, fun Φ F w dst ty pos after gd hF => ?_⟩
      have hr := opd_sound hF x
      rw [hx] at hr
      obtain ⟨hl, hv⟩ := hr.sI
      rw [len_eq] at h2 hjl
      have hrun := run_slice_str (w := w) hF (isStr_u ht) hv (by rw [List.length_map]; exact hjl) hil h1 (by rw [List.length_map]; exact h2)
      refine St.of_run (v := str ((((l.map UInt8.ofNat).take j).drop i))) (w' := w) ?_ ⟨rfl, ?_⟩
      · simp [execOp, hrun]
      · rw [dr_eq, tk_eq, ← List.map_take, ← List.map_drop]
        exact Rv.ms fun n hn => hl n (List.mem_of_mem_take (List.mem_of_mem_drop hn))
    · rename_i hx
      obtain ⟨ht, e⟩ := recB e
      obtain ⟨j, e, hjl⟩ := bnd_s (α := Nat) e
      obtain ⟨i, e, hil⟩ := bnd_s (α := Nat) e
      obtain ⟨hc, e⟩ := recB e
      obtain ⟨h1, h2⟩ := and_t hc
      have h1 := Nat.eq_of_beq_eq_true h1
      have h2 := Nat.eq_of_beq_eq_true h2
      subst h1; subst h2
      obtain ⟨rfl, rfl⟩ := ok_inj e
      refine ⟨rfl, fun Φ F w dst ty pos after gd hF => ?_⟩
      have hr := opd_sound hF x
      rw [hx] at hr
      simp only [Rv] at hr
      obtain ⟨sz, hsz⟩ := Option.isSome_iff_exists.1 (and_t ht).2
      rw [Option.bind_eq_some_iff] at hsz
      obtain ⟨el, hel, hsz⟩ := hsz
      have hrun := run_slice_sl (w := w) (n := 0) (c := 0) (a := none) hF (slOf_u hel) hsz hjl hil (Nat.le_refl 0) (Nat.le_refl 0)
      refine St.of_run (v := .slice none 0 0) (w' := w) ?_ ⟨rfl, by simp only [Rv]⟩
      simp [execOp, hr, hrun]
    · rename_i id off n z cap hx
      split at e
      · cases e
      · rename_i sz hsz
        rw [Option.bind_eq_some_iff] at hsz
        obtain ⟨el, hel, hsz⟩ := hsz
        obtain ⟨j, e, hjl⟩ := bnd_s (α := Nat) e
        obtain ⟨i, e, hil⟩ := bnd_s (α := Nat) e
        obtain ⟨hc, e⟩ := recB e
        obtain ⟨h1, h2⟩ := and_t hc
        have h1 := Nat.le_of_ble_eq_true h1
        have h2 := Nat.eq_of_beq_eq_true h2
        subst h2
        have go : ∀ (Φ : Phi) (F : Wf.Fr) (w : World) (dst : Option Tmp) (ty : TypeId) (pos : String) (after : Array Edge) (gd : Option (Nat × Bool)), FR Φ f F →
            (∀ en c, Φ id = some en → n ≤ c → c ≤ maxLen → off + c * sz ≤ en.k → capOk cap c → j ≤ c ∧ Rv Φ v (.slice (if c = i then some ⟨en.g, en.base + off, none⟩ else some ⟨en.g, en.base + off + i * sz, none⟩) (j - i) (c - i))) →
            St P (fe F) ⟨dst, .slice t x lo hi none, ty, pos, after, gd⟩ w (KP Φ w v) KF := by
          intro Φ F w dst ty pos after gd hF hh
          have hr := opd_sound hF x
          rw [hx] at hr
          obtain ⟨en, c, hen, hv, h3, h4, h5, h6⟩ := hr.slI
          obtain ⟨hjc, hrv⟩ := hh en c hen h3 h4 h5 h6
          have hrun := run_slice_sl (w := w) (n := n) (c := c) (a := some ⟨en.g, en.base + off, none⟩) hF (slOf_u hel) hsz hjl hil h1 hjc
          refine St.of_run (w' := w) ?_ ⟨rfl, hrv⟩
          simp [execOp, hv, hrun, Addr.add_lit]
        cases cap with
        | some c =>
          obtain ⟨hjc, e⟩ := recB e
          have hjc := Nat.le_of_ble_eq_true hjc
          rw [recBk] at e
          split at e
          · rename_i hci
            have hci := Nat.eq_of_beq_eq_true hci
            obtain ⟨rfl, rfl⟩ := ok_inj e
            refine ⟨rfl, fun Φ F w dst ty pos after gd hF => go Φ F w dst ty pos after gd hF ?_⟩
            intro en c' hen g1 g2 g3 g4
            have : c' = c := g4
            subst this
            refine ⟨hjc, ?_⟩
            rw [if_pos hci, show j - i = 0 by omega, show c' - i = 0 by omega]
            exact Rv.msl hen (Nat.le_refl _) (Nat.zero_le _) (by simp only [Nat.zero_mul]; omega) rfl
          · rename_i hci
            have hci : ¬ c = i := fun e => hci (by subst e; exact Nat.beq_refl c)
            simp only [fz_eq] at e
            obtain ⟨rfl, rfl⟩ := ok_inj e
            refine ⟨rfl, fun Φ F w dst ty pos after gd hF => go Φ F w dst ty pos after gd hF ?_⟩
            intro en c' hen g1 g2 g3 g4
            have : c' = c := g4
            subst this
            refine ⟨hjc, ?_⟩
            rw [if_neg hci, Nat.add_assoc]
            refine Rv.msl hen (Nat.sub_le_sub_right hjc i) (by omega) ?_ rfl
            show off + i * sz + (c' - i) * sz ≤ en.k
            have : (c' - i) * sz + i * sz = c' * sz := by rw [← Nat.add_mul]; congr 1; omega
            omega
        | none =>
          obtain ⟨hjc, e⟩ := recB e
          have hjn := Nat.le_of_ble_eq_true hjc
          rw [recBk] at e
          split at e
          · rename_i hci
            have hci := Nat.eq_of_beq_eq_true hci
            obtain ⟨rfl, rfl⟩ := ok_inj e
            refine ⟨rfl, fun Φ F w dst ty pos after gd hF => go Φ F w dst ty pos after gd hF ?_⟩
            intro en c' hen g1 g2 g3 g4
            refine ⟨by omega, ?_⟩
            rw [show j - i = 0 by omega]
            simp only [Rv]; exact ⟨_, _, rfl, by omega⟩
          · rename_i hci
            have hci : ¬ n = i := fun e => hci (by subst e; exact Nat.beq_refl n)
            simp only [fz_eq] at e
            obtain ⟨rfl, rfl⟩ := ok_inj e
            refine ⟨rfl, fun Φ F w dst ty pos after gd hF => go Φ F w dst ty pos after gd hF ?_⟩
            intro en c' hen g1 g2 g3 g4
            refine ⟨by omega, ?_⟩
            have hne : ¬ c' = i := by omega
            rw [if_neg hne, Nat.add_assoc]
            refine Rv.msl hen (Nat.sub_le_sub_right (by omega) i) (by omega) ?_ trivial
            show off + i * sz + (c' - i) * sz ≤ en.k
            have : (c' - i) * sz + i * sz = c' * sz := by rw [← Nat.add_mul]; congr 1; omega
            omega
    · cases e
theorem run_slice_arr {Φ : Phi} {F : Wf.Fr} {w : World} {t el : TypeId} {lo hi : Option Operand} {a : Addr} {n sz i j : Nat} (hF : FR Φ f F) (ht : P.underlying t = some (.array n el)) (hsz : szOf P el = some sz)
    (hhi : (hi = none ∧ j = n) ∨ ∃ y kk, hi = some y ∧ opd f y = .i kk (Int.ofNat j)) (hlo : (lo = none ∧ i = 0) ∨ ∃ y kk, lo = some y ∧ opd f y = .i kk (Int.ofNat i)) (hij : i ≤ j) (hj : j ≤ n) :
    (Instr.sliceAt t (.pointer (some a)) (lo.map (fe F)) (hi.map (fe F)) none).run P w = .ok (.slice (some (if n = i then a else a.add (i * sz))) (j - i) (n - i)) w := by
  have key : ∀ y kk m, opd f y = AV.i kk (Int.ofNat m) → fe F y = .int kk (Int.ofNat m) := fun y kk m hy => by have := opd_sound hF y; rw [hy] at this; exact this.iI
  obtain ⟨z, by_, hinf⟩ := szOf_u hsz
  obtain ⟨inf, hi', _, hs, _⟩ := infoOf_parts hinf
  rcases hhi with ⟨rfl, rfl⟩ | ⟨y, kk, rfl, hy⟩ <;> rcases hlo with ⟨rfl, rfl⟩ | ⟨y', kk', rfl, hy'⟩
  · simp [Instr.sliceAt, Instr.sureAddr, run_underlying ht, Instr.sliceBounds, sizeOf, typeInfo, hi', hs]
  · have := key _ _ _ hy'
    simp [Instr.sliceAt, Instr.sureAddr, run_underlying ht, Instr.sliceBounds, Instr.sliceBound, asIntOf, this, sizeOf, typeInfo, hi', hs, hij]
  · have := key _ _ _ hy
    simp [Instr.sliceAt, Instr.sureAddr, run_underlying ht, Instr.sliceBounds, Instr.sliceBound, asIntOf, this, sizeOf, typeInfo, hi', hs, hj]
  · have h1 := key _ _ _ hy
    have h2 := key _ _ _ hy'
    simp [Instr.sliceAt, Instr.sureAddr, run_underlying ht, Instr.sliceBounds, Instr.sliceBound, asIntOf, h1, h2, sizeOf, typeInfo, hi', hs, hij, hj]
theorem evSliceA_s {t : TypeId} {x : Operand} {lo hi mx : Option Operand} (e : evSliceA P t x lo hi mx f h = .ok v h') : h' = h ∧ Rd P (.slice t x lo hi mx) f v h := by
  unfold evSliceA at e
  split at e
  · cases e
  · split at e
    · rename_i id off hx
      split at e
      · cases e
      · rename_i q hq
        split at e
        · cases e
        · rename_i sz hsz
          obtain ⟨b, hid, hb, hrow, e⟩ := getB_s e
          obtain ⟨j, e, hjl⟩ := bnd_s (α := Nat) e
          obtain ⟨i, e, hil⟩ := bnd_s (α := Nat) e
          obtain ⟨hc, e⟩ := recB e
          obtain ⟨hc, h4⟩ := and_t hc
          obtain ⟨hc, h3⟩ := and_t hc
          obtain ⟨h1, h2⟩ := and_t hc
          have h1 := Nat.le_of_ble_eq_true h1
          have h2 := Nat.le_of_ble_eq_true h2
          have h3 := Nat.le_of_ble_eq_true h3
          have h4 := Nat.le_of_ble_eq_true h4
          rw [len_eq] at h4
          have h4 : off + q.1 * sz ≤ b.cs.length := h4
          have go : ∀ (Φ : Phi) (τ : Tau) (F : Wf.Fr) (w : World) (dst : Option Tmp) (ty : TypeId) (pos : String) (after : Array Edge) (gd : Option (Nat × Bool)), FR Φ f F → Rel Φ τ h w →
              (∀ en, Φ id = some en → off + q.1 * sz ≤ en.k → Rv Φ v (.slice (some (if q.1 = i then ⟨en.g, en.base + off, none⟩ else ⟨en.g, en.base + off + i * sz, none⟩)) (j - i) (q.1 - i))) →
              St P (fe F) ⟨dst, .slice t x lo hi none, ty, pos, after, gd⟩ w (KP Φ w v) KF := by
            intro Φ τ F w dst ty pos after gd hF hR hh
            have hr := opd_sound hF x
            rw [hx] at hr
            obtain ⟨en, hen, hv⟩ := hr.pI
            obtain ⟨e', C, T, br⟩ := (hR.blk id b hid hb).row hrow
            have := br.ent
            rw [hen] at this; cases this
            have hrv := hh en hen (Nat.le_trans h4 br.le)
            have hrun := run_slice_arr (w := w) (a := ⟨en.g, en.base + off, none⟩) hF (arrOf_u hq) hsz hjl hil h1 h2
            refine St.of_run (w' := w) ?_ ⟨rfl, hrv⟩
            simp [execOp, hv, hrun, Addr.add_lit]
          rw [recBk] at e
          split at e
          · rename_i hci
            have hci := Nat.eq_of_beq_eq_true hci
            obtain ⟨rfl, rfl⟩ := ok_inj e
            refine ⟨rfl, fun Φ τ F w dst ty pos after gd hF hR => go Φ τ F w dst ty pos after gd hF hR ?_⟩
            intro en hen g1
            rw [if_pos hci, show j - i = 0 by omega, show q.1 - i = 0 by omega]
            exact Rv.msl hen (Nat.le_refl _) (Nat.zero_le _) (by simp only [Nat.zero_mul]; omega) rfl
          · rename_i hci
            have hci : ¬ q.1 = i := fun e => hci (by rw [e]; exact Nat.beq_refl _)
            simp only [fz_eq] at e
            obtain ⟨rfl, rfl⟩ := ok_inj e
            refine ⟨rfl, fun Φ τ F w dst ty pos after gd hF hR => go Φ τ F w dst ty pos after gd hF hR ?_⟩
            intro en hen g1
            rw [if_neg hci, Nat.add_assoc]
            refine Rv.msl hen (Nat.sub_le_sub_right h2 i) (by unfold maxLen; omega) ?_ rfl
            show off + i * sz + (q.1 - i) * sz ≤ en.k
            have : (q.1 - i) * sz + i * sz = q.1 * sz := by rw [← Nat.add_mul]; congr 1; omega
            omega
    · cases e
theorem evSlice_s {t : TypeId} {x : Operand} {lo hi mx : Option Operand} (e : evSlice P t x lo hi mx f h = .ok v h') :
    (isArr P t = false → h' = h ∧ Pu P (.slice t x lo hi mx) f v) ∧ (isArr P t = true → h' = h ∧ Rd P (.slice t x lo hi mx) f v h) := by
  unfold evSlice at e
  cases hb : isArr P t with
  | false =>
    rw [hb] at e
    constructor
    · intro _; exact evSliceP_s e
    · intro hq; cases hq
  | true =>
    rw [hb] at e
    constructor
    · intro hq; cases hq
    · intro _; exact evSliceA_s e
theorem byteT_u {e : TypeId} (h : byteT P e = true) : P.underlying e = some (.int .u8) ∧ szOf P e = some 1 := by
  unfold byteT at h
  obtain ⟨h1, h2⟩ := and_t h
  constructor
  · split at h1
    · rename_i hh; exact isInt_u hh
    · cases h1
  · split at h2
    · assumption
    · cases h2
theorem byteSl_u {t : TypeId} (h : byteSl P t = true) : ∃ e, P.underlying t = some (.slice e) ∧ P.underlying e = some (.int .u8) ∧ szOf P e = some 1 := by
  unfold byteSl at h
  split at h
  · rename_i e he; exact ⟨e, slOf_u he, byteT_u h⟩
  · cases h
theorem unchars_s {k : List Nat → Res} : ∀ (l : List AV), unchars l k = .ok v h' → ∃ ns : List Nat, k ns = .ok v h' ∧ (∀ n ∈ ns, n < 256) ∧ l = ns.map fun n => AV.i .u8 (Int.ofNat n) := by
  intro l
  induction l generalizing k with
  | nil => intro e; exact ⟨[], e, by simp, rfl⟩
  | cons a l ih =>
    intro e
    cases a with
    | i kk n =>
      cases kk with
      | u8 =>
        cases n with
        | ofNat c =>
          have e : (Bool.rec (Res.no 17) (unchars l fun l' => k (c :: l')) (Nat.blt c 256) : Res) = .ok v h' := e
          obtain ⟨hc, e⟩ := recB e
          obtain ⟨ns, h1, h2, h3⟩ := ih e
          refine ⟨c :: ns, h1, ?_, by rw [h3]; rfl⟩
          intro n hn
          rcases List.mem_cons.1 hn with rfl | hn
          · exact of_blt hc
          · exact h2 n hn
        | negSucc c => cases e
      | _ => cases e
    | _ => cases e
theorem foldl_push (ns : List Nat) (s : ByteArray) : (ns.map Int.ofNat).foldl (fun r n => r.push (UInt8.ofNat n.toNat)) s = ⟨(s.data.toList ++ ns.map UInt8.ofNat).toArray⟩ := by
  induction ns generalizing s with
  | nil => simp
  | cons n ns ih =>
    simp only [List.map_cons, List.foldl_cons]
    rw [ih]
    congr 1
    apply Array.ext'
    simp [ByteArray.push]
theorem isUns_u {t : TypeId} (h : isUns P t = true) : P.underlying t = some .unsafePointer := by unfold isUns at h; split at h <;> first | assumption | cases h
theorem BR.shape {Φ : Phi} {τ : Tau} {w : World} {b : Blk} {e : Ent} {id : Nat} {C : Array Value} {T : TypeId} (r : BR Φ τ w b e id C T) : w.shape? e.g = some (T, C.size) := by
  obtain ⟨fr, ho, _⟩ := r.obj
  simp [World.shape?, ho]
theorem run_toUns {w : World} {src dst t e : TypeId} {j : TypeInfo} {cells : Nat} (a : Addr) (hs : P.underlying src = some (.pointer t)) (hd : P.underlying dst = some .unsafePointer) (ht : P.info? t = some j) (hj : j.size ≠ 0)
    (hsh : w.shape? a.block = some (e, cells)) (hoff : a.off < cells) : (convert src dst (.pointer (some a))).run P w = .ok (.pointer (some a)) w := by
  simp [convert, run_underlying hs, run_underlying hd, Conv.unsafePointer, Conv.seenAt, viewAt, cellsIn, hsh, sizeOf, typeInfo, ht, hj]
  intro h
  omega
theorem run_ofUns {w : World} {src dst u e : TypeId} {j : TypeInfo} {cells : Nat} (a : Addr) (hs : P.underlying src = some .unsafePointer) (hd : P.underlying dst = some (.pointer u)) (hu : P.info? u = some j)
    (hsh : w.shape? a.block = some (e, cells)) (hlies : liesAt P P.depth e (cells / P.cellsOf e) a.off u 1 = true) : (convert src dst (.pointer (some a))).run P w = .ok (.pointer (some a)) w := by
  simp [convert, run_underlying hs, run_underlying hd, Conv.unsafePointer, Conv.seenAt, viewAt, hsh, variablesAt, hlies, sizeOf, typeInfo, hu]
theorem chars_rv {Φ : Phi} : ∀ {ns : List Nat} {vs : List Value}, RvL Φ (ns.map fun n => AV.i .u8 (Int.ofNat n)) vs → vs = (ns.map Int.ofNat).map (Value.int .u8) := by
  intro ns
  induction ns with
  | nil => intro vs h; simp only [List.map_nil, RvL] at h ⊢; exact h
  | cons n ns ih =>
    intro vs h
    simp only [List.map_cons, RvL] at h ⊢
    obtain ⟨v, r, rfl, h1, h2⟩ := h
    rw [h1.iI, ih h2]
theorem run_strOf {Φ : Phi} {τ : Tau} {w : World} {b : Blk} {e : Ent} {id : Nat} {C : Array Value} {T : TypeId} (r : BR Φ τ w b e id C T) {off n : Nat} {ns : List Nat} (hn : n ≤ (b.cs.drop off).length) (hns : (b.cs.drop off).take n = ns.map fun n => AV.i .u8 (Int.ofNat n)) :
    (loadCells ⟨e.g, e.base + off, none⟩ n).run P w = .ok ((ns.map Int.ofNat).map (Value.int .u8)).toArray w ∧
    ∀ c, (Conv.bytesToString (.slice (some ⟨e.g, e.base + off, none⟩) n c)).run P w = .ok (str (ns.map UInt8.ofNat)) w := by
  obtain ⟨vs, hl, hrv, hc⟩ := r.cells off n hn
  rw [hns] at hrv
  have hvs := chars_rv hrv
  have hld : (loadCells ⟨e.g, e.base + off, none⟩ n).run P w = .ok ((ns.map Int.ofNat).map (Value.int .u8)).toArray w := by
    have := run_loadCells_list (P := P) (w := w) ⟨e.g, e.base + off, none⟩ vs (fun j v hj => by rw [Addr.add_lit]; exact hc j v hj)
    rw [hl, hvs] at this
    exact this
  refine ⟨hld, fun c => ?_⟩
  rw [run_bytesToString w _ n c (ns.map Int.ofNat) hld, foldl_push]
  simp [str]
theorem evConvR_s {s d : TypeId} {x : Operand} (e : evConvR P s d x f h = .ok v h') : h' = h ∧ Rd P (.convert s d x) f v h := by
  unfold evConvR at e
  split at e
  · rename_i hx
    obtain ⟨hc, e⟩ := recB e
    obtain ⟨rfl, rfl⟩ := ok_inj e
    refine ⟨rfl, fun Φ τ F w dst ty pos after gd hF hR => ?_⟩
    have hr := opd_sound hF x
    rw [hx] at hr
    have hv : fe F x = .pointer none := by simpa only [Rv] using hr
    refine St.of_run (v := .pointer none) (w' := w) ?_ ⟨rfl, by simp only [Rv]⟩
    rcases (show (isPtr P s = true ∧ isUns P d = true) ∨ (isUns P s = true ∧ isPtr P d = true) by simpa using hc) with ⟨h1, h2⟩ | ⟨h1, h2⟩
    · obtain ⟨t, hs⟩ := isPtr_u h1
      simp [execOp, hv, convert, run_underlying hs, run_underlying (isUns_u h2), Conv.unsafePointer]
    · obtain ⟨t, hs⟩ := isPtr_u h2
      simp [execOp, hv, convert, run_underlying hs, run_underlying (isUns_u h1), Conv.unsafePointer]
  · rename_i id off hx
    obtain ⟨b, hid, hb, hrow, e⟩ := getB_s e
    rw [recBk] at e
    split at e
    · rename_i hc
      obtain ⟨rfl, rfl⟩ := ok_inj e
      unfold toUnsOk at hc
      obtain ⟨hc, h3⟩ := and_t hc
      obtain ⟨h1, h2⟩ := and_t hc
      have h2 := of_blt h2
      rw [len_eq] at h2
      refine ⟨rfl, fun Φ τ F w dst ty pos after gd hF hR => ?_⟩
      have hr := opd_sound hF x
      rw [hx] at hr
      obtain ⟨en, hen, hv⟩ := hr.pI
      obtain ⟨e', C, T, br⟩ := (hR.blk id b hid hb).row hrow
      have := br.ent
      rw [hen] at this; cases this
      have hd := isUns_u h1
      cases hp : ptrOf P s with
      | none => rw [hp] at h3; simp at h3
      | some t =>
        rw [hp] at h3
        cases hsz : szOf P t with
        | none => simp [hsz] at h3
        | some sz =>
          simp only [Option.bind_some, hsz] at h3
          have h3 := of_blt h3
          obtain ⟨zv, by_, hinf⟩ := szOf_u hsz
          obtain ⟨inf, hi', _, hs, _⟩ := infoOf_parts hinf
          have hszC := br.room h2
          have := run_toUns (P := P) (w := w) (src := s) (dst := d) ⟨en.g, en.base + off, none⟩ (ptrOf_u hp) hd hi' (by omega) br.shape (by show en.base + off < C.size; omega)
          exact St.of_run (v := fe F x) (w' := w) (by rw [hv]; simp [execOp, hv, this]) ⟨rfl, hr⟩
    · obtain ⟨hc, e⟩ := recB e
      obtain ⟨rfl, rfl⟩ := ok_inj e
      unfold ofUnsOk at hc
      obtain ⟨hc, h3⟩ := and_t hc
      obtain ⟨h1, h2⟩ := and_t hc
      refine ⟨rfl, fun Φ τ F w dst ty pos after gd hF hR => ?_⟩
      have hr := opd_sound hF x
      rw [hx] at hr
      obtain ⟨en, hen, hv⟩ := hr.pI
      obtain ⟨e', C, T, br⟩ := (hR.blk id b hid hb).row hrow
      have := br.ent
      rw [hen] at this; cases this
      cases hp : ptrOf P d with
      | none => rw [hp] at h3; simp at h3
      | some u =>
        rw [hp] at h3
        obtain ⟨h3, h4⟩ := and_t h3
        obtain ⟨j, hj⟩ := Option.isSome_iff_exists.1 h3
        obtain ⟨hb0, hbk⟩ := br.exact_ h2
        have hszC := (br.exk h2).2
        have hT := (br.exk h2).1
        rw [len_eq] at h4
        have h5 : C.size = b.cs.length := by omega
        have := run_ofUns (P := P) (w := w) (src := s) (dst := d) ⟨en.g, en.base + off, none⟩ (isUns_u h1) (ptrOf_u hp) hj br.shape (by
          show liesAt P P.depth T (C.size / P.cellsOf T) (en.base + off) u 1 = true
          rw [hb0, Nat.zero_add, h5, hT]; exact h4)
        exact St.of_run (v := fe F x) (w' := w) (by rw [hv]; simp [execOp, hv, this]) ⟨rfl, hr⟩
  · rename_i hx
    obtain ⟨hc, e⟩ := recB e
    obtain ⟨rfl, rfl⟩ := ok_inj e
    obtain ⟨h1, h2⟩ := and_t hc
    obtain ⟨el, he1, he2, he3⟩ := byteSl_u h2
    refine ⟨rfl, fun Φ τ F w dst ty pos after gd hF hR => ?_⟩
    have hr := opd_sound hF x
    rw [hx] at hr
    have hv : fe F x = .slice none 0 0 := by simpa only [Rv] using hr
    refine St.of_run (v := .string .empty) (w' := w) ?_ ⟨rfl, by simp only [Rv]; exact ⟨by simp, rfl⟩⟩
    simp [execOp, hv, convert, run_underlying he1, run_underlying (isStr_u h1), run_underlying he2, Conv.bytesToString]
  · rename_i id off n z cap hx
    obtain ⟨hc, e⟩ := recB e
    obtain ⟨hc, h3⟩ := and_t hc
    obtain ⟨h1, h2⟩ := and_t hc
    obtain ⟨el, he1, he2, he3⟩ := byteSl_u h2
    obtain ⟨b, hid, hb, hrow, e⟩ := getB_s e
    rcases tkK_eq (dr b.cs off) n (fun l => unchars l fun l' => Res.ok (.s l') h) with ⟨e2, hle⟩ | ⟨q, e2⟩
    · rw [e2] at e
      rw [dr_eq] at hle e
      obtain ⟨ns, e3, hns, hl⟩ := unchars_s _ e
      obtain ⟨rfl, rfl⟩ := ok_inj e3
      refine ⟨rfl, fun Φ τ F w dst ty pos after gd hF hR => ?_⟩
      have hr := opd_sound hF x
      rw [hx] at hr
      obtain ⟨en, c, hen, hv, _⟩ := hr.slI
      obtain ⟨e', C, T, br⟩ := (hR.blk id b hid hb).row hrow
      have := br.ent
      rw [hen] at this; cases this
      have := (run_strOf (P := P) br hle hl).2 c
      refine St.of_run (v := str (ns.map UInt8.ofNat)) (w' := w) ?_ ⟨rfl, Rv.ms hns⟩
      simp [execOp, hv, convert, run_underlying he1, run_underlying (isStr_u h1), run_underlying he2, this]
    · rw [e2] at e; cases e
  · cases e
end
end Go.Ev
namespace Go.Ev
set_option linter.unusedVariables false
set_option linter.unusedSimpArgs false
open Go Go.Wf Go.RowKit
def ext (Φ : Phi) (id : Nat) (e : Ent) : Phi := fun i => if i = id then some e else Φ i
theorem ext_at (Φ : Phi) (id : Nat) (e : Ent) : ext Φ id e id = some e := if_pos rfl
theorem Sub.ext {Φ : Phi} {id : Nat} {e : Ent} (h : Φ id = none) : Sub Φ (ext Φ id e) := by
  intro i x hi
  unfold Ev.ext
  by_cases hx : i = id
  · subst hx; rw [h] at hi; cases hi
  · rw [if_neg hx]; exact hi
def NB (Φ : Phi) (id : Nat) (b : Blk) (e : Ent) (O : Obj) : Prop := ∀ (Φ' : Phi) (τ' : Tau) (w' : World), Sub Φ Φ' → Φ' id = some e → w'.heap[e.g]? = some O → (τ' e.g = if b.ro then .ro else .own id) → BlkRel Φ' τ' w' id b
theorem NB.row {Φ : Phi} {id : Nat} {b : Blk} {C : Array Value} {T : TypeId} {g : Nat} {fr : Nat × Nat} (hrow : b.ob = .row) (hfr : b.ro = false → fr = (0, 0)) (ht : T = b.ty) (hle : b.cs.length ≤ C.size) (hex : b.ex = true → b.cs.length = C.size) (hcr : CR Φ C 0 b.cs) :
    NB Φ id b ⟨g, 0, C.size⟩ (.cells C T fr) := fun Φ' τ' w' s he ho hl => .inl ⟨_, C, T, he, hl, hrow, .inl ⟨ht, by simp⟩, ⟨fr, ho, hfr⟩, hle, fun hx => ⟨rfl, hex hx⟩, hcr.mono s⟩
theorem NB.obj {Φ : Phi} {id : Nat} {b : Blk} {g k : Nat} {O : Obj} (hro : b.ro = false) (hb : ObR Φ b.ob O) : NB Φ id b ⟨g, 0, k⟩ O := fun Φ' τ' w' s he ho hl =>
  .inr (.inl ⟨_, O, he, by rw [hl, hro]; rfl, hro, rfl, ho, hb.mono s⟩)
structure Wn (w : World) (O : Obj) (w' : World) : Prop where
  os : w'.os = w.os
  tape : w'.tape = w.tape
  output : w'.output = w.output
  size : w'.heap.size = w.heap.size + 1
  old : ∀ k, k < w.heap.size → w'.heap[k]? = w.heap[k]?
  new_ : w'.heap[w.heap.size]? = some O
theorem Wn.alloc (w : World) (O : Obj) : Wn w O (w.alloc O) := ⟨rfl, rfl, rfl, by simp, fun k hk => alloc_other hk, heap_alloc_new w _⟩
theorem Wn.drew (w : World) (O : Obj) : Wn w O (w.drew.alloc O) := ⟨rfl, rfl, rfl, by simp, fun k hk => Below.heap_alloc w.drew _ k hk, heap_alloc_new w.drew _⟩
section
variable {P : Program} {f : Fr} {v : AV} {h h' : Hp} {Φ : Phi} {τ : Tau} {w w' : World}
theorem Rel.new {b : Blk} {k : Nat} {O : Obj} (r : Rel Φ τ h w) (hb : h.n < big5) (hf : Φ h.n = none) (nb : NB Φ h.n b ⟨w.heap.size, 0, k⟩ O) (wn : Wn w O w') :
    ∃ τ', Rel (ext Φ h.n ⟨w.heap.size, 0, k⟩) τ' ⟨set5 h.n (some b) h.t, h.n + 1⟩ w' ∧ Tw Φ τ h w (ext Φ h.n ⟨w.heap.size, 0, k⟩) τ' (h.n + 1) w' := by
  refine ⟨fun g => if g = w.heap.size then (if b.ro then .ro else .own h.n) else τ g, ⟨hb, ?_, ?_⟩, ⟨wn.os, wn.tape, wn.output, by rw [wn.size]; omega, Sub.ext hf, ?_, ?_⟩⟩
  · intro id b' hid hb'
    have hid : id < h.n + 1 := hid
    have hb' : get5 id (set5 h.n (some b) h.t) = some b' := hb'
    rw [get5_set5 _ _ _ _ (by omega) hb] at hb'
    by_cases e : id = h.n
    · rw [if_pos e] at hb'
      cases hb'
      subst e
      exact nb _ _ _ (Sub.ext hf) (ext_at _ _ _) wn.new_ (if_pos rfl)
    · rw [if_neg e] at hb'
      obtain ⟨en, _, hlt, _, k⟩ := (r.blk id b' (by omega) hb').at_
      exact k (Sub.ext hf) (wn.old _ hlt) (if_neg (by omega))
  · intro id hid hid5
    have hid : h.n + 1 ≤ id := hid
    show get5 id (set5 h.n (some b) h.t) = none
    rw [get5_set5 _ _ _ _ hid5 hb, if_neg (by omega)]
    exact r.fin id (by omega) hid5
  · intro id hid
    unfold Ev.ext
    rw [if_neg (by omega)]
  · intro g hg _
    refine ⟨wn.old g hg, ?_⟩
    exact if_neg (by omega)
theorem get5_lt {id : Nat} (r : Rel Φ τ h w) (hid : id < h.n) : id < big5 := Nat.lt_of_lt_of_le hid r.lim
theorem Rel.turn {id : Nat} {b b' : Blk} {en : Ent} (r : Rel Φ τ h w) (hid : id < h.n) (hb : get5 id h.t = some b) (hlab : τ en.g = .own id) (hos : w'.os = w.os) (htp : w'.tape = w.tape) (hou : w'.output = w.output)
    (hsz : w'.heap.size = w.heap.size) (hoth : ∀ g, g ≠ en.g → w'.heap[g]? = w.heap[g]?) (hnew : BlkRel Φ τ w' id b') : Rel Φ τ (putB h id (some b')) w' ∧ Tw Φ τ h w Φ τ h.n w' := by
  refine ⟨⟨r.lim, ?_, ?_⟩, ⟨hos, htp, hou, by rw [hsz]; exact Nat.le_refl _, Sub.refl _, fun _ _ => rfl, ?_⟩⟩
  · intro id' b'' hid' hb''
    have hid' : id' < h.n := hid'
    have hb'' : get5 id' (set5 id (some b') h.t) = some b'' := hb''
    rw [get5_set5 _ _ _ _ (get5_lt r hid') (get5_lt r hid)] at hb''
    by_cases e : id' = id
    · rw [if_pos e] at hb''
      cases hb''
      subst e
      exact hnew
    · rw [if_neg e] at hb''
      obtain ⟨en2, _, _, hl2, k⟩ := (r.blk id' b'' hid' hb'').at_
      have hne : en2.g ≠ en.g := by
        intro hg
        rw [hg, hlab] at hl2
        split at hl2
        · cases hl2
        · cases hl2; exact e rfl
      exact k (Sub.refl _) (hoth _ hne) rfl
  · intro i hi hi5
    have hi : h.n ≤ i := hi
    show get5 i (set5 id (some b') h.t) = none
    rw [get5_set5 _ _ _ _ hi5 (get5_lt r hid), if_neg (by omega)]
    exact r.fin i hi hi5
  · intro g hg hk
    refine ⟨hoth g ?_, rfl⟩
    intro e
    subst e
    have := (hk id hlab).1 hid
    rw [hb] at this; cases this
theorem BR.own {b : Blk} {en : Ent} {id : Nat} {C : Array Value} {T : TypeId} (br : BR Φ τ w b en id C T) (hro : b.ro = false) : τ en.g = .own id := by
  have := br.lab
  rw [hro] at this
  exact this
theorem Rel.put {id : Nat} {b b' : Blk} {en : Ent} {C C' : Array Value} {T : TypeId} (r : Rel Φ τ h w) (hid : id < h.n) (hb : get5 id h.t = some b) (br : BR Φ τ w b en id C T) (hro : b.ro = false)
    (hb' : b'.ro = false) (hrow : b'.ob = .row) (hty : b'.ty = b.ty) (hex : b'.ex = b.ex) (hl : b'.cs.length = b.cs.length) (hsz : C'.size = C.size) (hcr : CR Φ C' en.base b'.cs) (hw : w' = w.setRow en.g C') :
    Rel Φ τ (putB h id (some b')) w' ∧ Tw Φ τ h w Φ τ h.n w' := by
  subst hw
  have hnew : (w.setRow en.g C').heap[en.g]? = some (.cells C' T (0, 0)) := setRow_heap w en.g C C' T (0, 0) (br.obj0 hro)
  refine r.turn (en := en) hid hb (br.own hro) rfl rfl rfl (by simp [World.setRow]) (fun g hg => setRow_other w en.g g C' hg) (.inl ⟨en, C', T, br.ent, ?_, hrow, .inl ⟨by rw [hty]; exact (br.own_ hro).1, by rw [hsz]; exact (br.own_ hro).2⟩, ⟨(0, 0), hnew, fun _ => rfl⟩, by rw [hl]; exact br.le, fun hx => ?_, hcr⟩)
  · rw [hb']; exact br.own hro
  · rw [hl]; exact br.exact_ (hex ▸ hx)
def Qt (P : Program) (op : Op) (f : Fr) (v : AV) (h h' : Hp) : Prop := ∃ b, h.n < big5 ∧ h' = ⟨set5 h.n (some b) h.t, h.n + 1⟩ ∧
  ∀ (Φ : Phi) (F : Wf.Fr) (w : World) (dst : Option Tmp) (ty : TypeId) (pos : String) (after : Array Edge) (gd : Option (Nat × Bool)), FR Φ f F → Φ h.n = none →
    St P (fe F) ⟨dst, op, ty, pos, after, gd⟩ w (fun x w' => ∃ k O, Wn w O w' ∧ Rv (ext Φ h.n ⟨w.heap.size, 0, k⟩) v x ∧ NB Φ h.n b ⟨w.heap.size, 0, k⟩ O) KF
def Mv (P : Program) (op : Op) (f : Fr) (v : AV) (h h' : Hp) : Prop := Grow h h' ∧
  ∀ (Φ : Phi) (τ : Tau) (F : Wf.Fr) (w : World) (dst : Option Tmp) (ty : TypeId) (pos : String) (after : Array Edge) (gd : Option (Nat × Bool)), FR Φ f F → Rel Φ τ h w → Fre Φ h.n h'.n →
    St P (fe F) ⟨dst, op, ty, pos, after, gd⟩ w (fun x w' => ∃ Φ' τ', Rv Φ' v x ∧ Rel Φ' τ' h' w' ∧ Tw Φ τ h w Φ' τ' h'.n w') KF
theorem Grow.new {b : Blk} (hb : h.n < big5) : Grow h ⟨set5 h.n (some b) h.t, h.n + 1⟩ := ⟨Nat.le_succ _, fun id h5 hid hn => by
  have hid : ¬ (h.n ≤ id ∧ id < h.n + 1) := hid
  show get5 id (set5 h.n (some b) h.t) = none
  rw [get5_set5 _ _ _ _ h5 hb, if_neg (by omega)]; exact hn, fun _ => hb⟩
theorem Grow.put {id : Nat} {b : Blk} {o : Option Blk} (hl : h.n ≤ big5) (hid : id < h.n) (hb : get5 id h.t = some b) : Grow h (putB h id o) := ⟨Nat.le_refl _, fun i h5 hi hn => by
  show get5 i (set5 id o h.t) = none
  have : ¬ i = id := fun e => by rw [e, hb] at hn; cases hn
  rw [get5_set5 _ _ _ _ h5 (by omega), if_neg this]; exact hn, fun h => h⟩
theorem Qt.mv {op : Op} (q : Qt P op f v h h') : Mv P op f v h h' := by
  obtain ⟨b, hb, rfl, hst⟩ := q
  refine ⟨Grow.new hb, fun Φ τ F w dst ty pos after gd hF hR hFr => ?_⟩
  have hn := hFr h.n (Nat.le_refl _) (Nat.lt_succ_self _)
  refine (hst Φ F w dst ty pos after gd hF hn).mono ?_ fun _ _ h => h
  rintro x w' ⟨k, O, wn, hv, nb⟩
  obtain ⟨τ', h1, h2⟩ := hR.new hb hn nb wn
  exact ⟨_, τ', hv, h1, h2⟩
theorem newB_s {b : Blk} {k : Nat → Hp → Res} (e : newB h b k = .ok v h') : h.n < big5 ∧ k h.n ⟨set5 h.n (some b) h.t, h.n + 1⟩ = .ok v h' := by
  unfold newB at e
  obtain ⟨h1, e⟩ := recB e
  rw [fz_eq] at e
  exact ⟨of_blt h1, e⟩
theorem evAlloc_s {e : TypeId} (he : evAlloc P e f h = .ok v h') : Qt P (.alloc e) f v h h' := by
  unfold evAlloc at he
  split at he
  · rename_i l hl
    obtain ⟨hb, he⟩ := newB_s he
    obtain ⟨rfl, rfl⟩ := ok_inj he
    obtain ⟨z, sz, by_, hinf, rfl⟩ := zcOf_u hl
    obtain ⟨inf, hi', hz, _, _⟩ := infoOf_parts hinf
    refine ⟨_, hb, rfl, fun Φ F w dst ty pos after gd hF hn => ?_⟩
    refine St.alloc (vs := z.cells.toList) hi' hz (by simp) ⟨_, _, Wn.alloc _ _, Rv.mp (ext_at _ _ _), NB.row rfl (fun _ => rfl) rfl (by simp) (fun _ => by simp) ?_⟩
    intro i a hi
    obtain ⟨x, h1, h2⟩ := (cvs_sound (Φ := Φ) z.cells.toList).at hi
    exact ⟨x, by rw [Nat.zero_add]; simpa using h1, h2⟩
  · cases he
theorem CR.ofL {l : List AV} {vs : List Value} (hr : RvL Φ l vs) : CR Φ vs.toArray 0 l := by
  intro i a hi
  obtain ⟨x, h1, h2⟩ := hr.at hi
  exact ⟨x, by rw [Nat.zero_add]; simpa using h1, h2⟩
theorem evBox_s {e : TypeId} {x : Operand} (he : evBox e x f h = .ok v h') : Qt P (.box e x) f v h h' := by
  unfold evBox at he
  split at he
  · rename_i l hl
    obtain ⟨hb, he⟩ := newB_s he
    obtain ⟨rfl, rfl⟩ := ok_inj he
    refine ⟨_, hb, rfl, fun Φ F w dst ty pos after gd hF hn => ?_⟩
    obtain ⟨vs, h1, h2⟩ := cellsOf_s hl (opd_sound hF x)
    exact St.box h1 ⟨_, _, Wn.alloc _ _, Rv.mp (ext_at _ _ _), NB.row rfl (fun _ => rfl) rfl (by simp [h2.len]) (fun _ => by simp [h2.len]) (CR.ofL h2)⟩
  · cases he
def zrow (z : Array Value) (m : Nat) : Array Value := (Array.range m).map (z[· % z.size]!)
theorem repl_get {α : Type} (l : List α) : ∀ (n i : Nat), (repl n l)[i]? = if i < n * l.length then l[i % l.length]? else none := by
  intro n
  induction n with
  | zero => intro i; simp [repl]
  | succ n ih =>
    intro i
    have e : repl (n + 1) l = l ++ repl n l := by unfold repl; rw [List.replicate_succ, List.flatten_cons]
    rw [e, List.getElem?_append, ih, Nat.succ_mul]
    by_cases h : i < l.length
    · rw [if_pos h, if_pos (by omega), Nat.mod_eq_of_lt h]
    · rw [if_neg h]
      have h2 : (i - l.length) % l.length = i % l.length := by
        conv => rhs; rw [show i = (i - l.length) + l.length by omega]
        rw [Nat.add_mod_right]
      rw [h2]
      by_cases h3 : i - l.length < n * l.length
      · rw [if_pos h3, if_pos (by omega)]
      · rw [if_neg h3, if_neg (by omega)]
theorem repl_len {α : Type} (l : List α) (n : Nat) : (repl n l).length = n * l.length := by unfold repl; simp [List.length_flatten]
theorem zrow_rv (z : Array Value) (n sz : Nat) (hz : z.size = sz) (hp : 0 < sz) : RvL Φ (repl n (z.toList.map cv)) (zrow z (n * sz)).toList := by
  refine RvL.mk (by simp [zrow, repl_len, hz]) fun i a x hi hx => ?_
  rw [repl_get] at hi
  split at hi <;> rename_i hlt
  · have hlt : i < n * sz := by simpa [hz] using hlt
    have hm : i % sz < z.size := by rw [hz]; exact Nat.mod_lt _ hp
    have h1 : z.toList[i % sz]? = some z[i % sz] := by simp [hm]
    rw [List.getElem?_map, List.length_map, Array.length_toList, hz, h1] at hi
    have h2 : (zrow z (n * sz)).toList[i]? = some z[i % sz] := by
      simp only [zrow, Array.toList_map, Array.toList_range, List.getElem?_map]
      rw [List.getElem?_range hlt]
      simp only [Option.map_some, hz]
      rw [getElem!_pos z _ hm]
    rw [h2] at hx
    cases hx
    simp at hi; subst hi
    exact cv_sound _
  · cases hi
theorem foldl_size (off : Nat) : ∀ (L : List (Value × Nat)) (C : Array Value), (L.foldl (fun cs (c, j) => cs.setIfInBounds (off + j) c) C).size = C.size := by
  intro L
  induction L with
  | nil => intro C; rfl
  | cons q L ih => intro C; rw [List.foldl_cons, ih]; exact Array.size_setIfInBounds
theorem evBuildSlice_s {t : TypeId} {n : Nat} {ps : Array (Nat × Operand)} (he : evBuildSlice P t n ps f h = .ok v h') : Qt P (.buildSlice t n ps) f v h h' := by
  unfold evBuildSlice at he
  split at he
  · cases he
  · rename_i el hel
    split at he
    · rename_i sz z hsz hz
      obtain ⟨hc, he⟩ := recB he
      obtain ⟨hc, h3⟩ := and_t hc
      obtain ⟨h1, h2⟩ := and_t hc
      have h1 : 0 < sz := of_blt h1
      have h2 : n * sz ≤ 16777216 := Nat.le_of_ble_eq_true h2
      have h3 := Nat.eq_of_beq_eq_true h3
      obtain ⟨cs, he, hfill⟩ := fillA_s _ _ he
      obtain ⟨hb, he⟩ := newB_s he
      obtain ⟨rfl, rfl⟩ := ok_inj he
      refine ⟨_, hb, rfl, fun Φ F w dst ty pos after gd hF hn => ?_⟩
      obtain ⟨zv, sz', by', hinf', rfl⟩ := zcOf_u hz
      obtain ⟨zv2, by2, hinf⟩ := szOf_u hsz
      rw [hinf'] at hinf
      simp only [Option.some.injEq, Prod.mk.injEq] at hinf
      obtain ⟨rfl, rfl, rfl⟩ := hinf
      obtain ⟨inf, hi', hzz, hs, _⟩ := infoOf_parts hinf'
      rw [len_eq, List.length_map, Array.length_toList] at h3
      obtain ⟨C', g1, g2⟩ := hfill Φ F (zrow zv.cells (n * sz')).toList hF (zrow_rv zv.cells n sz' h3 h1)
      have hC'len := g2.len
      have hpe : (ps.map fun (i, x) => (i, fe F x)).toList = ps.toList.map fun p => (p.1, fe F p.2) := by simp
      have hlen : cs.length = n * sz' := by
        have key : ∀ (l : List (Nat × Value)) (C : Array Value) (D : Array Value), Instr.fill (fun i => some (Nat.mul i sz', sz')) C l = some D → D.size = C.size := by
          intro l
          induction l with
          | nil => intro C D hh; cases hh; rfl
          | cons p l ih =>
            intro C D hh
            obtain ⟨i, x⟩ := p
            rw [Instr.fill] at hh
            simp only at hh
            split at hh
            · cases hh
            · have := ih _ _ hh
              rw [this, ← Array.foldl_toList]
              exact foldl_size _ _ _
        have := key _ _ _ g1
        rw [← hC'len]
        have h5 : C'.toArray.size = (zrow zv.cells (n * sz')).toList.toArray.size := this
        simpa [zrow] using h5
      have hrun : (Instr.buildSlice t n (ps.map fun (i, x) => (i, fe F x))).run P w = .ok (.slice (some ⟨w.heap.size, 0, none⟩) n n) (w.alloc (.cells C'.toArray el (0, 0))) := by
        have hz0 : ¬ (n * inf.size > 2 ^ 24) := by rw [hs]; omega
        by_cases hn0 : n = 0
        · subst hn0
          have hC0 : C' = [] := List.eq_nil_of_length_eq_zero (by rw [hC'len, hlen]; simp)
          subst hC0
          have g1' : Instr.fill (fun i => some (i * inf.size, inf.size)) #[] (ps.map fun (i, x) => (i, fe F x)).toList = some #[] := by
            rw [hpe, hs]
            simpa [zrow] using g1
          have e0 : ∀ k : Nat → Value, Array.map k (Array.range 0) = #[] := fun k => by apply Array.ext'; simp
          generalize (ps.map fun (i, x) => (i, fe F x)) = L at g1' ⊢
          simp [Instr.buildSlice, run_underlying (slOf_u hel), sizeOf, typeInfo, hi', e0, g1', newRow]
        · have hne : ¬ (n * inf.size = 0) := by rw [hs]; exact Nat.ne_of_gt (Nat.mul_pos (Nat.pos_of_ne_zero hn0) h1)
          have g1' : Instr.fill (fun i => some (i * inf.size, inf.size)) ((Array.range (n * inf.size)).map (zv.cells[· % zv.cells.size]!)) (ps.map fun (i, x) => (i, fe F x)).toList = some C'.toArray := by
            rw [hpe, hs]
            have : (zrow zv.cells (n * sz')).toList.toArray = (Array.range (n * sz')).map (zv.cells[· % zv.cells.size]!) := by rw [Array.toArray_toList]; rfl
            rw [this] at g1
            exact g1
          generalize (ps.map fun (i, x) => (i, fe F x)) = L at g1' ⊢
          simp [Instr.buildSlice, run_underlying (slOf_u hel), sizeOf, typeInfo, hi', hz0, hne, zeroValue, hzz, g1', newRow]
      refine St.of_run (v := .slice (some ⟨w.heap.size, 0, none⟩) n n) (w' := w.alloc (.cells C'.toArray el (0, 0))) (by simp [execOp, hrun]) ⟨_, _, Wn.alloc _ _, ?_, NB.row rfl (fun _ => rfl) rfl (by simp [hC'len]) (fun _ => by simp [hC'len]) (CR.ofL g2)⟩
      refine Rv.msl (e := ⟨w.heap.size, 0, C'.toArray.size⟩) (c := n) (ext_at _ _ _) (Nat.le_refl _) ?_ ?_ rfl
      · have := Nat.le_mul_of_pos_right n h1; unfold maxLen; omega
      · show 0 + n * sz' ≤ C'.toArray.size
        simp [hC'len, hlen]
    · cases he
theorem evMakeSlice_s {t : TypeId} {l c : Operand} (he : evMakeSlice P t l c f h = .ok v h') : Qt P (.makeSlice t l c) f v h h' := by
  unfold evMakeSlice at he
  split at he
  · cases he
  · rename_i el hel
    split at he
    · rename_i sz z hsz hz
      obtain ⟨kl, n, hl, he⟩ := recN he
      obtain ⟨kc, m, hm, he⟩ := recN he
      rw [fz_eq, fz_eq] at he
      obtain ⟨hc, he⟩ := recB he
      obtain ⟨hc, h5⟩ := and_t hc
      obtain ⟨hc, h4⟩ := and_t hc
      obtain ⟨hc, h3⟩ := and_t hc
      obtain ⟨h1, h2⟩ := and_t hc
      have h1 : 0 < sz := of_blt h1
      have h2 := Nat.le_of_ble_eq_true h2
      have h3 := Nat.le_of_ble_eq_true h3
      have h4 := Nat.eq_of_beq_eq_true h4
      have h5 := Nat.le_of_ble_eq_true h5
      rw [appK_eq, List.append_nil] at he
      obtain ⟨hb, he⟩ := newB_s he
      obtain ⟨rfl, rfl⟩ := ok_inj he
      refine ⟨_, hb, rfl, fun Φ F w dst ty pos after gd hF hn => ?_⟩
      obtain ⟨zv, sz', by', hinf', rfl⟩ := zcOf_u hz
      obtain ⟨zv2, by2, hinf⟩ := szOf_u hsz
      rw [hinf'] at hinf
      simp only [Option.some.injEq, Prod.mk.injEq] at hinf
      obtain ⟨rfl, rfl, rfl⟩ := hinf
      have hby : byOf P el = some by' := by unfold byOf; rw [hinf']; rfl
      rw [hby] at h5
      simp only [Option.getD_some] at h5
      obtain ⟨inf, hi', hzz, hs, hbb⟩ := infoOf_parts hinf'
      rw [len_eq, List.length_map, Array.length_toList] at h4
      have hls := opd_sound hF l
      have hms := opd_sound hF c
      rw [hl] at hls
      rw [hm] at hms
      have hrun := run_make (P := P) w t el inf zv (slOf_u hel) hi' hzz kl kc (Int.ofNat n) (Int.ofNat m) (Int.natCast_nonneg n) (Int.ofNat_le.2 h2) (by
        have h6 : inf.bytes * m ≤ 65536 * 65536 := Nat.mul_le_mul (hbb ▸ h5) h3
        have : ((inf.bytes * m : Nat) : Int) ≤ ((65536 * 65536 : Nat) : Int) := Int.ofNat_le.2 h6
        rw [Int.natCast_mul] at this
        simp only [Int.ofNat_eq_natCast]
        omega) (by simp only [Int.ofNat_eq_natCast]; omega)
      have hmc : madeCells zv.cells ((Int.ofNat m).toNat * inf.size) = zrow zv.cells (m * sz') := by
        rw [hs]
        rfl
      rw [hmc] at hrun
      have g2 := zrow_rv (Φ := Φ) zv.cells m sz' h4 h1
      have hsize : (zrow zv.cells (m * sz')).size = m * sz' := by simp [zrow]
      have hl2 : (repl m (zv.cells.toList.map cv)).length = m * sz' := by rw [repl_len, List.length_map, Array.length_toList, h4]
      refine St.of_run (v := .slice (some ⟨w.heap.size, 0, none⟩) n m) (w' := w.alloc (.cells (zrow zv.cells (m * sz')) el (0, 0))) ?_ ⟨_, _, Wn.alloc _ _, ?_, NB.row rfl (fun _ => rfl) rfl ?_ (fun _ => ?_) ?_⟩
      · simp only [execOp]
        rw [hls.iI, hms.iI]
        simp only [Sem.run_bind, hrun]
        rfl
      · refine Rv.msl (e := ⟨w.heap.size, 0, (zrow zv.cells (m * sz')).size⟩) (c := m) (ext_at _ _ _) h2 (by unfold maxLen; omega) ?_ rfl
        show 0 + m * sz' ≤ (zrow zv.cells (m * sz')).size
        rw [hsize]; omega
      · show (repl m (zv.cells.toList.map cv)).length ≤ _
        rw [hl2, hsize]; exact Nat.le_refl _
      · show (repl m (zv.cells.toList.map cv)).length = _
        rw [hl2, hsize]
      · have := CR.ofL g2
        simpa using this
    · cases he
theorem chars_len (l : List Nat) : (chars l).length = l.length := by
  induction l with
  | nil => rfl
  | cons c l ih => exact congrArg Nat.succ ih
theorem chars_eq (l : List Nat) : chars l = l.map fun c => AV.i .u8 (Int.ofNat c) := by
  induction l with
  | nil => rfl
  | cons c l ih => exact congrArg (_ :: ·) ih
theorem evConvQ_s {s d : TypeId} {x : Operand} (he : evConvQ P s d x f h = .ok v h') : Qt P (.convert s d x) f v h h' := by
  unfold evConvQ at he
  split at he
  · rename_i l hx
    obtain ⟨h1, he⟩ := recB he
    split at he
    · cases he
    · rename_i el hel
      obtain ⟨h2, he⟩ := recB he
      obtain ⟨h2, h3⟩ := and_t h2
      have h3 := Nat.le_of_ble_eq_true h3
      rw [len_eq] at h3
      obtain ⟨hu8, hsz⟩ := byteT_u h2
      rw [appK_eq, List.append_nil] at he
      obtain ⟨hb, he⟩ := newB_s he
      rw [fz_eq] at he
      obtain ⟨rfl, rfl⟩ := ok_inj he
      refine ⟨_, hb, rfl, fun Φ F w dst ty pos after gd hF hn => ?_⟩
      have hr := opd_sound hF x
      rw [hx] at hr
      obtain ⟨hl, hv⟩ := hr.sI
      have hsize : (⟨(l.map UInt8.ofNat).toArray⟩ : ByteArray).size = l.length := by simp [ByteArray.size]
      have hrun := run_bytes_of_string (P := P) w s d el ⟨(l.map UInt8.ofNat).toArray⟩ (isStr_u h1) (slOf_u hel) hu8
      rw [hsize] at hrun
      have hge := grownCap_ge w l.length 0 el
      have hgm := grownCap_le_maxLen w l.length 0 el (by unfold maxLen; omega)
      have hbr : (bytesRow ⟨(l.map UInt8.ofNat).toArray⟩ (grownCap w l.length 0 el)).size = grownCap w l.length 0 el := by
        unfold bytesRow
        rw [Array.size_append, hsize]
        simp
        omega
      refine St.of_run (v := .slice (some ⟨w.heap.size, 0, none⟩) l.length (grownCap w l.length 0 el)) (by simp only [execOp]; rw [hv]; unfold str; simp only [Sem.run_bind, hrun]; rfl)
        ⟨_, _, Wn.drew _ _, ?_, NB.row rfl (fun h => by cases h) rfl ?_ (fun h => by cases h) ?_⟩
      · rw [len_eq]
        exact Rv.msl (e := ⟨w.heap.size, 0, _⟩) (c := grownCap w l.length 0 el) (ext_at _ _ _) hge hgm (by show 0 + grownCap w l.length 0 el * 1 ≤ (bytesRow ⟨(l.map UInt8.ofNat).toArray⟩ (grownCap w l.length 0 el)).size; rw [hbr]; omega) trivial
      · show (chars l).length ≤ _
        rw [chars_len, hbr]; exact hge
      · intro i a hi
        have hi : (chars l)[i]? = some a := hi
        rw [chars_eq, List.getElem?_map] at hi
        cases hli : l[i]? with
        | none => rw [hli] at hi; cases hi
        | some c =>
          rw [hli] at hi
          cases hi
          have hc := hl c (List.mem_of_getElem? hli)
          have hlt := (List.getElem?_eq_some_iff.1 hli).1
          refine ⟨.int .u8 (Int.ofNat c), ?_, Rv.mi⟩
          rw [Nat.zero_add]
          unfold bytesRow
          rw [Array.getElem?_append_left (by simp; exact hlt)]
          simp [hli, Nat.mod_eq_of_lt hc]
  · cases he
theorem mapOf_u {t : TypeId} {p : TypeId × TypeId} (h : mapOf P t = some p) : P.underlying t = some (.map p.1 p.2) := by unfold mapOf at h; split at h <;> first | (cases h; assumption) | cases h
theorem Rv.mmp {id : Nat} {e : Ent} (h : Φ id = some e) : Rv Φ (.mp id) (.map (some e.g)) := by simp only [Rv]; exact ⟨e, h, rfl⟩
theorem Rv.mpI {id : Nat} {v : Value} (h : Rv Φ (.mp id) v) : ∃ e, Φ id = some e ∧ v = .map (some e.g) := by simp only [Rv] at h; exact h
theorem evMakeMap_s {t : TypeId} {r : Option Operand} (he : evMakeMap P t r f h = .ok v h') : Qt P (.makeMap t r) f v h h' := by
  unfold evMakeMap at he
  have nb : ∀ (Φ : Phi) (g : Nat), NB Φ h.n (itB (.map [] 0)) ⟨g, 0, 0⟩ (.map #[] 0) := fun Φ g => NB.obj rfl ⟨[], rfl, rfl⟩
  split at he
  · obtain ⟨hb, he⟩ := newB_s he
    obtain ⟨rfl, rfl⟩ := ok_inj he
    refine ⟨_, hb, rfl, fun Φ F w dst ty pos after gd hF hn => ?_⟩
    exact St.of_run (v := .map (some w.heap.size)) (w' := w.alloc (.map #[] 0)) (by simp [execOp, Instr.makeMap]) ⟨0, _, Wn.alloc _ _, Rv.mmp (ext_at Φ h.n ⟨w.heap.size, 0, 0⟩), nb _ _⟩
  · rename_i x
    split at he
    · rename_i k z hx
      obtain ⟨hm, he⟩ := recB he
      obtain ⟨p, hp⟩ := Option.isSome_iff_exists.1 hm
      obtain ⟨hb, he⟩ := newB_s he
      obtain ⟨rfl, rfl⟩ := ok_inj he
      refine ⟨_, hb, rfl, fun Φ F w dst ty pos after gd hF hn => ?_⟩
      have hr := opd_sound hF x
      rw [hx] at hr
      have hv := hr.iI
      exact St.of_run (v := .map (some w.heap.size)) (w' := w.alloc (.map #[] 0)) (by simp [execOp, Instr.makeMap, hv, run_underlying (mapOf_u hp), asInt, asIntOf]) ⟨0, _, Wn.alloc _ _, Rv.mmp (ext_at Φ h.n ⟨w.heap.size, 0, 0⟩), nb _ _⟩
    · cases he
end
end Go.Ev
namespace Go.Ev
set_option linter.unusedVariables false
set_option linter.unusedSimpArgs false
open Go Go.Wf Go.RowKit
section
variable {P : Program} {f : Fr} {v : AV} {h h' : Hp} {Φ : Phi} {τ : Tau} {w w' : World}
theorem allScal_s {vs : List AV} {us : List Value} (ha : allScal vs = true) (hr : RvL Φ vs us) : us.all Value.oneCell' = true := by
  induction vs generalizing us with
  | nil => simp only [RvL] at hr; subst hr; rfl
  | cons a vs ih =>
    simp only [RvL] at hr
    obtain ⟨u, r, rfl, h1, h2⟩ := hr
    have ha : (bif scal a then allScal vs else false) = true := ha
    cases hs : scal a with
    | false => rw [hs] at ha; cases ha
    | true =>
      rw [hs] at ha
      rw [List.all_cons, h1.scal hs, ih ha h2]; rfl
theorem CR.put {C : Array Value} {base off : Nat} {cs vs : List AV} {us : List Value} (hc : CR Φ C base cs) (hr : RvL Φ vs us) (hl : off + vs.length ≤ cs.length) (hs : base + cs.length ≤ C.size) :
    CR Φ (C.toList.take (base + off) ++ us ++ C.toList.drop (base + off + us.length)).toArray base (cs.take off ++ vs ++ cs.drop (off + vs.length)) := by
  intro i a hi
  have hul := hr.len
  have hgetC : ∀ j x, C[j]? = some x → C.toList[j]? = some x := fun j x hx => by rw [Array.getElem?_toList]; exact hx
  have e1 : (C.toList.take (base + off)).length = base + off := by rw [List.length_take, Array.length_toList]; omega
  have e2 : (cs.take off).length = off := by rw [List.length_take]; omega
  rw [List.append_assoc, List.getElem?_append] at hi
  rw [e2] at hi
  simp only [List.getElem?_toArray, List.append_assoc]
  rw [List.getElem?_append, e1]
  by_cases h1 : i < off
  · rw [if_pos h1, List.getElem?_take, if_pos h1] at hi
    obtain ⟨x, hx, hxr⟩ := hc i a hi
    rw [if_pos (by omega), List.getElem?_take, if_pos (by omega)]
    exact ⟨x, hgetC _ _ hx, hxr⟩
  · rw [if_neg h1, List.getElem?_append] at hi
    rw [if_neg (by omega), List.getElem?_append, hul]
    have e3 : base + i - (base + off) = i - off := by omega
    rw [e3]
    by_cases h2 : i - off < vs.length
    · rw [if_pos h2] at hi ⊢
      exact hr.at hi
    · rw [if_neg h2] at hi ⊢
      rw [List.getElem?_drop] at hi ⊢
      obtain ⟨x, hx, hxr⟩ := hc _ a hi
      refine ⟨x, ?_, hxr⟩
      rw [← hgetC _ _ hx]
      congr 1
      omega
theorem wrB_s {id off : Nat} {vs : List AV} {k : Hp → Res} (e : wrB h id off vs k = .ok v h') : ∃ b, id < h.n ∧ get5 id h.t = some b ∧ b.ob = .row ∧ b.ro = false ∧ allScal vs = true ∧ off + vs.length ≤ b.cs.length ∧
    k (putB h id (some ⟨b.ty, b.ex, false, b.cs.take off ++ vs ++ b.cs.drop (off + vs.length), .row⟩)) = .ok v h' := by
  unfold wrB at e
  obtain ⟨b, hid, hb, hrow, e⟩ := getB_s e
  obtain ⟨h1, e⟩ := recB e
  obtain ⟨h2, e⟩ := recB e
  rcases putK_eq b.cs off vs (fun cs => k (putB h id (some ⟨b.ty, b.ex, false, cs, .row⟩))) with ⟨e2, hl⟩ | ⟨n, e2⟩
  · rw [e2] at e
    exact ⟨b, hid, hb, hrow, not_t h1, h2, hl, e⟩
  · rw [e2] at e; cases e
theorem Rel.wr {id off : Nat} {b : Blk} {en : Ent} {C : Array Value} {T : TypeId} {vs : List AV} {us : List Value} (r : Rel Φ τ h w) (hid : id < h.n) (hb : get5 id h.t = some b) (br : BR Φ τ w b en id C T) (hro : b.ro = false)
    (hr : RvL Φ vs us) (hl : off + vs.length ≤ b.cs.length) :
    Rel Φ τ (putB h id (some ⟨b.ty, b.ex, false, b.cs.take off ++ vs ++ b.cs.drop (off + vs.length), .row⟩)) (w.setRow en.g (C.toList.take (en.base + off) ++ us ++ C.toList.drop (en.base + off + us.length)).toArray) ∧
    Tw Φ τ h w Φ τ h.n (w.setRow en.g (C.toList.take (en.base + off) ++ us ++ C.toList.drop (en.base + off + us.length)).toArray) := by
  have hle := br.le
  have hsz := (br.own_ hro).2
  have hul := hr.len
  refine r.put hid hb br hro rfl rfl rfl rfl ?_ ?_ (br.cr.put hr hl (by omega)) rfl
  · simp only [List.length_append, List.length_take, List.length_drop]; omega
  · simp only [List.size_toArray, List.length_append, List.length_take, List.length_drop, Array.length_toList]; omega
theorem evStore_s {t : TypeId} {a x : Operand} (e : evStore P t a x f h = .ok v h') (hlim : h.n ≤ big5 → True := fun _ => trivial) : (h.n ≤ big5 → Grow h h') ∧
    ∀ (Φ : Phi) (τ : Tau) (F : Wf.Fr) (w : World) (dst : Option Tmp) (ty : TypeId) (pos : String) (after : Array Edge) (gd : Option (Nat × Bool)), FR Φ f F → Rel Φ τ h w →
    St P (fe F) ⟨dst, .store t a x, ty, pos, after, gd⟩ w (fun x w' => Rv Φ v x ∧ Rel Φ τ h' w' ∧ Tw Φ τ h w Φ τ h'.n w') KF := by
  unfold evStore at e
  split at e
  · rename_i id off ha
    split at e
    · rename_i vs hvs
      split at e
      · rename_i sz hsz
        obtain ⟨hl, e⟩ := recB e
        have hl := Nat.eq_of_beq_eq_true hl
        rw [len_eq] at hl
        obtain ⟨b, hid, hb, hrow, hro, hsc, hle, e⟩ := wrB_s e
        obtain ⟨rfl, rfl⟩ := ok_inj e
        refine ⟨fun hn => Grow.put hn hid hb, fun Φ τ F w dst ty pos after gd hF hR => ?_⟩
        have hr := opd_sound hF a
        rw [ha] at hr
        obtain ⟨en, hen, hv⟩ := hr.pI
        obtain ⟨e', C, T, br⟩ := (hR.blk id b hid hb).row hrow
        have := br.ent
        rw [hen] at this; cases this
        obtain ⟨us, hu1, hu2⟩ := cellsOf_s hvs (opd_sound hF x)
        obtain ⟨z, by_, hinf⟩ := szOf_u hsz
        obtain ⟨inf, hi', _, hs, _⟩ := infoOf_parts hinf
        have hble := br.le
        have hbs := (br.own_ hro).2
        have hul := hu2.len
        obtain ⟨g1, g2⟩ := hR.wr hid hb br hro hu2 hle
        refine St.store (C := C.toList) (T := T) hi' hs hv hu1 (by rw [hul, hl]) ?_ (by rw [Array.length_toList]; omega) (allScal_s hsc hu2) ?_
        · unfold Wf.Blk; rw [br.obj0 hro]
        · intro C' hC'
          subst hC'
          exact ⟨by simp only [Rv], g1, g2⟩
      · cases e
    · cases e
  · cases e
structure SrcW (P : Program) (t' : TypeId) (w : World) (size n : Nat) (y : Value) (ys : List Value) : Prop where
  ty : P.underlying t' = some .string ∨ ∃ e, P.underlying t' = some (.slice e)
  len : ∀ w', (Builtin.lenOf y).run P w' = .ok n w'
  cells : ∀ w', w'.heap = w.heap → (Builtin.firstCells size n y).run P w' = .ok ys.toArray w'
theorem run_ap_none {t t' ty e : TypeId} {i : TypeInfo} (ht : P.underlying t = some (.slice e)) (hi : P.info? e = some i) {s y : Value} {n c : Nat} {a : Option Addr} (hs : s = .slice a n c) (hn : n ≤ c) (S : SrcW P t' w i.size 0 y []) :
    (Builtin.append_ #[t, t'] ty #[s, y]).run P w = .ok s w := by
  subst hs
  have h1 := S.len w
  have h2 := S.cells w rfl
  rcases S.ty with hu | ⟨e', hu⟩ <;> cases a <;> simp [Builtin.append_, run_underlying ht, run_underlying hu, sizeOf, typeInfo, hi, h1, h2, hn, storeCells]
theorem run_ap_room {t t' ty e : TypeId} {i : TypeInfo} (ht : P.underlying t = some (.slice e)) (hi : P.info? e = some i) {g o sLen sCap : Nat} {T : TypeId} {cur : Array Value} (hg : w.heap[g]? = some (.cells cur T (0, 0)))
    {y : Value} {m : Nat} {news : List Value} (S : SrcW P t' w i.size m y news) (h1 : ∀ u ∈ news, u.oneCell' = true) (hroom : sLen + m ≤ sCap) (hfit : o + sLen * i.size + news.length ≤ cur.size) :
    (Builtin.append_ #[t, t'] ty #[.slice (some ⟨g, o, none⟩) sLen sCap, y]).run P w =
      .ok (.slice (some ⟨g, o, none⟩) (sLen + m) sCap) (w.setRow g (cur.toList.take (o + sLen * i.size) ++ news ++ cur.toList.drop (o + sLen * i.size + news.length)).toArray) := by
  have hl := S.len w
  have hf := S.cells w rfl
  have hst := run_storeCells_at P g (o + sLen * i.size) T news 0 cur w hg (by simpa using hfit) h1
  simp only [Nat.add_zero] at hst
  rcases S.ty with hu | ⟨e', hu⟩ <;> simp [Builtin.append_, run_underlying ht, run_underlying hu, sizeOf, typeInfo, hi, hl, hroom, hf, Addr.add_lit, hst]
theorem run_ap_nil {t t' ty e : TypeId} {i : TypeInfo} {z : Value} (ht : P.underlying t = some (.slice e)) (hi : P.info? e = some i) (hz : i.zero = some z) {y : Value} {n : Nat} {news : List Value} (S : SrcW P t' w i.size n y news)
    (h0 : 0 < n) (h63 : (n : Int) ≤ 9223372036854775807) (h48 : n * i.bytes ≤ 281474976710656) :
    (Builtin.append_ #[t, t'] ty #[.slice none 0 0, y]).run P w =
      .ok (.slice (some ⟨w.heap.size, 0, none⟩) n (grownCap w n 0 e)) (w.drew.alloc (.cells (news.toArray ++ Builtin.zeroCells z.cells (grownCap w n 0 e - n)) e)) := by
  have hn : n ≠ 0 := by omega
  have h63' : ¬ (9223372036854775807 < (n : Int)) := by omega
  have h48' : ¬ (281474976710656 < Builtin.nextslicecap n 0 * i.bytes) := by rw [nextslicecap_zero h0]; omega
  have hl := S.len w
  have hf := S.cells w.drew rfl
  rcases S.ty with hu | ⟨e', hu⟩ <;> simp [Builtin.append_, run_underlying ht, run_underlying hu, sizeOf, typeInfo, zeroValue, hi, hz, hl, hn, h63', h48', Question.forced, run_firstCells_none, hf, newRow, grownCap]
theorem run_ap_grow {t t' ty e : TypeId} {i : TypeInfo} {z : Value} (ht : P.underlying t = some (.slice e)) (hi : P.info? e = some i) (hz : i.zero = some z)
    {b : Addr} {sLen sCap : Nat} {olds : List Value} (hlo : olds.length = sLen * i.size) (holds : ∀ j v, olds[j]? = some v → w.cell? (b.add j) = some v) {y : Value} {n : Nat} {news : List Value} (S : SrcW P t' w i.size n y news)
    (hg : sCap < sLen + n) (h63 : ((sLen + n : Nat) : Int) ≤ 9223372036854775807) (hfit : Builtin.nextslicecap (sLen + n) sCap * i.bytes ≤ 281474976710656) :
    (Builtin.append_ #[t, t'] ty #[.slice (some b) sLen sCap, y]).run P w =
      .ok (.slice (some ⟨w.heap.size, 0, none⟩) (sLen + n) (grownCap w (sLen + n) sCap e))
        (w.drew.alloc (.cells (olds.toArray ++ news.toArray ++ Builtin.zeroCells z.cells (grownCap w (sLen + n) sCap e - (sLen + n))) e)) := by
  have hn : ¬ (sLen + n ≤ sCap) := by omega
  have h63' : ¬ (9223372036854775807 < ((sLen : Int) + (n : Int))) := by omega
  have h48' : ¬ (281474976710656 < Builtin.nextslicecap (sLen + n) sCap * i.bytes) := by omega
  have hl := S.len w
  have hf := S.cells w.drew rfl
  have hfo := run_firstCells_some (P := P) w.drew i.size sLen b sLen sCap olds hlo (by simpa using holds)
  rcases S.ty with hu | ⟨e', hu⟩
  all_goals
    simp [Builtin.append_, run_underlying ht, run_underlying hu, sizeOf, typeInfo, zeroValue, hi, hz, hl, hn, h63', h48', Question.forced, hf, hfo, newRow, grownCap]
    congr 2
    apply Array.ext'
    simp [List.append_assoc]
theorem St.appendRun {ρ : Operand → Value} {a b : Operand} {t t' : TypeId} {dst : Option Tmp} {ty : TypeId} {pos : String} {after : Array Edge} {gd : Option (Nat × Bool)} {K : Value → World → Prop} {Kp : List PanicEntry → World → Prop} {x : Value}
    (hr : (Builtin.append_ #[t, t'] ty #[ρ a, ρ b]).run P w = .ok x w') (hk : K x w') : St P ρ ⟨dst, .call { callee := .builtin .append, args := #[a, b], argTypes := #[t, t'] }, ty, pos, after, gd⟩ w K Kp := by
  refine St.of_run (v := x) (w' := w') ?_ hk
  simp [execOp, resolve, invoke, builtin, hr]
theorem apLen_s {e m n : Nat} {k : Nat → Res} (he : apLen P e m n k = .ok v h') : m + n ≤ 1000000 ∧ (∀ z sz by_, infoOf P e = some (z, sz, by_) → by_ ≤ 65536) ∧ k (m + n) = .ok v h' := by
  unfold apLen at he
  rw [fz_eq] at he
  obtain ⟨hc, he⟩ := recB he
  obtain ⟨h1, h2⟩ := and_t hc
  refine ⟨Nat.le_of_ble_eq_true h1, fun z sz by_ hi => ?_, he⟩
  have h2 := Nat.le_of_ble_eq_true h2
  unfold byOf at h2
  rw [hi] at h2
  exact h2
theorem apNew_s {el sz : Nat} {h0 : Hp} {m n : Nat} {us vs : List AV} {xs ys : List Value} {z : Value} {by_ G : Nat} {T : TypeId} {w1 : World} (he : apNew P el sz h0 m n us vs = .ok v h') (hR : Rel Φ τ h0 w) (hf : Φ h0.n = none)
    (hu : RvL Φ us xs) (hv : RvL Φ vs ys) (hxl : xs.length = m * sz) (hyl : ys.length = n * sz) (hz : z.cells.size = sz) (hG : m + n ≤ G) (hGm : G ≤ maxLen)
    (hT : T = el) (hw : Wn w (.cells (xs.toArray ++ ys.toArray ++ Builtin.zeroCells z.cells (G - (m + n))) T (0, 0)) w1) :
    Grow h0 h' ∧ ∃ Φ' τ', Rv Φ' v (.slice (some ⟨w.heap.size, 0, none⟩) (m + n) G) ∧ Rel Φ' τ' h' w1 ∧ Tw Φ τ h0 w Φ' τ' h'.n w1 := by
  unfold apNew at he
  obtain ⟨h1, h2, he⟩ := apLen_s he
  rw [appK_eq] at he
  obtain ⟨hb, he⟩ := newB_s he
  obtain ⟨rfl, rfl⟩ := ok_inj he
  have hCs : (xs.toArray ++ ys.toArray ++ Builtin.zeroCells z.cells (G - (m + n))).size = G * sz := by
    simp only [Array.size_append, List.size_toArray, size_zeroCells, hz, hxl, hyl, ← Nat.add_mul]
    congr 1; omega
  have hap := hu.app hv
  have nb : NB Φ h0.n ⟨el, false, false, us ++ vs, .row⟩ ⟨w.heap.size, 0, (xs.toArray ++ ys.toArray ++ Builtin.zeroCells z.cells (G - (m + n))).size⟩ (.cells (xs.toArray ++ ys.toArray ++ Builtin.zeroCells z.cells (G - (m + n))) T (0, 0)) := by
    refine NB.row rfl (fun _ => rfl) hT ?_ (fun hx => by cases hx) ?_
    · show (us ++ vs).length ≤ _
      rw [hCs, ← hap.len, List.length_append, hxl, hyl, ← Nat.add_mul]
      exact Nat.mul_le_mul_right _ hG
    · intro i a hi
      obtain ⟨x, hx, hr⟩ := hap.at hi
      refine ⟨x, ?_, hr⟩
      have hlt := (List.getElem?_eq_some_iff.1 hx).1
      rw [Nat.zero_add, Array.getElem?_append_left (by simp at hlt ⊢; exact hlt)]
      simpa using hx
  obtain ⟨τ', r1, r2⟩ := hR.new hb hf nb hw
  refine ⟨Grow.new hb, _, τ', ?_, r1, r2⟩
  refine Rv.msl (e := ⟨w.heap.size, 0, _⟩) (c := G) (ext_at _ _ _) hG hGm ?_ trivial
  show 0 + G * sz ≤ (xs.toArray ++ ys.toArray ++ Builtin.zeroCells z.cells (G - (m + n))).size
  rw [hCs]; omega
theorem getP_none {id i : Nat} (r : Rel Φ τ h w) (hid : id < h.n) (hi : i < h.n) : get5 i (putB h id none).t = if i = id then none else get5 i h.t := get5_set5 _ _ _ _ (get5_lt r hi) (get5_lt r hid)
theorem getP_fin {id i : Nat} (r : Rel Φ τ h w) (hid : id < h.n) (hi : h.n ≤ i) (h5 : i < big5) : get5 i (putB h id none).t = none := by
  have : get5 i (putB h id none).t = if i = id then none else get5 i h.t := get5_set5 _ _ _ _ h5 (get5_lt r hid)
  rw [this, if_neg (by omega)]; exact r.fin i hi h5
theorem Rel.kill {id : Nat} (r : Rel Φ τ h w) (hid : id < h.n) : Rel Φ τ (putB h id none) w := by
  refine ⟨r.lim, fun i b hi hb => ?_, fun i hi h5 => getP_fin r hid hi h5⟩
  have hi : i < h.n := hi
  rw [getP_none r hid hi] at hb
  split at hb
  · cases hb
  · exact r.blk i b hi hb
theorem Tw.kill {id n : Nat} {Φ' : Phi} {τ' : Tau} (r : Rel Φ τ h w) (hid : id < h.n) (t : Tw Φ τ (putB h id none) w Φ' τ' n w') : Tw Φ τ h w Φ' τ' n w' :=
  ⟨t.os, t.tape, t.output, t.size, t.sub, t.same, fun g hg hk => t.keep g hg fun i e => ⟨fun hi => by
    rw [getP_none r hid hi]
    split
    · rfl
    · exact (hk i e).1 hi, (hk i e).2⟩⟩
theorem Rel.stay {id off m n sz : Nat} {b : Blk} {en : Ent} {C : Array Value} {T : TypeId} {el : TypeId} {us vs : List AV} {ys : List Value} {c : Nat} (r : Rel Φ τ h w) (hid : id < h.n) (hb : get5 id h.t = some b) (br : BR Φ τ w b en id C T) (hro : b.ro = false) (hbt : b.ty = el) (hlim : h.n < big5) (hf : Φ h.n = none)
    (hus : us = (b.cs.drop off).take (m * sz)) (hul : m * sz ≤ (b.cs.drop off).length) (hv : RvL Φ vs ys) (hyl : ys.length = n * sz) (hc : m + n ≤ c) (hcm : c ≤ maxLen) (hck : off + c * sz ≤ en.k) :
    ∃ Φ' τ', Rv Φ' (.sl h.n 0 (m + n) sz none) (.slice (some ⟨en.g, en.base + off, none⟩) (m + n) c) ∧
      Rel Φ' τ' ⟨set5 h.n (some ⟨el, false, false, us ++ vs, .row⟩) (putB h id none).t, h.n + 1⟩ (w.setRow en.g (C.toList.take (en.base + off + m * sz) ++ ys ++ C.toList.drop (en.base + off + m * sz + ys.length)).toArray) ∧
      Tw Φ τ h w Φ' τ' (h.n + 1) (w.setRow en.g (C.toList.take (en.base + off + m * sz) ++ ys ++ C.toList.drop (en.base + off + m * sz + ys.length)).toArray) := by
  have hnew : ∀ D, (w.setRow en.g D).heap[en.g]? = some (.cells D T (0, 0)) := fun D => setRow_heap w en.g C D T (0, 0) (br.obj0 hro)
  have hlab := br.lab
  rw [hro] at hlab
  simp only [Bool.false_eq_true, if_false] at hlab
  have hsz := (br.own_ hro).2
  have hle := br.le
  rw [List.length_drop] at hul
  have hmc : (m + n) * sz ≤ c * sz := Nat.mul_le_mul_right _ hc
  rw [Nat.add_mul] at hmc
  generalize hD : (C.toList.take (en.base + off + m * sz) ++ ys ++ C.toList.drop (en.base + off + m * sz + ys.length)).toArray = D
  have hDs : D.size = C.size := by
    subst hD
    simp only [List.size_toArray, List.length_append, List.length_take, List.length_drop, Array.length_toList]; omega
  have hvl := hv.len
  have husl : us.length = m * sz := by rw [hus, List.length_take, List.length_drop]; omega
  have hcr : CR Φ D (en.base + off) (us ++ vs) := by
    intro i a hi
    subst hD
    have e1 : (C.toList.take (en.base + off + m * sz)).length = en.base + off + m * sz := by rw [List.length_take, Array.length_toList]; omega
    simp only [List.getElem?_toArray, List.append_assoc]
    rw [List.getElem?_append, e1]
    rw [List.getElem?_append, husl] at hi
    by_cases h1 : i < m * sz
    · rw [if_pos h1, hus, List.getElem?_take, if_pos h1, List.getElem?_drop] at hi
      obtain ⟨x, hx, hxr⟩ := br.cr _ a hi
      rw [if_pos (by omega), List.getElem?_take, if_pos (by omega)]
      refine ⟨x, ?_, hxr⟩
      rw [← hx, Nat.add_assoc]; simp
    · rw [if_neg h1] at hi
      rw [if_neg (by omega), List.getElem?_append, if_pos (by have := (List.getElem?_eq_some_iff.1 hi).1; omega)]
      rw [show en.base + off + i - (en.base + off + m * sz) = i - m * sz by omega]
      exact hv.at hi
  refine ⟨ext Φ h.n ⟨en.g, en.base + off, en.k - off⟩, fun g => if g = en.g then .own h.n else τ g, ?_, ⟨hlim, ?_, ?_⟩, ⟨rfl, rfl, rfl, by simp [World.setRow], Sub.ext hf, ?_, ?_⟩⟩
  · have := Rv.msl (id := h.n) (off := 0) (z := sz) (cap := none) (e := ⟨en.g, en.base + off, en.k - off⟩) (c := c) (ext_at Φ h.n _) hc hcm (by show 0 + c * sz ≤ en.k - off; omega) trivial
    simpa using this
  · intro i b' hi hb'
    have hi : i < h.n + 1 := hi
    have hb' : get5 i (set5 h.n (some ⟨el, false, false, us ++ vs, .row⟩) (putB h id none).t) = some b' := hb'
    rw [get5_set5 _ _ _ _ (by omega) hlim] at hb'
    by_cases e : i = h.n
    · rw [if_pos e] at hb'
      cases hb'
      subst e
      refine .inl ⟨⟨en.g, en.base + off, en.k - off⟩, D, T, ext_at _ _ _, ?_, rfl, .inl ⟨(br.own_ hro).1.trans hbt, ?_⟩, ⟨(0, 0), hnew D, fun _ => rfl⟩, ?_, (fun hx => by cases hx), hcr.mono (Sub.ext hf)⟩
      · show (if en.g = en.g then Lab.own h.n else τ en.g) = _
        rw [if_pos rfl]; rfl
      · show D.size = en.base + off + (en.k - off)
        rw [hDs]; omega
      · show (us ++ vs).length ≤ en.k - off
        rw [List.length_append, husl, ← hvl, hyl]; omega
    · rw [if_neg e, getP_none r hid (by omega)] at hb'
      split at hb'
      · cases hb'
      · rename_i hne
        obtain ⟨en2, _, _, hl2, k⟩ := (r.blk i b' (by omega) hb').at_
        have hg2 : en2.g ≠ en.g := by
          intro hg
          have h2 := hl2
          rw [hg, hlab] at h2
          split at h2
          · cases h2
          · cases h2; exact hne rfl
        exact k (Sub.ext hf) (setRow_other w en.g _ D hg2) (if_neg hg2)
  · intro i hi h5
    have hi : h.n + 1 ≤ i := hi
    show get5 i (set5 h.n (some ⟨el, false, false, us ++ vs, .row⟩) (putB h id none).t) = none
    rw [get5_set5 _ _ _ _ h5 hlim, if_neg (by omega)]
    exact getP_fin r hid (by omega) h5
  · intro i hi
    unfold Ev.ext
    rw [if_neg (by omega)]
  · intro g hg hk
    have hne : g ≠ en.g := by
      rintro rfl
      have := (hk id hlab).1 hid
      rw [hb] at this; cases this
    refine ⟨setRow_other w en.g g D hne, ?_⟩
    show (if g = en.g then Lab.own h.n else τ g) = τ g
    rw [if_neg hne]
end
end Go.Ev
namespace Go.Ev
set_option linter.unusedVariables false
set_option linter.unusedSimpArgs false
open Go Go.Wf Go.RowKit
section
variable {P : Program} {f : Fr} {v : AV} {h h' : Hp} {Φ : Phi} {τ : Tau} {w w' : World}
theorem cell_heap {w w' : World} (h : w'.heap = w.heap) (a : Addr) : w'.cell? a = w.cell? a := by unfold World.cell?; rw [h]
def SlTy (P : Program) (t : TypeId) : Prop := P.underlying t = some .string ∨ ∃ e, P.underlying t = some (.slice e)
theorem srcK_s {sz : Nat} {x : AV} {k : Nat → List AV → Res} (e : srcK h sz x k = .ok v h') : ∃ n vs, 0 < n ∧ k n vs = .ok v h' ∧
    ∀ (Φ : Phi) (τ : Tau) (w : World) (y : Value) (t' : TypeId), Rv Φ x y → Rel Φ τ h w → SlTy P t' → ∃ ys, ys.length = n * sz ∧ RvL Φ vs ys ∧ SrcW P t' w sz n y ys := by
  unfold srcK at e
  split at e
  · rename_i id off n z cap
    obtain ⟨hc, e0⟩ := recB e
    clear e
    obtain ⟨h1, h2⟩ := and_t hc
    have := Nat.eq_of_beq_eq_true h1
    subst this
    obtain ⟨b, hid, hb, hrow, e⟩ := getB_s e0
    clear e0
    rcases tkK_eq (dr b.cs off) (Nat.mul n z) (k n) with ⟨e2, hl⟩ | ⟨m, e2⟩
    · rw [e2, dr_eq] at e
      rw [dr_eq] at hl
      refine ⟨n, _, of_blt h2, e, fun Φ τ w y t' hr hR ht => ?_⟩
      obtain ⟨en, c, hen, rfl, _⟩ := hr.slI
      obtain ⟨e', C, T, br⟩ := (hR.blk id b hid hb).row hrow
      have := br.ent
      rw [hen] at this; cases this
      obtain ⟨ys, k1, k2, k3⟩ := br.cells off (n * z) hl
      refine ⟨ys, k1, k2, ht, fun w' => rfl, fun w' hw => ?_⟩
      exact run_firstCells_some (P := P) w' z n _ n c ys k1 fun j u hj => by rw [cell_heap hw, Addr.add_lit]; exact k3 j u hj
    · rw [e2] at e; cases e
  · rename_i l
    obtain ⟨hc, e0⟩ := recB e
    clear e
    have e := e0
    clear e0
    obtain ⟨h1, h2⟩ := and_t hc
    have := Nat.eq_of_beq_eq_true h1
    subst this
    rw [fz_eq, appK_eq, List.append_nil] at e
    have h2 := of_blt h2
    rw [len_eq] at e h2
    refine ⟨_, _, h2, e, fun Φ τ w y t' hr hR ht => ?_⟩
    obtain ⟨hl, rfl⟩ := hr.sI
    have hsize : (⟨(l.map UInt8.ofNat).toArray⟩ : ByteArray).size = l.length := by simp [ByteArray.size]
    refine ⟨l.map fun c => .int .u8 (Int.ofNat c), by simp, ?_, ht, fun w' => ?_, fun w' hw => ?_⟩
    · rw [chars_eq]
      refine RvL.mk (by simp) fun i a u ha hu => ?_
      rw [List.getElem?_map] at ha hu
      cases hli : l[i]? with
      | none => rw [hli] at ha; cases ha
      | some c => rw [hli] at ha hu; cases ha; cases hu; exact Rv.mi
    · simp [str, Builtin.lenOf, hsize]
    · have hcs : (l.map UInt8.ofNat).map (fun b : UInt8 => Value.int .u8 (b.toNat : Int)) = l.map fun c => Value.int .u8 (Int.ofNat c) := by
        rw [List.map_map]
        apply List.map_congr_left
        intro c hc
        simp [Nat.mod_eq_of_lt (hl c hc)]
      have hex : (⟨(l.map UInt8.ofNat).toArray⟩ : ByteArray).extract 0 l.length = ⟨(l.map UInt8.ofNat).toArray⟩ := by
        have := extract_list (l.map UInt8.ofNat) 0 l.length
        rw [List.drop_zero, List.take_of_length_le (by simp)] at this
        exact this
      have hq : (Builtin.firstCells 1 l.length (str (l.map UInt8.ofNat))).run P w' = .ok ((⟨(l.map UInt8.ofNat).toArray⟩ : ByteArray).data.map fun b => Value.int .u8 (b.toNat : Int)) w' := by
        simp only [str, Builtin.firstCells, hex, Sem.run_pure]
      rw [hq]
      congr 1
      apply Array.ext'
      rw [← hcs]; simp
  · cases e
theorem emptyA_s {x : AV} (hx : emptyA x = true) {Φ : Phi} {y : Value} {t' : TypeId} {sz : Nat} (hr : Rv Φ x y) (ht : SlTy P t') : SrcW P t' w sz 0 y [] := by
  have key : ∀ (a : Option Addr) (c : Nat), SrcW P t' w sz 0 (.slice a 0 c) [] := fun a c => ⟨ht, fun w' => rfl, fun w' _ => by cases a <;> simp [Builtin.firstCells, loadCells, loadCellsFrom]⟩
  unfold emptyA at hx
  split at hx
  · simp only [Rv] at hr; subst hr; exact key _ _
  · simp only [Rv] at hr; obtain ⟨a, c, rfl, _⟩ := hr; exact key _ _
  · obtain ⟨_, c, _, rfl, _⟩ := hr.slI; exact key _ _
  · obtain ⟨_, rfl⟩ := hr.sI
    exact ⟨ht, fun w' => rfl, fun w' _ => by simp [str, Builtin.firstCells]⟩
  · cases hx
theorem apNew_n {el sz : Nat} {h0 : Hp} {m n : Nat} {us vs : List AV} (he : apNew P el sz h0 m n us vs = .ok v h') : h'.n = h0.n + 1 ∧ h0.n < big5 ∧ m + n ≤ 1000000 ∧ (∀ z sz by_, infoOf P el = some (z, sz, by_) → by_ ≤ 65536) := by
  unfold apNew at he
  obtain ⟨h1, h2, he⟩ := apLen_s he
  rw [appK_eq] at he
  obtain ⟨hb, he⟩ := newB_s he
  obtain ⟨rfl, rfl⟩ := ok_inj he
  exact ⟨rfl, hb, h1, h2⟩
theorem apNew_g {el sz : Nat} {h0 : Hp} {m n : Nat} {us vs : List AV} (he : apNew P el sz h0 m n us vs = .ok v h') : Grow h0 h' := by
  unfold apNew at he
  obtain ⟨h1, h2, he⟩ := apLen_s he
  rw [appK_eq] at he
  obtain ⟨hb, he⟩ := newB_s he
  obtain ⟨rfl, rfl⟩ := ok_inj he
  exact Grow.new hb
theorem src_w {u : Value} {id off n sz : Nat} {cap : Option Nat} {b : Blk} (hr : Rv Φ (.sl id off n sz cap) u) (hR : Rel Φ τ h w) (hid : id < h.n) (hb : get5 id h.t = some b) (hrow : b.ob = .row) (hl : n * sz ≤ (b.cs.drop off).length) :
    ∃ A c ys, u = .slice (some A) n c ∧ ys.length = n * sz ∧ RvL Φ ((b.cs.drop off).take (n * sz)) ys ∧ ∀ j y, ys[j]? = some y → w.cell? (A.add j) = some y := by
  obtain ⟨en, c, hen, rfl, _⟩ := hr.slI
  obtain ⟨e', C, T, br⟩ := (hR.blk id b hid hb).row hrow
  have := br.ent
  rw [hen] at this; cases this
  obtain ⟨ys, h1, h2, h3⟩ := br.cells off (n * sz) hl
  exact ⟨_, c, ys, rfl, h1, h2, fun j y hj => by rw [Addr.add_lit]; exact h3 j y hj⟩
def MvB (P : Program) (op : Op) (f : Fr) (v : AV) (h h' : Hp) : Prop := (h.n ≤ big5 → Grow h h') ∧
    ∀ (Φ : Phi) (τ : Tau) (F : Wf.Fr) (w : World) (dst : Option Tmp) (ty : TypeId) (pos : String) (after : Array Edge) (gd : Option (Nat × Bool)), FR Φ f F → Rel Φ τ h w → Fre Φ h.n h'.n →
    St P (fe F) ⟨dst, op, ty, pos, after, gd⟩ w (fun x w' => ∃ Φ' τ', Rv Φ' v x ∧ Rel Φ' τ' h' w' ∧ Tw Φ τ h w Φ' τ' h'.n w') KF
theorem evAppend_s {ts : Array TypeId} {args : Array Operand} (e : evAppend P ts.toList (opds f args.toList) h = .ok v h') : MvB P (.call { callee := .builtin .append, args := args, argTypes := ts }) f v h h' := by
  unfold evAppend at e
  split at e
  · rename_i t t' s x hts hxs
    obtain ⟨a, b, hal, ha, hb⟩ := two hxs
    have hargs : args = #[a, b] := by apply Array.ext'; rw [hal]
    subst hargs
    have hts' : ts = #[t, t'] := by apply Array.ext'; rw [hts]
    subst hts'
    split at e
    · cases e
    · rename_i el hel
      split at e
      · rename_i sz zc hsz hzc
        obtain ⟨hc, e0⟩ := recB e
        clear e
        obtain ⟨hc, hzl⟩ := and_t hc
        obtain ⟨hpos, htt⟩ := and_t hc
        have hpos : 0 < sz := of_blt hpos
        have hu := slOf_u hel
        have htt : SlTy P t' := by
          rcases Bool.or_eq_true_iff.1 htt with h1 | h1
          · have := Nat.eq_of_beq_eq_true h1; subst this; exact .inr ⟨el, hu⟩
          · exact .inl (isStr_u (and_t h1).1)
        have hzl := Nat.eq_of_beq_eq_true hzl
        obtain ⟨zv, sz', by_, hinf, rfl⟩ := zcOf_u hzc
        obtain ⟨zv2, by2, hinf2⟩ := szOf_u hsz
        rw [hinf] at hinf2
        simp only [Option.some.injEq, Prod.mk.injEq] at hinf2
        obtain ⟨rfl, rfl, rfl⟩ := hinf2
        rw [len_eq, List.length_map, Array.length_toList] at hzl
        obtain ⟨inf, hi', hz, hs, hby⟩ := infoOf_parts hinf
        rw [recBk] at e0
        split at e0
        · 
          rename_i hE
          have fin : ∀ {s' : AV}, opd f a = s' → (s' = .ns ∨ ∃ id off n z cap, s' = .sl id off n z cap) → Res.ok s' h = .ok v h' → MvB P (.call { callee := .builtin .append, args := #[a, b], argTypes := #[t, t'] }) f v h h' := by
            intro s' hs' hk he
            obtain ⟨rfl, rfl⟩ := ok_inj he
            refine ⟨fun _ => Grow.refl _, fun Φ τ F w dst ty pos after gd hF hR hFr => ?_⟩
            have hra := opd_sound hF a
            have hrb := opd_sound hF b
            rw [hs'] at hra
            rw [hb] at hrb
            have S := emptyA_s (P := P) (w := w) (sz := inf.size) hE hrb htt
            refine St.appendRun (x := fe F a) (w' := w) ?_ ⟨Φ, τ, hra, hR, Tw.refl _ _ _ _ _⟩
            rcases hk with rfl | ⟨id, off, n, z, cap, rfl⟩
            · simp only [Rv] at hra
              exact run_ap_none hu hi' hra (Nat.le_refl _) S
            · obtain ⟨en, c, _, hv, hn, _⟩ := hra.slI
              exact run_ap_none hu hi' hv hn S
          split at e0
          · exact fin ha (.inl rfl) e0
          · exact fin ha (.inr ⟨_, _, _, _, _, rfl⟩) e0
          · cases e0
        · obtain ⟨n, vs, hn, e1, hsrc⟩ := srcK_s (P := P) e0
          clear e0
          cases s with
          | ns =>
            have e2 : apNew P el sz' h 0 n [] vs = .ok v h' := e1
            clear e1
            have hg := apNew_g e2
            obtain ⟨hn1, hlim, hmn, hbb⟩ := apNew_n e2
            refine ⟨fun _ => hg, fun Φ τ F w dst ty pos after gd hF hR hFr => ?_⟩
            have hra := opd_sound hF a
            have hrb := opd_sound hF b
            rw [ha] at hra
            rw [hb] at hrb
            simp only [Rv] at hra
            obtain ⟨ys, hyl, hyr, S⟩ := hsrc Φ τ w _ t' hrb hR htt
            have hby' := hbb _ _ _ hinf
            have hnb : n * by_ ≤ 1000000 * 65536 := Nat.mul_le_mul (by omega) hby'
            rw [← hs] at S
            have hrun := run_ap_nil (P := P) (w := w) (ty := ty) hu hi' hz S hn (by omega) (by rw [hby]; omega)
            have hge := grownCap_ge w n 0 el
            have hgm := grownCap_le_maxLen w n 0 el (by unfold maxLen; omega)
            obtain ⟨_, Φ', τ', k1, k2, k3⟩ := apNew_s (G := grownCap w n 0 el) (z := zv) (by_ := by_) (xs := []) e2 hR (hFr _ (Nat.le_refl _) (by omega)) (by simp only [RvL]) hyr (by simp) hyl hzl (by omega) hgm rfl (Wn.drew w _)
            refine St.appendRun (w' := w.drew.alloc (.cells (ys.toArray ++ Builtin.zeroCells zv.cells (grownCap w n 0 el - n)) el)) (by rw [hra]; exact hrun) ⟨Φ', τ', ?_, ?_, ?_⟩
            · simpa using k1
            · simpa using k2
            · simpa using k3
          | sl id off m z cap =>
            unfold apTo at e1
            obtain ⟨hzz, e2⟩ := recB e1
            clear e1
            have hzz := Nat.eq_of_beq_eq_true hzz
            subst hzz
            cases cap with
            | some c0 =>
              simp only at e2
              rw [recBk] at e2
              split at e2
              · 
                rename_i hfit
                have hfit : m + n ≤ c0 := Nat.le_of_ble_eq_true hfit
                obtain ⟨b1, hid1, hb1, hrow1, hro, hsc, hle, e3⟩ := wrB_s e2
                clear e2
                obtain ⟨hmn, hbb, e4⟩ := apLen_s e3
                clear e3
                obtain ⟨rfl, rfl⟩ := ok_inj e4
                refine ⟨fun hl => Grow.put hl hid1 hb1, fun Φ τ F w dst ty pos after gd hF hR hFr => ?_⟩
                have hra := opd_sound hF a
                have hrb := opd_sound hF b
                rw [ha] at hra
                rw [hb] at hrb
                obtain ⟨ys, hyl, hyr, S⟩ := hsrc Φ τ w _ t' hrb hR htt
                obtain ⟨en, c1, hen, hv, q1, q2, q3, q4⟩ := hra.slI
                have : c1 = c0 := q4
                subst this
                obtain ⟨e', C, T, br⟩ := (hR.blk id b1 hid1 hb1).row hrow1
                have := br.ent
                rw [hen] at this; cases this
                have hvl := hyr.len
                obtain ⟨g1, g2⟩ := hR.wr hid1 hb1 br hro hyr hle
                have hble := br.le
                have hbs := (br.own_ hro).2
                have hle' : off + m * z + vs.length ≤ b1.cs.length := hle
                rw [← hs] at S
                have hrun := run_ap_room (P := P) (w := w) (ty := ty) hu hi' (g := en.g) (o := en.base + off) (sLen := m) (sCap := c1) (br.obj0 hro) S (fun u hu => by have := allScal_s hsc hyr; exact List.all_eq_true.1 this u hu) hfit (by rw [hs]; omega)
                rw [hs] at hrun
                refine St.appendRun (by rw [hv]; exact hrun) ⟨Φ, τ, ?_, ?_, ?_⟩
                · exact Rv.msl hen hfit q2 q3 rfl
                · rw [Nat.add_assoc en.base off]; exact g1
                · rw [Nat.add_assoc en.base off]; exact g2
              · 
                rename_i hfit
                have hfit : c0 < m + n := by
                  rcases Nat.lt_or_ge c0 (m + n) with h | h
                  · exact h
                  · exact absurd (Nat.ble_eq_true_of_le h) hfit
                obtain ⟨b1, hid1, hb1, hrow1, e3⟩ := getB_s e2
                clear e2
                rcases tkK_eq (dr b1.cs off) (Nat.mul m z) (fun us => apNew P el z h m n us vs) with ⟨e4, hl⟩ | ⟨q, e4⟩
                · rw [e4] at e3
                  rw [dr_eq] at e3 hl
                  have hg := apNew_g e3
                  obtain ⟨hn1, hlim, hmn, hbb⟩ := apNew_n e3
                  refine ⟨fun _ => hg, fun Φ τ F w dst ty pos after gd hF hR hFr => ?_⟩
                  have hra := opd_sound hF a
                  have hrb := opd_sound hF b
                  rw [ha] at hra
                  rw [hb] at hrb
                  obtain ⟨ys, hyl, hyr, S⟩ := hsrc Φ τ w _ t' hrb hR htt
                  obtain ⟨A1, c1, xs, hv, hxl, hxr, hxc⟩ := src_w hra hR hid1 hb1 hrow1 hl
                  obtain ⟨en, c1', hen, hv', q1, q2, q3, q4⟩ := hra.slI
                  have : c1' = c0 := q4
                  subst this
                  have hcc : c1 = c1' := by rw [hv] at hv'; cases hv'; rfl
                  subst hcc
                  have hby' := hbb _ _ _ hinf
                  have hnb : (m + n) * by_ ≤ 1000000 * 65536 := Nat.mul_le_mul (by omega) hby'
                  rw [← hs] at S
                  have hrun := run_ap_grow (P := P) (w := w) (ty := ty) hu hi' hz (b := A1) (sLen := m) (sCap := c1) (olds := xs) (by rw [hxl, hs]) hxc S hfit (by omega) (growslice_fits hfit (by rw [hby]; omega))
                  have hge := grownCap_ge w (m + n) c1 el
                  have hgm := grownCap_le_maxLen w (m + n) c1 el (by unfold maxLen; omega)
                  obtain ⟨_, Φ', τ', k1, k2, k3⟩ := apNew_s (G := grownCap w (m + n) c1 el) (z := zv) (by_ := by_) e3 hR (hFr _ (Nat.le_refl _) (by omega)) hxr hyr hxl hyl hzl (by omega) hgm rfl (Wn.drew w _)
                  exact St.appendRun (by rw [hv]; exact hrun) ⟨Φ', τ', k1, k2, k3⟩
                · rw [e4] at e3; cases e3
            | none =>
              obtain ⟨b1, hid1, hb1, hrow1, e3⟩ := getB_s e2
              clear e2
              obtain ⟨hc2, e4⟩ := recB e3
              clear e3
              obtain ⟨hc2, hbt⟩ := and_t hc2
              have hbt := Nat.eq_of_beq_eq_true hbt
              obtain ⟨hro, hsc⟩ := and_t hc2
              have hro := not_t hro
              rcases tkK_eq (dr b1.cs off) (Nat.mul m z) (fun us => apNew P el z (putB h id none) m n us vs) with ⟨e5, hl⟩ | ⟨q, e5⟩
              · rw [e5] at e4
                rw [dr_eq] at e4 hl
                have hg := apNew_g e4
                obtain ⟨hn1, hlim, hmn, hbb⟩ := apNew_n e4
                have hlim : h.n < big5 := hlim
                have hn1 : h'.n = h.n + 1 := hn1
                refine ⟨fun hl => (Grow.put hl hid1 hb1).trans hg, fun Φ τ F w dst ty pos after gd hF hR hFr => ?_⟩
                have hra := opd_sound hF a
                have hrb := opd_sound hF b
                rw [ha] at hra
                rw [hb] at hrb
                obtain ⟨ys, hyl, hyr, S⟩ := hsrc Φ τ w _ t' hrb hR htt
                obtain ⟨A1, c1, xs, hv, hxl, hxr, hxc⟩ := src_w hra hR hid1 hb1 hrow1 hl
                obtain ⟨en, c1', hen, hv', q1, q2, q3, q4⟩ := hra.slI
                have hcc : c1 = c1' := by rw [hv] at hv'; cases hv'; rfl
                subst hcc
                have hf : Φ h.n = none := hFr _ (Nat.le_refl _) (by omega)
                rw [← hs] at S
                by_cases hfit : m + n ≤ c1
                · obtain ⟨e', C, T, br⟩ := (hR.blk id b1 hid1 hb1).row hrow1
                  have := br.ent
                  rw [hen] at this; cases this
                  have hble := br.le
                  have hbs := (br.own_ hro).2
                  have hmc : (m + n) * z ≤ c1 * z := Nat.mul_le_mul_right _ hfit
                  rw [Nat.add_mul] at hmc
                  have hl' : m * z ≤ (b1.cs.drop off).length := hl
                  rw [List.length_drop] at hl'
                  have hrun := run_ap_room (P := P) (w := w) (ty := ty) hu hi' (g := en.g) (o := en.base + off) (sLen := m) (sCap := c1) (br.obj0 hro) S (fun u hu => by
                    have := allScal_s hsc hyr; exact List.all_eq_true.1 this u hu) hfit (by rw [hs, hyl]; omega)
                  rw [hs] at hrun
                  obtain ⟨Φ', τ', k1, k2, k3⟩ := hR.stay (el := el) hid1 hb1 br hro hbt hlim hf rfl hl hyr hyl hfit q2 q3
                  unfold apNew at e4
                  obtain ⟨_, _, e6⟩ := apLen_s e4
                  clear e4
                  rw [appK_eq] at e6
                  obtain ⟨_, e7⟩ := newB_s e6
                  clear e6
                  obtain ⟨rfl, rfl⟩ := ok_inj e7
                  exact St.appendRun (by rw [hv']; exact hrun) ⟨Φ', τ', k1, k2, k3⟩
                · have hfit : c1 < m + n := by omega
                  have hby' := hbb _ _ _ hinf
                  have hnb : (m + n) * by_ ≤ 1000000 * 65536 := Nat.mul_le_mul (by omega) hby'
                  have hrun := run_ap_grow (P := P) (w := w) (ty := ty) hu hi' hz (b := A1) (sLen := m) (sCap := c1) (olds := xs) (by rw [hxl, hs]) hxc S hfit (by omega) (growslice_fits hfit (by rw [hby]; omega))
                  have hge := grownCap_ge w (m + n) c1 el
                  have hgm := grownCap_le_maxLen w (m + n) c1 el (by unfold maxLen; omega)
                  obtain ⟨_, Φ', τ', k1, k2, k3⟩ := apNew_s (G := grownCap w (m + n) c1 el) (z := zv) (by_ := by_) e4 (hR.kill hid1) hf hxr hyr hxl hyl hzl (by omega) hgm rfl (Wn.drew w _)
                  exact St.appendRun (by rw [hv]; exact hrun) ⟨Φ', τ', k1, k2, k3.kill hR hid1⟩
              · rw [e5] at e4; cases e4
          | _ => cases e1
      · cases e
  · cases e
end
end Go.Ev
namespace Go.Ev
set_option linter.unusedVariables false
set_option linter.unusedSimpArgs false
open Go Go.Wf Go.RowKit
section
variable {P : Program} {f : Fr} {v : AV} {h h' : Hp} {Φ : Phi} {τ : Tau} {w w' : World}
theorem ba_beq (a b : Array UInt8) : ((⟨a⟩ : ByteArray) == ⟨b⟩) = (a == b) := rfl
theorem keyEq {t : TypeId} {x y : AV} {X Y : Value} {b : Bool} {D : TypeDesc} (hk : keyOk0 P t x = true) (e : eqT P 4 t x y = some b) (hx : Rv Φ x X) (hy : Rv Φ y Y) (hD : P.underlying t = some D) :
    Instr.sameNow D X Y = some b ∧ (b = true → X = Y) := by
  have e : eqT1 P (eqT P 3) t x y = some b := e
  unfold keyOk0 at hk
  rw [hD] at hk
  unfold eqT1 at e
  rw [hD] at e
  cases D with
  | int k =>
    cases x with
    | i kk n =>
      cases y with
      | i k' m =>
        simp only at e
        obtain ⟨he, e0⟩ := boolR e
        clear e
        have := ikEq_eq he; subst this
        rw [ieq_eq] at e0
        have e := e0
        clear e0
        rw [hx.iI, hy.iI]
        refine ⟨?_, fun hb => ?_⟩
        · simp only [Instr.sameNow, if_true]
          rw [← e]
          congr 1
        · rw [hb] at e
          rw [of_decide_eq_true e]
      | _ => cases e
    | _ => cases hk
  | string =>
    cases x with
    | s l =>
      cases y with
      | s m =>
        simp only at e
        rw [leqL_eq] at e
        simp only [Option.some.injEq] at e
        obtain ⟨h1, hx⟩ := hx.sI
        obtain ⟨h2, hy⟩ := hy.sI
        rw [hx, hy]
        refine ⟨?_, fun hb => ?_⟩
        · unfold str
          simp only [Instr.sameNow]
          rw [← e]
          congr 1
          rw [Bool.eq_iff_iff, ba_beq]
          constructor
          · intro hq
            have hq := congrArg Array.toList (beq_iff_eq.1 hq)
            simp only at hq
            exact decide_eq_true (map_inj h1 h2 hq)
          · intro hq
            rw [of_decide_eq_true hq]
            simp
        · rw [hb] at e
          rw [of_decide_eq_true e]
      | _ => cases e
    | _ => cases hk
  | bool =>
    cases x with
    | b p =>
      cases y with
      | b q =>
        simp only at e
        simp only [Option.some.injEq] at e
        rw [hx.bI, hy.bI]
        refine ⟨?_, fun hb => ?_⟩
        · rw [← e]; rfl
        · rw [hb] at e
          rw [beq_iff_eq.1 e]
      | _ => cases e
    | _ => cases hk
  | _ => cases x <;> cases hk
theorem run_checkKey0 {t : TypeId} {x : AV} {X : Value} {em : Bool} (hk : keyOk0 P t x = true) (hx : Rv Φ x X) (d : Nat) : (Instr.checkKey em (d + 1) t X).run P w = .ok () w := by
  unfold keyOk0 at hk
  split at hk
  · rename_i hu; rw [hx.iI]; simp [Instr.checkKey, run_underlying hu]
  · rename_i hu; rw [hx.sI.2]; simp [str, Instr.checkKey, run_underlying hu]
  · rename_i hu; rw [hx.bI]; simp [Instr.checkKey, run_underlying hu]
  · cases hk
theorem keyFs_cons {xs : List AV} {f : Field} {fs : List Field} (h : keyFs P xs (f :: fs) = true) : ∃ a, partA P f.type xs f.offset = some a ∧ keyOk0 P f.type a = true ∧ keyFs P xs fs = true := by
  have h : (Option.rec false (fun a => Bool.rec false (keyFs P xs fs) (keyOk0 P f.type a)) (partA P f.type xs f.offset) : Bool) = true := h
  cases hp : partA P f.type xs f.offset with
  | none => rw [hp] at h; cases h
  | some a =>
    rw [hp] at h
    simp only at h
    cases hk : keyOk0 P f.type a with
    | false => rw [hk] at h; cases h
    | true => rw [hk] at h; exact ⟨a, rfl, hk, h⟩
theorem forIn_ok {α : Type} {b : α → Unit → Sem (ForInStep Unit)} : ∀ (l : List α), (∀ f ∈ l, (b f ()).run P w = .ok (.yield ()) w) → (forIn l () b).run P w = .ok () w := by
  intro l
  induction l with
  | nil => intro _; simp
  | cons f l ih =>
    intro h
    rw [List.forIn_cons]
    simp only [Sem.run_bind, h f (by simp), Result.andThen]
    exact ih fun g hg => h g (by simp [hg])
theorem keyFs_mem {xs : List AV} : ∀ {fs : List Field}, keyFs P xs fs = true → ∀ f ∈ fs, ∃ a, partA P f.type xs f.offset = some a ∧ keyOk0 P f.type a = true := by
  intro fs
  induction fs with
  | nil => intro _ f hf; cases hf
  | cons g fs ih =>
    intro h f hf
    obtain ⟨a, h1, h2, h3⟩ := keyFs_cons h
    rcases List.mem_cons.1 hf with rfl | hf
    · exact ⟨a, h1, h2⟩
    · exact ih h3 f hf
theorem run_checkKey {t : TypeId} {x : AV} {X : Value} {em : Bool} (hk : keyOk P t x = true) (hx : Rv Φ x X) : (Instr.checkKey em 10000 t X).run P w = .ok () w := by
  suffices H : ∀ d : Nat, (Instr.checkKey em (d + 1 + 1) t X).run P w = .ok () w from H 9998
  intro d
  unfold keyOk at hk
  split at hk
  · rename_i fs xs hu
    obtain ⟨Xs, rfl, hX⟩ := hx.agI
    have hc0 : ∀ (f : TypeId) (a : AV) (A : Value), keyOk0 P f a = true → Rv Φ a A → (Instr.checkKey em (d + 1) f A).run P w = .ok () w := fun f a A h1 h2 => run_checkKey0 h1 h2 d
    generalize d + 1 = e at hc0 ⊢
    simp only [Instr.checkKey, Sem.run_bind, run_underlying hu, Result.andThen]
    rw [← Array.forIn_toList, forIn_ok fs.toList]
    · rfl
    · intro f hf
      obtain ⟨a, h1, h2⟩ := keyFs_mem hk f hf
      obtain ⟨A, hA, hr⟩ := partA_s (P := P) (w := w) h1 hX
      have hc := hc0 f.type a A h2 hr
      by_cases hn : f.name = "_"
      · simp [hn]
      · simp [hn, hA, hc]
  · rename_i k n hu; rw [hx.iI]; simp [Instr.checkKey, run_underlying hu]
  · rename_i l hu; rw [hx.sI.2]; simp [str, Instr.checkKey, run_underlying hu]
  · rename_i c hu; rw [hx.bI]; simp [Instr.checkKey, run_underlying hu]
  · cases hk
theorem EsR.at : ∀ {l : List En} {ms : List MapEntry} {i : Nat} {e : En}, EsR Φ l ms → l[i]? = some e → ∃ m, ms[i]? = some m ∧ EnR Φ e m := by
  intro l
  induction l with
  | nil => intro ms i e _ h; simp at h
  | cons a l ih =>
    rintro ms i e ⟨m, r, rfl, h1, h2⟩ hi
    cases i with
    | zero => simp at hi; subst hi; exact ⟨m, rfl, h1⟩
    | succ i => obtain ⟨m', h3, h4⟩ := ih h2 (by simpa using hi); exact ⟨m', by simpa using h3, h4⟩
theorem EsR.len : ∀ {l : List En} {ms : List MapEntry}, EsR Φ l ms → ms.length = l.length := by
  intro l
  induction l with
  | nil => intro ms h; have h : ms = [] := h; subst h; rfl
  | cons a l ih => rintro ms ⟨m, r, rfl, h1, h2⟩; simp [ih h2]
theorem EsR.app : ∀ {l : List En} {ms : List MapEntry} {e : En} {m : MapEntry}, EsR Φ l ms → EnR Φ e m → EsR Φ (l ++ [e]) (ms ++ [m]) := by
  intro l
  induction l with
  | nil => intro ms e m h hm; have h : ms = [] := h; subst h; exact ⟨m, [], rfl, hm, rfl⟩
  | cons a l ih => rintro ms e m ⟨m', r, rfl, h1, h2⟩ hm; exact ⟨m', r ++ [m], rfl, h1, ih h2 hm⟩
theorem findA_s {t : TypeId} {x : AV} {X : Value} (hx : Rv Φ x X) : ∀ (es : List En) (ms : List MapEntry) (i : Nat) (r : Option (Nat × En)), EsR Φ es ms → findK P t x es i = some r →
    match r with
    | none => (Instr.findAsking t X ms i).run P w = .ok none w
    | some q => ∃ m, i ≤ q.1 ∧ es[q.1 - i]? = some q.2 ∧ ms[q.1 - i]? = some m ∧ EnR Φ q.2 m ∧ eqT P 4 t x q.2.k = some true ∧ (Instr.findAsking t X ms i).run P w = .ok (some (q.1, m.val)) w := by
  intro es
  induction es with
  | nil =>
    intro ms i r h e
    have h : ms = [] := h
    subst h
    have e : some none = some r := e
    cases e
    simp [Instr.findAsking]
  | cons a es ih =>
    rintro ms i r ⟨m, rest, rfl, h1, h2⟩ e
    have e : (match eqT P 4 t x a.k with | none => none | some b => (Bool.rec (findK P t x es (Nat.succ i)) (some (some (i, a))) b : Option (Option (Nat × En)))) = some r := e
    cases hb : eqT P 4 t x a.k with
    | none => rw [hb] at e; cases e
    | some b =>
      rw [hb] at e
      have k1 : (Op.equal t X m.key).run P w = .ok b w := by rw [eqIn]; exact eqT_s 4 t x a.k X m.key b 10000 (by omega) hb hx h1.1
      cases b with
      | true =>
        cases e
        refine ⟨m, Nat.le_refl _, by simp, by simp, h1, hb, ?_⟩
        simp [Instr.findAsking, k1]
      | false =>
        have e : findK P t x es (i + 1) = some r := e
        have := ih rest (i + 1) r h2 e
        cases r with
        | none => simp only at this ⊢; simp [Instr.findAsking, k1, this]
        | some q =>
          simp only at this ⊢
          obtain ⟨m', q1, q2, q3, q4, q5, q6⟩ := this
          have e9 : q.1 - i = (q.1 - (i + 1)) + 1 := by omega
          refine ⟨m', by omega, by rw [e9]; simpa using q2, by rw [e9]; simpa using q3, q4, q5, ?_⟩
          simp [Instr.findAsking, k1, q6]
theorem findN_s {t : TypeId} {x : AV} {X : Value} {D : TypeDesc} (hk : keyOk0 P t x = true) (hx : Rv Φ x X) (hD : P.underlying t = some D) : ∀ (es : List En) (ms : List MapEntry) (i : Nat) (r : Option (Nat × En)), EsR Φ es ms → findK P t x es i = some r →
    match r with
    | none => Instr.findNow D X ms i = some none
    | some q => ∃ m, i ≤ q.1 ∧ ms[q.1 - i]? = some m ∧ Instr.findNow D X ms i = some (some (q.1, m.val)) := by
  intro es
  induction es with
  | nil =>
    intro ms i r h e
    have h : ms = [] := h
    subst h
    have e : some none = some r := e
    cases e
    rfl
  | cons a es ih =>
    rintro ms i r ⟨m, rest, rfl, h1, h2⟩ e
    have e : (match eqT P 4 t x a.k with | none => none | some b => (Bool.rec (findK P t x es (Nat.succ i)) (some (some (i, a))) b : Option (Option (Nat × En)))) = some r := e
    cases hb : eqT P 4 t x a.k with
    | none => rw [hb] at e; cases e
    | some b =>
      rw [hb] at e
      obtain ⟨k1, k2⟩ := keyEq hk hb hx h1.1 hD
      cases b with
      | true =>
        cases e
        refine ⟨m, Nat.le_refl _, by simp, ?_⟩
        simp [Instr.findNow, k1]
      | false =>
        have e : findK P t x es (i + 1) = some r := e
        have := ih rest (i + 1) r h2 e
        cases r with
        | none => simp only at this ⊢; simp [Instr.findNow, k1, this]
        | some q =>
          simp only at this ⊢
          obtain ⟨m', q1, q3, q6⟩ := this
          have e9 : q.1 - i = (q.1 - (i + 1)) + 1 := by omega
          refine ⟨m', by omega, by rw [e9]; simpa using q3, ?_⟩
          simp [Instr.findNow, k1, q6]
theorem keyOk_D {t : TypeId} {x : AV} (hk : keyOk P t x = true) : ∃ D, P.underlying t = some D ∧ ((∃ fs, D = .struct fs) ∨ keyOk0 P t x = true) := by
  unfold keyOk at hk
  split at hk
  · rename_i h; exact ⟨_, h, .inl ⟨_, rfl⟩⟩
  · rename_i h; exact ⟨_, h, .inr (by unfold keyOk0; rw [h])⟩
  · rename_i h; exact ⟨_, h, .inr (by unfold keyOk0; rw [h])⟩
  · rename_i h; exact ⟨_, h, .inr (by unfold keyOk0; rw [h])⟩
  · cases hk
theorem findK_s {t : TypeId} {x : AV} {X : Value} (hk : keyOk P t x = true) (hx : Rv Φ x X) {es : List En} {ms : List MapEntry} {r : Option (Nat × En)} (hE : EsR Φ es ms) (e : findK P t x es 0 = some r) :
    match r with
    | none => (Instr.findKey t X ms).run P w = .ok none w
    | some q => ∃ m, ms[q.1]? = some m ∧ EnR Φ q.2 m ∧ eqT P 4 t x q.2.k = some true ∧ (Instr.findKey t X ms).run P w = .ok (some (q.1, m.val)) w := by
  have hA := findA_s (P := P) (w := w) hx es ms 0 r hE e
  obtain ⟨D, hD, hs | h0⟩ := keyOk_D hk
  · obtain ⟨fs, rfl⟩ := hs
    have hN : Instr.findNow (.struct fs) X ms 0 = match ms with | [] => some none | _ :: _ => none := by
      cases ms with
      | nil => rfl
      | cons m ms => simp [Instr.findNow, Instr.sameNow]
    cases r with
    | none =>
      simp only at hA ⊢
      cases ms with
      | nil => simp [Instr.findKey, run_underlying hD, hN]
      | cons m ms => simp [Instr.findKey, run_underlying hD, hN, hA]
    | some q =>
      simp only at hA ⊢
      obtain ⟨m, _, _, q3, q4, q5, q6⟩ := hA
      rw [Nat.sub_zero] at q3
      refine ⟨m, q3, q4, q5, ?_⟩
      cases ms with
      | nil => simp at q3
      | cons m ms => simp [Instr.findKey, run_underlying hD, hN, q6]
  · have hB := findN_s h0 hx hD es ms 0 r hE e
    cases r with
    | none => simp only at hB ⊢; simp [Instr.findKey, run_underlying hD, hB]
    | some q =>
      simp only at hA hB ⊢
      obtain ⟨m, _, _, q3, q4, q5, _⟩ := hA
      obtain ⟨m', _, r3, r6⟩ := hB
      rw [q3] at r3; cases r3
      rw [Nat.sub_zero] at q3
      exact ⟨m, q3, q4, q5, by simp [Instr.findKey, run_underlying hD, r6]⟩
theorem OR.map {id : Nat} {b : Blk} {es : List En} {c : Nat} (r : BlkRel Φ τ w id b) (hb : b.ob = .map es c) : ∃ e E, OR Φ τ w b e id (.map E.toArray c) ∧ EsR Φ es E := by
  obtain ⟨e, O, h⟩ := r.obj (by rw [hb]; rfl)
  have := h.ob
  rw [hb] at this
  obtain ⟨E, rfl, hE⟩ := this
  exact ⟨e, E, h, hE⟩
theorem zvOf_run {t : TypeId} {z : AV} (hz : zvOf P t = some z) : ∃ Z, (zeroValue t).run P w = .ok Z w ∧ Rv Φ z Z := zvOf_s hz
theorem evLookup_s {t : TypeId} {x i : Operand} {ok : Bool} (e : evLookup P t x i ok f h = .ok v h') : h' = h ∧ Rd P (.lookup t x i ok) f v h := by
  unfold evLookup at e
  split at e
  · cases e
  · rename_i p hp
    have hu := mapOf_u hp
    have core : ∀ (es : List En), ((Bool.rec (.no 153) (match findK P p.1 (opd f i) es 0 with
      | none => .no 154
      | some none => (match zvOf P p.2 with
        | none => .no 154
        | some z => .ok (Bool.rec z (.tp [z, .b false]) ok) h)
      | some (some q) => .ok (Bool.rec q.2.v (.tp [q.2.v, .b true]) ok) h) (keyOk P p.1 (opd f i)) : Res) = .ok v h') → h' = h ∧
        ∀ (Φ : Phi) (F : Wf.Fr) (w : World) (ms : List MapEntry), FR Φ f F → EsR Φ es ms → (Instr.checkKey ms.toArray.isEmpty 10000 p.1 (fe F i)).run P w = .ok () w ∧
          ((∃ j V, (Instr.findKey p.1 (fe F i) ms).run P w = .ok (some (j, V)) w ∧ Rv Φ v (if ok then .tuple #[V, .bool true] else V)) ∨
           ((Instr.findKey p.1 (fe F i) ms).run P w = .ok none w ∧ ∃ Z, (zeroValue p.2).run P w = .ok Z w ∧ Rv Φ v (if ok then .tuple #[Z, .bool false] else Z))) := by
      intro es e
      obtain ⟨hk, e⟩ := recB e
      split at e
      · cases e
      · rename_i hf
        split at e
        · cases e
        · rename_i z hz
          obtain ⟨rfl, rfl⟩ := ok_inj e
          refine ⟨rfl, fun Φ F w ms hF hE => ?_⟩
          have hr := opd_sound hF i
          have hfk := findK_s (P := P) (w := w) hk hr hE hf
          obtain ⟨Z, hZ, hZr⟩ := zvOf_run (P := P) (w := w) (Φ := Φ) hz
          refine ⟨run_checkKey hk hr, .inr ⟨hfk, Z, hZ, ?_⟩⟩
          cases ok with
          | false => exact hZr
          | true => simp only [Rv, if_true]; exact ⟨[Z, .bool false], rfl, by simp only [RvL]; exact ⟨_, _, rfl, hZr, _, _, rfl, Rv.mb, rfl⟩⟩
      · rename_i q hf
        obtain ⟨rfl, rfl⟩ := ok_inj e
        refine ⟨rfl, fun Φ F w ms hF hE => ?_⟩
        have hr := opd_sound hF i
        obtain ⟨m, q3, q4, q5, hfk⟩ := findK_s (P := P) (w := w) hk hr hE hf
        refine ⟨run_checkKey hk hr, .inl ⟨_, m.val, hfk, ?_⟩⟩
        cases ok with
        | false => exact q4.2.1
        | true => simp only [Rv, if_true]; exact ⟨[m.val, .bool true], rfl, by simp only [RvL]; exact ⟨_, _, rfl, q4.2.1, _, _, rfl, Rv.mb, rfl⟩⟩
    unfold mapK at e
    split at e
    · rename_i hx
      obtain ⟨rfl, hs⟩ := core [] e
      refine ⟨rfl, fun Φ τ F w dst ty pos after gd hF hR => ?_⟩
      obtain ⟨hck, hh⟩ := hs Φ F w [] hF rfl
      have hck : (Instr.checkKey (#[] : Array MapEntry).isEmpty 10000 p.1 (fe F i)).run P w = .ok () w := hck
      have hr := opd_sound hF x
      rw [hx] at hr
      have hv : fe F x = .map none := by simpa only [Rv] using hr
      rcases hh with ⟨j, V, h1, h2⟩ | ⟨h1, Z, h2, h3⟩
      · refine St.of_run (v := if ok then .tuple #[V, .bool true] else V) (w' := w) ?_ ⟨rfl, h2⟩
        simp only [execOp, Instr.lookup, Sem.run_bind, run_underlying hu, Result.andThen, hv, Sem.run_pure, hck, h1]
      · refine St.of_run (v := if ok then .tuple #[Z, .bool false] else Z) (w' := w) ?_ ⟨rfl, h3⟩
        simp only [execOp, Instr.lookup, Sem.run_bind, run_underlying hu, Result.andThen, hv, Sem.run_pure, hck, h1, h2]
    · rename_i id hx
      obtain ⟨b, es, c, hid, hb, hob, e⟩ := getM_s e
      obtain ⟨rfl, hs⟩ := core es e
      refine ⟨rfl, fun Φ τ F w dst ty pos after gd hF hR => ?_⟩
      obtain ⟨en, E, hO, hE⟩ := OR.map (hR.blk id b hid hb) hob
      obtain ⟨hck, hh⟩ := hs Φ F w E hF hE
      have hr := opd_sound hF x
      rw [hx] at hr
      obtain ⟨en', hen, hv⟩ := hr.mpI
      have := hO.ent
      rw [hen] at this; cases this
      have hg := hO.obj
      have hgo : (getObj en.g).run P w = .ok (.map E.toArray c) w := by simp [getObj, Sem.run, hg]
      rcases hh with ⟨j, V, h1, h2⟩ | ⟨h1, Z, h2, h3⟩
      · refine St.of_run (v := if ok then .tuple #[V, .bool true] else V) (w' := w) ?_ ⟨rfl, h2⟩
        simp only [execOp, Instr.lookup, Sem.run_bind, run_underlying hu, Result.andThen, hv, hgo, Sem.run_pure, hck, h1]
      · refine St.of_run (v := if ok then .tuple #[Z, .bool false] else Z) (w' := w) ?_ ⟨rfl, h3⟩
        simp only [execOp, Instr.lookup, Sem.run_bind, run_underlying hu, Result.andThen, hv, hgo, Sem.run_pure, hck, h1, h2]
    · cases e
theorem evLenM_s {t : TypeId} {ts : Array TypeId} {args : Array Operand} (hm : isMap P t = true) (hts : ts = #[t]) (e : evLenM (opds f args.toList) h = .ok v h') : h' = h ∧ Rd P (.call { callee := .builtin .len, args := args, argTypes := ts }) f v h := by
  subst hts
  obtain ⟨ka, el, hu⟩ := isMap_u hm
  unfold evLenM at e
  have one : ∀ {l : List Operand} {a : AV}, opds f l = [a] → ∃ x, l = [x] ∧ opd f x = a := by
    intro l a hl
    cases l with
    | nil => cases hl
    | cons x l =>
      have hl : opd f x :: opds f l = [a] := hl
      cases l with
      | nil => simp only [List.cons.injEq] at hl; exact ⟨x, rfl, hl.1⟩
      | cons y l => have hl : opd f x :: opd f y :: opds f l = [a] := hl; simp at hl
  split at e
  · rename_i hx
    obtain ⟨x, hal, hx2⟩ := one hx
    clear hx
    have hargs : args = #[x] := by apply Array.ext'; rw [hal]
    subst hargs
    obtain ⟨rfl, rfl⟩ := ok_inj e
    refine ⟨rfl, fun Φ τ F w dst ty pos after gd hF hR => ?_⟩
    have hr := opd_sound hF x
    rw [hx2] at hr
    have hv : fe F x = .map none := by simpa only [Rv] using hr
    refine St.of_run (v := .int .i64 0) (w' := w) ?_ ⟨rfl, Rv.mi⟩
    simp [execOp, resolve, invoke, builtin, Builtin.len_, run_underlying hu, hv, goInt]
  · rename_i id hx
    obtain ⟨x, hal, hx2⟩ := one hx
    clear hx
    have hargs : args = #[x] := by apply Array.ext'; rw [hal]
    subst hargs
    obtain ⟨b, es, c, hid, hb, hob, e⟩ := getM_s e
    rw [fz_eq, len_eq] at e
    obtain ⟨rfl, rfl⟩ := ok_inj e
    refine ⟨rfl, fun Φ τ F w dst ty pos after gd hF hR => ?_⟩
    have hr := opd_sound hF x
    rw [hx2] at hr
    obtain ⟨en, E, hO, hE⟩ := OR.map (hR.blk id b hid hb) hob
    obtain ⟨en', hen, hv⟩ := hr.mpI
    have := hO.ent
    rw [hen] at this; cases this
    have hg := hO.obj
    have hgo : (getObj en.g).run P w = .ok (.map E.toArray c) w := by simp [getObj, Sem.run, hg]
    refine St.of_run (v := .int .i64 (Int.ofNat es.length)) (w' := w) ?_ ⟨rfl, Rv.mi⟩
    simp [execOp, resolve, invoke, builtin, Builtin.len_, run_underlying hu, hv, hgo, goInt, hE.len]
  · cases e
end
end Go.Ev
namespace Go.Ev
set_option linter.unusedVariables false
set_option linter.unusedSimpArgs false
open Go Go.Wf Go.RowKit
section
variable {P : Program} {f : Fr} {v : AV} {h h' : Hp} {Φ : Phi} {τ : Tau} {w w' : World}
def setOb (w : World) (g : Nat) (O : Obj) : World := { w with heap := w.heap.setIfInBounds g O }
theorem run_setOb {g : Nat} {O O' : Obj} (h : w.heap[g]? = some O') (hn : ∀ c t f, O' ≠ .cells c t f := by intro _ _ _ h; cases h) : (setObj g O).run P w = .ok () (setOb w g O) := by
  cases O' with
  | cells c t f => exact absurd rfl (hn c t f)
  | _ => simp [setObj, Sem.run, h, setOb]
theorem setOb_at {g : Nat} {O : Obj} (h : g < w.heap.size) : (setOb w g O).heap[g]? = some O := by simp [setOb, h]
theorem setOb_other {g k : Nat} {O : Obj} (h : k ≠ g) : (setOb w g O).heap[k]? = w.heap[k]? := by
  simp only [setOb, Array.getElem?_setIfInBounds]
  rw [if_neg (fun e => h e.symm)]
theorem setOb_size {g : Nat} {O : Obj} : (setOb w g O).heap.size = w.heap.size := by simp [setOb]
theorem Rel.ob {id : Nat} {b b' : Blk} {en : Ent} {O O' : Obj} (r : Rel Φ τ h w) (hid : id < h.n) (hb : get5 id h.t = some b) (br : OR Φ τ w b en id O) (hro : b'.ro = false) (hO : ObR Φ b'.ob O') :
    Rel Φ τ (putB h id (some b')) (setOb w en.g O') ∧ Tw Φ τ h w Φ τ h.n (setOb w en.g O') :=
  r.turn (en := en) hid hb br.lab rfl rfl rfl setOb_size (fun g hg => setOb_other hg) (.inr (.inl ⟨en, O', br.ent, br.lab, hro, br.base, setOb_at br.lt, hO⟩))
theorem snocK_eq {α : Type} (l : List α) (x : α) (k : List α → Res) : snocK l x k = k (l ++ [x]) := appK_eq l [x] k
theorem setE_s {x : AV} : ∀ (es : List En) (i : Nat) (k : List En → Res), setE es i x k = .ok v h' → ∃ es', k es' = .ok v h' ∧
    ∀ (Φ : Phi) (E : List MapEntry) (X V : Value), EsR Φ es E → (∀ m, E[i]? = some m → m.key = X) → Rv Φ x V → EsR Φ es' (E.modify i fun e => { e with key := X, val := V }) := by
  intro es
  induction es with
  | nil => intro i k e; cases e
  | cons a es ih =>
    intro i k e
    cases i with
    | zero =>
      have e : k (⟨a.k, x, a.b⟩ :: es) = .ok v h' := e
      refine ⟨_, e, ?_⟩
      rintro Φ E X V ⟨m, r, rfl, h1, h2⟩ hX hV
      refine ⟨{ m with key := X, val := V }, r, by simp, ⟨?_, hV, h1.2.2⟩, h2⟩
      have := hX m rfl
      subst this
      exact h1.1
    | succ i =>
      have e : setE es i x (fun t' => k (a :: t')) = .ok v h' := e
      obtain ⟨es', e1, e2⟩ := ih i _ e
      refine ⟨_, e1, ?_⟩
      rintro Φ E X V ⟨m, r, rfl, h1, h2⟩ hX hV
      exact ⟨m, _, by simp, h1, e2 Φ r X V h2 (fun m' hm => hX m' (by simpa using hm)) hV⟩
theorem sameBits0 {t : TypeId} {x : AV} {X : Value} (hk : keyOk0 P t x = true) (hx : Rv Φ x X) (d : Nat) : Instr.sameBits d X X = true := by
  unfold keyOk0 at hk
  split at hk
  · rw [hx.iI]; simp [Instr.sameBits]
  · rw [hx.sI.2]; simp [str, Instr.sameBits, ba_beq]
  · rw [hx.bI]; simp [Instr.sameBits]
  · cases hk
theorem sameS_s : ∀ (a b : List AV) (X Y : List Value), sameS a b = true → RvL Φ a X → RvL Φ b Y → X = Y ∧ (X.toArray.toList.zip X.toArray.toList).all (fun (x, y) => Instr.sameBits 9999 x y) = true := by
  intro a
  induction a with
  | nil =>
    intro b X Y h hX hY
    cases b with
    | nil => simp only [RvL] at hX hY; subst hX; subst hY; exact ⟨rfl, rfl⟩
    | cons y b => cases h
  | cons x a ih =>
    intro b X Y h hX hY
    cases b with
    | nil => cases h
    | cons y b =>
      have h : (Bool.rec false (sameS a b) (same1 x y) : Bool) = true := h
      simp only [RvL] at hX hY
      obtain ⟨u, r, rfl, h1, h2⟩ := hX
      obtain ⟨u', r', rfl, h3, h4⟩ := hY
      have key : ∀ {c : Bool}, (Bool.rec false (sameS a b) c : Bool) = true → c = true ∧ sameS a b = true := by
        intro c hc
        cases c
        · cases hc
        · exact ⟨rfl, hc⟩
      obtain ⟨h5, h6⟩ := key h
      obtain ⟨e1, e2⟩ := ih b r r' h6 h2 h4
      subst e1
      have e3 : u = u' ∧ Instr.sameBits 9999 u u = true := by
        unfold same1 at h5
        split at h5
        · obtain ⟨h7, h8⟩ := and_t h5
          have := ikEq_eq h7; subst this
          rw [ieq_eq] at h8
          have := of_decide_eq_true h8; subst this
          rw [h1.iI, h3.iI]
          exact ⟨rfl, by simp [Instr.sameBits]⟩
        · have := beq_iff_eq.1 h5; subst this
          rw [h1.bI, h3.bI]
          exact ⟨rfl, by simp [Instr.sameBits]⟩
        · rw [leqL_eq] at h5
          have := of_decide_eq_true h5; subst this
          rw [h1.sI.2, h3.sI.2]
          exact ⟨rfl, by simp [str, Instr.sameBits, ba_beq]⟩
        · cases h5
      obtain ⟨rfl, e4⟩ := e3
      refine ⟨rfl, ?_⟩
      simp only [List.zip_cons_cons, List.all_cons, e4, Bool.true_and]
      exact e2
theorem sameKey {t : TypeId} {x y : AV} {X Y : Value} (hk : keyOk P t x = true) (he : eqT P 4 t x y = some true) (hs : sameK x y = true) (hx : Rv Φ x X) (hy : Rv Φ y Y) : X = Y ∧ Instr.sameBits 10000 X X = true := by
  obtain ⟨D, hD, hst | h0⟩ := keyOk_D hk
  · obtain ⟨fs, rfl⟩ := hst
    unfold keyOk at hk
    rw [hD] at hk
    cases x with
    | ag l =>
      cases y with
      | ag m =>
        obtain ⟨Xs, rfl, hX⟩ := hx.agI
        obtain ⟨Ys, rfl, hY⟩ := hy.agI
        obtain ⟨e1, e2⟩ := sameS_s l m Xs Ys hs hX hY
        subst e1
        refine ⟨rfl, ?_⟩
        show Instr.sameBits (9999 + 1) (.agg Xs.toArray) (.agg Xs.toArray) = true
        have e5 : ∀ d : Nat, (Xs.toArray.toList.zip Xs.toArray.toList).all (fun (x, y) => Instr.sameBits d x y) = true → Instr.sameBits (d + 1) (.agg Xs.toArray) (.agg Xs.toArray) = true := by
          intro d hd
          simp only [Instr.sameBits, beq_self_eq_true, Bool.true_and]
          exact hd
        exact e5 9999 e2
      | _ => cases hs
    | _ => cases hk
  · have := (keyEq h0 he hx hy hD).2 rfl
    exact ⟨this, sameBits0 h0 hx 10000⟩
theorem evMapUpdate_c {t : TypeId} {m k x : Operand} (e : evMapUpdate P t m k x f h = .ok v h') : (h.n ≤ big5 → Grow h h') ∧ v = .u ∧
    ∀ (Φ : Phi) (τ : Tau) (F : Wf.Fr) (w : World), FR Φ f F → Rel Φ τ h w → ∃ w', (Instr.mapUpdate t (fe F m) (fe F k) (fe F x)).run P w = .ok () w' ∧ Rel Φ τ h' w' ∧ Tw Φ τ h w Φ τ h'.n w' := by
  unfold evMapUpdate at e
  split at e
  · cases e
  · rename_i p hp
    have hu := mapOf_u hp
    split at e
    · rename_i id hm
      obtain ⟨b, es, c, hid, hb, hob, e⟩ := getM_s e
      obtain ⟨hk, e⟩ := recB e
      split at e
      · cases e
      · rename_i hf
        rw [snocK_eq, fz_eq] at e
        obtain ⟨rfl, rfl⟩ := ok_inj e
        refine ⟨fun hl => Grow.put hl hid hb, rfl, fun Φ τ F w hF hR => ?_⟩
        have hr := opd_sound hF m
        rw [hm] at hr
        obtain ⟨en', hen, hv⟩ := hr.mpI
        obtain ⟨en, E, hO, hE⟩ := OR.map (hR.blk id b hid hb) hob
        have := hO.ent
        rw [hen] at this; cases this
        have hrk := opd_sound hF k
        have hrx := opd_sound hF x
        have hfk := findK_s (P := P) (w := w) hk hrk hE hf
        have hgo : (getObj en'.g).run P w = .ok (.map E.toArray c) w := by simp [getObj, Sem.run, hO.obj]
        have hck := run_checkKey (P := P) (w := w) (em := false) hk hrk
        obtain ⟨r1, r2⟩ := hR.ob (b' := ⟨0, true, false, [], .map (es ++ [⟨opd f k, opd f x, c⟩]) (c + 1)⟩) (O' := .map (E.toArray.push { key := fe F k, val := fe F x, born := c }) (c + 1)) hid hb hO rfl
          ⟨E ++ [{ key := fe F k, val := fe F x, born := c }], by simp, hE.app ⟨hrk, hrx, rfl⟩⟩
        refine ⟨_, ?_, r1, r2⟩
        rw [hv]
        have hst := run_setOb (P := P) (O := .map (E.toArray.push { key := fe F k, val := fe F x, born := c }) (c + 1)) hO.obj
        simp only [Instr.mapUpdate, Sem.run_bind, run_underlying hu, Result.andThen, hgo, hck, hfk, hst]
      · rename_i q hf
        obtain ⟨hsk, e⟩ := recB e
        obtain ⟨es', e, hes⟩ := setE_s es q.1 _ e
        obtain ⟨rfl, rfl⟩ := ok_inj e
        refine ⟨fun hl => Grow.put hl hid hb, rfl, fun Φ τ F w hF hR => ?_⟩
        have hr := opd_sound hF m
        rw [hm] at hr
        obtain ⟨en', hen, hv⟩ := hr.mpI
        obtain ⟨en, E, hO, hE⟩ := OR.map (hR.blk id b hid hb) hob
        have := hO.ent
        rw [hen] at this; cases this
        have hrk := opd_sound hF k
        have hrx := opd_sound hF x
        obtain ⟨me, q3, q4, q5, hfk⟩ := findK_s (P := P) (w := w) hk hrk hE hf
        obtain ⟨q5, hsb⟩ := sameKey hk q5 hsk hrk q4.1
        have hgo : (getObj en'.g).run P w = .ok (.map E.toArray c) w := by simp [getObj, Sem.run, hO.obj]
        have hck := run_checkKey (P := P) (w := w) (em := false) hk hrk
        have hst0 : ((E.toArray[q.1]?).map (·.key)).getD (fe F k) = fe F k := by simp [q3, q5]
        have hks : (Instr.keyThatStays (fe F k) (fe F k)).run P w = .ok (fe F k) w := by simp [Instr.keyThatStays, hsb]
        obtain ⟨r1, r2⟩ := hR.ob (b' := ⟨0, true, false, [], .map es' c⟩) (O' := .map (E.toArray.modify q.1 fun e => { e with key := fe F k, val := fe F x }) c) hid hb hO rfl
          ⟨E.modify q.1 (fun e => { e with key := fe F k, val := fe F x }), by apply congrArg (Obj.map · c); apply Array.ext'; simp, hes Φ E (fe F k) (fe F x) hE (fun m hm => by rw [q3] at hm; cases hm; exact q5.symm) hrx⟩
        refine ⟨_, ?_, r1, r2⟩
        rw [hv]
        have hst := run_setOb (P := P) (O := .map (E.toArray.modify q.1 fun e => { e with key := fe F k, val := fe F x }) c) hO.obj
        simp only [Instr.mapUpdate, Sem.run_bind, run_underlying hu, Result.andThen, hgo, hck, hfk, hst0, hks, hst]
    · cases e
theorem Mv.skip {op : Op} {g : Wf.Fr → Sem Unit} (hop : ∀ (F : Wf.Fr) (dst : Option Tmp) (ty : TypeId) (pos : String) (after : Array Edge) (gd : Option (Nat × Bool)), execOp (fe F) ⟨dst, op, ty, pos, after, gd⟩ = (do g F; pure .skip)) (e : (h.n ≤ big5 → Grow h h') ∧ v = .u ∧
    ∀ (Φ : Phi) (τ : Tau) (F : Wf.Fr) (w : World), FR Φ f F → Rel Φ τ h w → ∃ w', (g F).run P w = .ok () w' ∧ Rel Φ τ h' w' ∧ Tw Φ τ h w Φ τ h'.n w') : MvB P op f v h h' := by
  obtain ⟨e1, rfl, e3⟩ := e
  refine ⟨e1, fun Φ τ F w dst ty pos after gd hF hR _ => ?_⟩
  obtain ⟨w', r, r1, r2⟩ := e3 Φ τ F w hF hR
  unfold St
  rw [hop]
  simp only [Sem.run_bind, r, Result.andThen, Sem.run_pure]
  exact ⟨Φ, τ, by simp only [Rv], r1, r2⟩
theorem evMapUpdate_s {t : TypeId} {m k x : Operand} (e : evMapUpdate P t m k x f h = .ok v h') : MvB P (.mapUpdate t m k x) f v h h' := Mv.skip (fun _ _ _ _ _ _ => rfl) (evMapUpdate_c e)
theorem evInsert_s {t : TypeId} {m k x : Operand} (e : evMapUpdate P t m k x f h = .ok v h') : MvB P (.insert t m k x) f v h h' := Mv.skip (fun _ _ _ _ _ _ => rfl) (evMapUpdate_c e)
theorem Mv.val {op : Op} {g : Wf.Fr → Sem Value} (hop : ∀ (F : Wf.Fr) (dst : Option Tmp) (ty : TypeId) (pos : String) (after : Array Edge) (gd : Option (Nat × Bool)), execOp (fe F) ⟨dst, op, ty, pos, after, gd⟩ = (do pure (.value (← g F)))) (e : (h.n ≤ big5 → Grow h h') ∧
    ∀ (Φ : Phi) (τ : Tau) (F : Wf.Fr) (w : World), FR Φ f F → Rel Φ τ h w → Fre Φ h.n h'.n → ∃ x w', (g F).run P w = .ok x w' ∧ ∃ Φ' τ', Rv Φ' v x ∧ Rel Φ' τ' h' w' ∧ Tw Φ τ h w Φ' τ' h'.n w') : MvB P op f v h h' := by
  obtain ⟨e1, e3⟩ := e
  refine ⟨e1, fun Φ τ F w dst ty pos after gd hF hR hFr => ?_⟩
  obtain ⟨x, w', r, r1⟩ := e3 Φ τ F w hF hR hFr
  unfold St
  rw [hop]
  simp only [Sem.run_bind, r, Result.andThen, Sem.run_pure]
  exact r1
theorem evRange_s {t : TypeId} {x : Operand} (e : evRange P t x f h = .ok v h') : MvB P (.range t x) f v h h' := by
  have key : ∀ {o : Ob} {O : Obj}, newB h (itB o) (fun id h => .ok (.p id 0) h) = .ok v h' → (∀ (Φ : Phi) (τ : Tau) (F : Wf.Fr) (w : World), FR Φ f F → Rel Φ τ h w → ∃ O, ObR Φ o O ∧ (Instr.range t (fe F x)).run P w = .ok (.pointer (some ⟨w.heap.size, 0, none⟩)) (w.alloc O)) → MvB P (.range t x) f v h h' := by
    intro o _ e hr
    obtain ⟨hb, e⟩ := newB_s e
    obtain ⟨rfl, rfl⟩ := ok_inj e
    refine Mv.val (g := fun F => Instr.range t (fe F x)) (fun _ _ _ _ _ _ => rfl) ⟨fun _ => Grow.new hb, fun Φ τ F w hF hR hFr => ?_⟩
    obtain ⟨O, hO, hrun⟩ := hr Φ τ F w hF hR
    have hf := hFr h.n (Nat.le_refl _) (Nat.lt_succ_self _)
    obtain ⟨τ', r1, r2⟩ := hR.new (k := 0) hb hf (NB.obj (b := itB o) (g := w.heap.size) (k := 0) rfl hO) (Wn.alloc w O)
    exact ⟨_, _, hrun, _, τ', Rv.mp (ext_at _ _ _), r1, r2⟩
  unfold evRange at e
  split at e
  · rename_i l hx
    obtain ⟨hs, e⟩ := recB e
    refine key (O := .stringIter ⟨(l.map UInt8.ofNat).toArray⟩ 0) e fun Φ τ F w hF hR => ?_
    have hr := opd_sound hF x
    rw [hx] at hr
    obtain ⟨hl, hv⟩ := hr.sI
    exact ⟨_, ⟨hl, rfl⟩, by rw [hv]; unfold str; simp [Instr.range, run_underlying (isStr_u hs)]⟩
  · rename_i hx
    obtain ⟨hs, e⟩ := recB e
    obtain ⟨p, hp⟩ := Option.isSome_iff_exists.1 hs
    refine key (O := .mapIter none 0 #[] 0) e fun Φ τ F w hF hR => ?_
    have hr := opd_sound hF x
    rw [hx] at hr
    have hv : fe F x = .map none := by simpa only [Rv] using hr
    exact ⟨_, rfl, by rw [hv]; simp [Instr.range, run_underlying (mapOf_u hp)]⟩
  · rename_i m hx
    obtain ⟨hs, e⟩ := recB e
    obtain ⟨p, hp⟩ := Option.isSome_iff_exists.1 hs
    obtain ⟨b, es, c, hid, hb, hob, e⟩ := getM_s e
    refine key (O := .mapIter none 0 #[] 0) e fun Φ τ F w hF hR => ?_
    have hr := opd_sound hF x
    rw [hx] at hr
    obtain ⟨en', hen, hv⟩ := hr.mpI
    obtain ⟨en, E, hO, hE⟩ := OR.map (hR.blk m b hid hb) hob
    have := hO.ent
    rw [hen] at this; cases this
    have hgo : (getObj en'.g).run P w = .ok (.map E.toArray c) w := by simp [getObj, Sem.run, hO.obj]
    exact ⟨_, ⟨en', hen, rfl⟩, by rw [hv]; simp [Instr.range, run_underlying (mapOf_u hp), hgo]⟩
  · cases e
theorem tp3 {Φ : Phi} {a b c : AV} {x y z : Value} (h1 : Rv Φ a x) (h2 : Rv Φ b y) (h3 : Rv Φ c z) : Rv Φ (.tp [a, b, c]) (.tuple #[x, y, z]) := by
  simp only [Rv]; exact ⟨[x, y, z], rfl, by simp only [RvL]; exact ⟨_, _, rfl, h1, _, _, rfl, h2, _, _, rfl, h3, rfl⟩⟩
theorem tp1 {Φ : Phi} {a : AV} {x : Value} (h1 : Rv Φ a x) : Rv Φ (.tp [a]) (.tuple #[x]) := by
  simp only [Rv]; exact ⟨[x], rfl, by simp only [RvL]; exact ⟨_, _, rfl, h1, rfl⟩⟩
theorem evNext_s {it : Operand} {st : Bool} (e : evNext it st f h = .ok v h') : MvB P (.next it st) f v h h' := by
  unfold evNext at e
  split at e
  · rename_i id off hit
    obtain ⟨hoff, e1⟩ := recB e
    clear e
    have hoff := Nat.eq_of_beq_eq_true hoff
    subst hoff
    obtain ⟨b, hid, hb, e⟩ := getO_s e1
    clear e1
    have stay : h' = h → (∀ (Φ : Phi) (τ : Tau) (F : Wf.Fr) (w : World) (ty : TypeId), FR Φ f F → Rel Φ τ h w → ∃ x, (Instr.next (fe F it) st ty).run P w = .ok x w ∧ Rv Φ v x) → MvB P (.next it st) f v h h' := by
      rintro rfl hs
      refine ⟨fun _ => Grow.refl _, fun Φ τ F w dst ty pos after gd hF hR _ => ?_⟩
      obtain ⟨x, r, hv⟩ := hs Φ τ F w ty hF hR
      unfold St
      have hop : execOp (fe F) ⟨dst, .next it st, ty, pos, after, gd⟩ = (do pure (.value (← Instr.next (fe F it) st ty))) := rfl
      rw [hop]
      simp only [Sem.run_bind, r, Result.andThen, Sem.run_pure]
      exact ⟨Φ, τ, hv, hR, Tw.refl _ _ _ _ _⟩
    split at e
    · rename_i l pos hob
      obtain ⟨hst, e1⟩ := recB e
      clear e
      subst hst
      have e := e1
      clear e1
      have obj : ∀ {Φ : Phi} {τ : Tau} {F : Wf.Fr} {w : World}, FR Φ f F → Rel Φ τ h w → ∃ en, Φ id = some en ∧ fe F it = .pointer (some ⟨en.g, 0, none⟩) ∧ (∀ n ∈ l, n < 256) ∧ OR Φ τ w b en id (.stringIter ⟨(l.map UInt8.ofNat).toArray⟩ pos) := by
        intro Φ τ F w hF hR
        have hr := opd_sound hF it
        rw [hit] at hr
        obtain ⟨en, hen, hv⟩ := hr.pI
        obtain ⟨e', O, hO⟩ := (hR.blk id b hid hb).obj (by rw [hob]; rfl)
        have := hO.ent
        rw [hen] at this; cases this
        have h2 := hO.ob
        rw [hob] at h2
        obtain ⟨hl, rfl⟩ := h2
        rw [hO.base] at hv
        exact ⟨en, hen, hv, hl, hO⟩
      have hsize : (⟨(l.map UInt8.ofNat).toArray⟩ : ByteArray).size = l.length := by simp [ByteArray.size]
      unfold evNextS at e
      rw [nth_eq] at e
      split at e
      · rename_i hn
        obtain ⟨rfl, rfl⟩ := ok_inj e
        refine stay rfl fun Φ τ F w ty hF hR => ?_
        obtain ⟨en, hen, hv, hl, hO⟩ := obj hF hR
        have hge := List.getElem?_eq_none_iff.1 hn
        refine ⟨.tuple #[.bool false], ?_, tp1 Rv.mb⟩
        rw [hv]
        have : ¬ pos < l.length := by omega
        simp [Instr.next, getObj, Sem.run, hO.obj, hsize, this]
      · rename_i c hc
        obtain ⟨h128, e⟩ := recB e
        have h128 := of_blt h128
        rw [fz_eq] at e
        obtain ⟨rfl, rfl⟩ := ok_inj e
        refine ⟨fun hl => Grow.put hl hid hb, fun Φ τ F w dst ty pos' after gd hF hR _ => ?_⟩
        obtain ⟨en, hen, hv, hl, hO⟩ := obj hF hR
        obtain ⟨r1, r2⟩ := hR.ob (b' := itB (.sit l (pos + 1))) (O' := .stringIter ⟨(l.map UInt8.ofNat).toArray⟩ (pos + 1)) hid hb hO rfl ⟨hl, rfl⟩
        have hlt := (List.getElem?_eq_some_iff.1 hc).1
        have hlt' : pos < (⟨(l.map UInt8.ofNat).toArray⟩ : ByteArray).size := by rw [hsize]; exact hlt
        have hget : ((⟨(l.map UInt8.ofNat).toArray⟩ : ByteArray)[pos]'hlt').toNat = c := by
          have h9 : (l.map UInt8.ofNat).toArray[pos]? = some (UInt8.ofNat c) := by simp [hc]
          have h8 : (⟨(l.map UInt8.ofNat).toArray⟩ : ByteArray)[pos]'hlt' = UInt8.ofNat c := (Array.getElem?_eq_some_iff.1 h9).2
          rw [h8]; exact u8n (by omega)
        have hdec := decode_ascii ⟨(l.map UInt8.ofNat).toArray⟩ pos hlt' (by rw [hget]; exact h128)
        rw [hget] at hdec
        have hst := run_setOb (P := P) (O := .stringIter ⟨(l.map UInt8.ofNat).toArray⟩ (pos + 1)) hO.obj
        have hgo : (getObj en.g).run P w = .ok (.stringIter ⟨(l.map UInt8.ofNat).toArray⟩ pos) w := by simp [getObj, Sem.run, hO.obj]
        unfold St
        have hop : execOp (fe F) ⟨dst, .next it true, ty, pos', after, gd⟩ = (do pure (.value (← Instr.next (fe F it) true ty))) := rfl
        have hrun : (Instr.next (fe F it) true ty).run P w = .ok (.tuple #[.bool true, .int .i64 (Int.ofNat pos), .int .i32 (Int.ofNat c)]) (setOb w en.g (.stringIter ⟨(l.map UInt8.ofNat).toArray⟩ (pos + 1))) := by
          rw [hv]
          simp only [Instr.next, Sem.run_bind, hgo, Result.andThen, hlt', if_true, hdec, hst]
          rfl
        rw [hop]
        simp only [Sem.run_bind, hrun, Result.andThen, Sem.run_pure]
        exact ⟨Φ, τ, tp3 Rv.mb Rv.mi Rv.mi, r1, r2⟩
    · rename_i s0 sn ls hob
      rw [recBk] at e
      split at e
      · cases e
      · rename_i hst
        have hst : st = false := by simpa using hst
        subst hst
        obtain ⟨rfl, rfl⟩ := ok_inj e
        refine stay rfl fun Φ τ F w ty hF hR => ?_
        have hr := opd_sound hF it
        rw [hit] at hr
        obtain ⟨en, hen, hv⟩ := hr.pI
        obtain ⟨e', O, hO⟩ := (hR.blk id b hid hb).obj (by rw [hob]; rfl)
        have := hO.ent
        rw [hen] at this; cases this
        have h2 := hO.ob
        rw [hob] at h2
        have h2 : O = .mapIter none s0 sn.toArray ls := h2
        subst h2
        rw [hO.base] at hv
        refine ⟨.tuple #[.bool false], ?_, tp1 Rv.mb⟩
        rw [hv]
        simp [Instr.next, getObj, Sem.run, hO.obj]
    · rename_i m s0 sn ls hob
      rw [recBk] at e
      split at e
      · cases e
      · rename_i hst
        have hst : st = false := by simpa using hst
        subst hst
        unfold evNextM at e
        obtain ⟨bm, es, c, hidm, hbm, hobm, e⟩ := getM_s e
        split at e
        · obtain ⟨rfl, rfl⟩ := ok_inj e
          refine stay rfl fun Φ τ F w ty hF hR => ?_
          have hr := opd_sound hF it
          rw [hit] at hr
          obtain ⟨en, hen, hv⟩ := hr.pI
          obtain ⟨e', O, hO⟩ := (hR.blk id b hid hb).obj (by rw [hob]; rfl)
          have := hO.ent
          rw [hen] at this; cases this
          have h2 := hO.ob
          rw [hob] at h2
          obtain ⟨em, hem, rfl⟩ := h2
          obtain ⟨em', E, hOm, hE⟩ := OR.map (hR.blk m bm hidm hbm) hobm
          have := hOm.ent
          rw [hem] at this; cases this
          have hE : E = [] := hE
          subst hE
          rw [hO.base] at hv
          refine ⟨.tuple #[.bool false], ?_, tp1 Rv.mb⟩
          rw [hv]
          simp [Instr.next, getObj, Sem.run, hO.obj, hOm.obj, choose, Question.forced]
        · cases e
    · cases e
  · cases e
end
end Go.Ev
namespace Go.Ev
set_option linter.unusedVariables false
set_option linter.unusedSimpArgs false
open Go Go.Wf Go.RowKit
section
variable {P : Program} {f : Fr} {v : AV} {h h' : Hp} {Φ : Phi} {τ : Tau} {w w' : World}
theorem lenA_s {x : AV} {k : Nat → Res} {n : Nat} (e : lenA x k (.no n) = .ok v h') : ∃ m, k m = .ok v h' ∧ (∀ l, x = .s l → m = l.length) ∧ ∀ (Φ : Phi) (y : Value), Rv Φ x y → (∀ w, (Builtin.lenOf y).run P w = .ok m w) ∧ (isSlA x = true → ∃ a c, y = .slice a m c) := by
  unfold lenA at e
  split at e
  · refine ⟨_, e, (fun l hl => by cases hl), fun Φ y hr => ?_⟩
    obtain ⟨en, c, _, rfl, _⟩ := hr.slI
    exact ⟨fun w => rfl, fun _ => ⟨_, _, rfl⟩⟩
  · refine ⟨_, e, (fun l hl => by cases hl), fun Φ y hr => ?_⟩
    simp only [Rv] at hr; subst hr
    exact ⟨fun w => rfl, fun _ => ⟨_, _, rfl⟩⟩
  · refine ⟨_, e, (fun l hl => by cases hl), fun Φ y hr => ?_⟩
    simp only [Rv] at hr; obtain ⟨a, c, rfl, _⟩ := hr
    exact ⟨fun w => rfl, fun _ => ⟨_, _, rfl⟩⟩
  · rename_i l
    rw [fz_eq, len_eq] at e
    refine ⟨_, e, fun l' hl => by cases hl; rfl, fun Φ y hr => ?_⟩
    obtain ⟨_, rfl⟩ := hr.sI
    refine ⟨fun w => ?_, fun hq => by cases hq⟩
    have hsize : (⟨(l.map UInt8.ofNat).toArray⟩ : ByteArray).size = l.length := by simp [ByteArray.size]
    simp [str, Builtin.lenOf, hsize]
  · cases e
theorem firstK_s {sz n : Nat} {x : AV} {k : List AV → Res} (hn : ∀ l, x = .s l → n ≤ l.length) (e : firstK h sz n x k = .ok v h') : ∃ vs, k vs = .ok v h' ∧
    ∀ (Φ : Phi) (τ : Tau) (w : World) (y : Value), Rv Φ x y → Rel Φ τ h w → ∃ ys, ys.length = n * sz ∧ RvL Φ vs ys ∧ (Builtin.firstCells sz n y).run P w = .ok ys.toArray w := by
  unfold firstK at e
  split at e
  · rename_i id off m z cap
    obtain ⟨h1, e0⟩ := recB e
    clear e
    have := Nat.eq_of_beq_eq_true h1
    subst this
    obtain ⟨b, hid, hb, hrow, e⟩ := getB_s e0
    clear e0
    rcases tkK_eq (dr b.cs off) (Nat.mul n z) k with ⟨e2, hl⟩ | ⟨q, e2⟩
    · rw [e2, dr_eq] at e
      rw [dr_eq] at hl
      refine ⟨_, e, fun Φ τ w y hr hR => ?_⟩
      obtain ⟨en, c, hen, rfl, _⟩ := hr.slI
      obtain ⟨e', C, T, br⟩ := (hR.blk id b hid hb).row hrow
      have := br.ent
      rw [hen] at this; cases this
      obtain ⟨ys, k1, k2, k3⟩ := br.cells off (n * z) hl
      exact ⟨ys, k1, k2, run_firstCells_some (P := P) w z n _ m c ys k1 fun j u hj => by rw [Addr.add_lit]; exact k3 j u hj⟩
    · rw [e2] at e; cases e
  · rename_i l
    obtain ⟨h1, e0⟩ := recB e
    clear e
    have := Nat.eq_of_beq_eq_true h1
    subst this
    rw [appK_eq, List.append_nil, tk_eq] at e0
    refine ⟨_, e0, fun Φ τ w y hr hR => ?_⟩
    obtain ⟨hl, rfl⟩ := hr.sI
    have hnl := hn l rfl
    refine ⟨(l.take n).map fun c => .int .u8 (Int.ofNat c), by simp; omega, ?_, ?_⟩
    · rw [chars_eq]
      refine RvL.mk (by simp) fun i a u ha hu => ?_
      rw [List.getElem?_map] at ha hu
      cases hli : (l.take n)[i]? with
      | none => rw [hli] at ha; cases ha
      | some c => rw [hli] at ha hu; cases ha; cases hu; exact Rv.mi
    · have hcs : ((l.take n).map UInt8.ofNat).map (fun b : UInt8 => Value.int .u8 (b.toNat : Int)) = (l.take n).map fun c => Value.int .u8 (Int.ofNat c) := by
        rw [List.map_map]
        apply List.map_congr_left
        intro c hc
        simp [Nat.mod_eq_of_lt (hl c (List.mem_of_mem_take hc))]
      have hex : (⟨(l.map UInt8.ofNat).toArray⟩ : ByteArray).extract 0 n = ⟨((l.take n).map UInt8.ofNat).toArray⟩ := by
        have := extract_list (l.map UInt8.ofNat) 0 n
        rw [List.drop_zero, ← List.map_take] at this
        exact this
      have hq : (Builtin.firstCells 1 n (str (l.map UInt8.ofNat))).run P w = .ok ((⟨((l.take n).map UInt8.ofNat).toArray⟩ : ByteArray).data.map fun b => Value.int .u8 (b.toNat : Int)) w := by
        simp only [str, Builtin.firstCells, hex, Sem.run_pure]
      rw [hq]
      congr 1
      apply Array.ext'
      rw [← hcs]; simp
  · cases e
theorem two_s {ts : List TypeId} {t u : TypeId} {a b : AV} {args : Array Operand} {tys : Array TypeId} (h1 : tys.toList = [t, u]) (h2 : opds f args.toList = [a, b]) : tys = #[t, u] ∧ ∃ x y, args = #[x, y] ∧ opd f x = a ∧ opd f y = b := by
  obtain ⟨x, y, hl, hx, hy⟩ := two h2
  exact ⟨by apply Array.ext'; rw [h1], x, y, by apply Array.ext'; rw [hl], hx, hy⟩
theorem one_s {a : AV} {args : Array Operand} (h2 : opds f args.toList = [a]) : ∃ x, args = #[x] ∧ opd f x = a := by
  have one : ∀ {l : List Operand} {a : AV}, opds f l = [a] → ∃ x, l = [x] ∧ opd f x = a := by
    intro l a hl
    cases l with
    | nil => cases hl
    | cons x l =>
      have hl : opd f x :: opds f l = [a] := hl
      cases l with
      | nil => simp only [List.cons.injEq] at hl; exact ⟨x, rfl, hl.1⟩
      | cons y l => have hl : opd f x :: opd f y :: opds f l = [a] := hl; simp at hl
  obtain ⟨x, hl, hx⟩ := one h2
  exact ⟨x, by apply Array.ext'; rw [hl], hx⟩
theorem evCopy_s {ts : Array TypeId} {args : Array Operand} (e : evCopy P ts.toList (opds f args.toList) h = .ok v h') : MvB P (.call { callee := .builtin .copy, args := args, argTypes := ts }) f v h h' := by
  unfold evCopy at e
  split at e
  · rename_i t t' d x hts hxs
    obtain ⟨rfl, a, b, rfl, ha, hb⟩ := two_s (ts := []) hts hxs
    clear hts hxs
    split at e
    · cases e
    · rename_i sz hsz
      have hel : ∃ el, P.underlying t = some (.slice el) ∧ szOf P el = some sz := by
        cases hs : slOf P t with
        | none => rw [hs] at hsz; cases hsz
        | some el => rw [hs] at hsz; exact ⟨el, slOf_u hs, hsz⟩
      obtain ⟨el, hu, hsz⟩ := hel
      obtain ⟨zv, by_, hinf⟩ := szOf_u hsz
      obtain ⟨inf, hi', _, hs, _⟩ := infoOf_parts hinf
      obtain ⟨hd, e1⟩ := recB e
      clear e
      obtain ⟨n, e2, hn0, hn⟩ := lenA_s (P := P) e1
      clear e1
      obtain ⟨m, e3, hm0, hm⟩ := lenA_s (P := P) e2
      clear e2
      rw [fz_eq, recBk] at e3
      split at e3
      · rename_i hq
        have hq : Nat.min m n = 0 := Nat.eq_of_beq_eq_true hq
        obtain ⟨rfl, rfl⟩ := ok_inj e3
        refine ⟨fun _ => Grow.refl _, fun Φ τ F w dst ty pos after gd hF hR _ => ?_⟩
        have hra := opd_sound hF a
        have hrb := opd_sound hF b
        rw [ha] at hra
        rw [hb] at hrb
        obtain ⟨_, k2⟩ := hn Φ _ hra
        obtain ⟨A, c, hv⟩ := k2 hd
        obtain ⟨k4, _⟩ := hm Φ _ hrb
        have hfc : ∀ y : Value, (Builtin.lenOf y).run P w = .ok m w → (Builtin.firstCells sz 0 y).run P w = .ok #[] w := by
          intro y hy
          cases y with
          | slice a n c => cases a <;> simp [Builtin.firstCells, loadCells, loadCellsFrom]
          | string s => simp [Builtin.firstCells]
          | _ => simp [Builtin.lenOf, stuck] at hy
        have k5 := hfc _ (k4 w)
        refine St.of_run (v := .int .i64 0) (w' := w) ?_ ⟨Φ, τ, Rv.mi, hR, Tw.refl _ _ _ _ _⟩
        have hrun : (Builtin.copy_ #[t, t'] ty #[fe F a, fe F b]).run P w = .ok (.int .i64 0) w := by
          rw [hv]
          cases A <;> simp [Builtin.copy_, run_underlying hu, sizeOf, typeInfo, hi', k4 w, hq, hs, k5, storeCells, goInt]
        simp [execOp, resolve, invoke, builtin, hrun]
      · rename_i hq
        split at e3
        · rename_i id off n0 z cap
          obtain ⟨hz, e4⟩ := recB e3
          clear e3
          have hz := Nat.eq_of_beq_eq_true hz
          subst hz
          obtain ⟨vs, e5, hvs⟩ := firstK_s (P := P) (fun l hl => by rw [hm0 l hl]; exact Nat.min_le_left _ _) e4
          clear e4
          obtain ⟨b1, hid1, hb1, hrow1, hro, hsc, hle, e6⟩ := wrB_s e5
          clear e5
          obtain ⟨rfl, rfl⟩ := ok_inj e6
          refine ⟨fun hl => Grow.put hl hid1 hb1, fun Φ τ F w dst ty pos after gd hF hR _ => ?_⟩
          have hra := opd_sound hF a
          have hrb := opd_sound hF b
          rw [ha] at hra
          rw [hb] at hrb
          obtain ⟨k4, _⟩ := hm Φ _ hrb
          obtain ⟨ys, y1, y2, y3⟩ := hvs Φ τ w _ hrb hR
          obtain ⟨kn, _⟩ := hn Φ _ hra
          obtain ⟨en, c1, hen, hv, q1, q2, q3, q4⟩ := hra.slI
          have hn1 : n = n0 := by
            have h9 := kn w
            rw [hv] at h9
            simp [Builtin.lenOf] at h9
            exact h9.symm
          subst hn1
          obtain ⟨e', C, T, br⟩ := (hR.blk id b1 hid1 hb1).row hrow1
          have := br.ent
          rw [hen] at this; cases this
          obtain ⟨g1, g2⟩ := hR.wr hid1 hb1 br hro y2 hle
          have hvl := y2.len
          have hble := br.le
          have hbs := (br.own_ hro).2
          have hst := run_storeCells_at P en.g (en.base + off) T ys 0 C w (br.obj0 hro) (by simp; omega) (fun u hu => by have := allScal_s hsc y2; exact List.all_eq_true.1 this u hu)
          simp only [Nat.add_zero] at hst
          have hrun : (Builtin.copy_ #[t, t'] ty #[fe F a, fe F b]).run P w = .ok (.int .i64 (Int.ofNat (Nat.min m n))) (w.setRow en.g (C.toList.take (en.base + off) ++ ys ++ C.toList.drop (en.base + off + ys.length)).toArray) := by
            rw [hv]
            simp [Builtin.copy_, run_underlying hu, sizeOf, typeInfo, hi', k4 w, hs, y3, hst, goInt]
          exact St.of_run (v := .int .i64 (Int.ofNat (Nat.min m n))) (by simp [execOp, resolve, invoke, builtin, hrun]) ⟨Φ, τ, Rv.mi, g1, g2⟩
        · cases e3
  · cases e
theorem evCap_s {ts : Array TypeId} {args : Array Operand} (e : evCap P ts.toList (opds f args.toList) h = .ok v h') : MvB P (.call { callee := .builtin .cap, args := args, argTypes := ts }) f v h h' := by
  unfold evCap at e
  split at e
  · rename_i t id off n z c hts hxs
    obtain ⟨x, rfl, hx⟩ := one_s hxs
    have hts' : ts = #[t] := by apply Array.ext'; rw [hts]
    subst hts'
    obtain ⟨hs, e1⟩ := recB e
    clear e
    obtain ⟨el, hu⟩ := isSl_u hs
    obtain ⟨rfl, rfl⟩ := ok_inj e1
    refine ⟨fun _ => Grow.refl _, fun Φ τ F w dst ty pos after gd hF hR _ => ?_⟩
    have hr := opd_sound hF x
    rw [hx] at hr
    obtain ⟨en, c1, hen, hv, q1, q2, q3, q4⟩ := hr.slI
    have : c1 = c := q4
    subst this
    refine St.of_run (v := .int .i64 (Int.ofNat c1)) (w' := w) ?_ ⟨Φ, τ, Rv.mi, hR, Tw.refl _ _ _ _ _⟩
    simp [execOp, resolve, invoke, builtin, Builtin.cap_, run_underlying hu, hv, goInt]
  · rename_i t hts hxs
    obtain ⟨x, rfl, hx⟩ := one_s hxs
    have hts' : ts = #[t] := by apply Array.ext'; rw [hts]
    subst hts'
    obtain ⟨hs, e1⟩ := recB e
    clear e
    obtain ⟨el, hu⟩ := isSl_u hs
    obtain ⟨rfl, rfl⟩ := ok_inj e1
    refine ⟨fun _ => Grow.refl _, fun Φ τ F w dst ty pos after gd hF hR _ => ?_⟩
    have hr := opd_sound hF x
    rw [hx] at hr
    have hv : fe F x = .slice none 0 0 := by simpa only [Rv] using hr
    refine St.of_run (v := .int .i64 (Int.ofNat 0)) (w' := w) ?_ ⟨Φ, τ, Rv.mi, hR, Tw.refl _ _ _ _ _⟩
    simp [execOp, resolve, invoke, builtin, Builtin.cap_, run_underlying hu, hv, goInt]
  · cases e
theorem evUSData_s {ts : Array TypeId} {args : Array Operand} (e : evUSData (opds f args.toList) h = .ok v h') : MvB P (.call { callee := .builtin .unsafeSliceData, args := args, argTypes := ts }) f v h h' := by
  unfold evUSData at e
  split at e
  · rename_i hxs
    obtain ⟨x, rfl, hx⟩ := one_s hxs
    obtain ⟨rfl, rfl⟩ := ok_inj e
    refine ⟨fun _ => Grow.refl _, fun Φ τ F w dst ty pos after gd hF hR _ => ?_⟩
    have hr := opd_sound hF x
    rw [hx] at hr
    have hv : fe F x = .slice none 0 0 := by simpa only [Rv] using hr
    have hrun := Lib.run_unsafeSliceData_nil (P := P) w ts ty 0 0
    exact St.of_run (v := .pointer none) (w' := w) (by simp [execOp, resolve, invoke, builtin, hv, hrun]) ⟨Φ, τ, by simp only [Rv], hR, Tw.refl _ _ _ _ _⟩
  · rename_i id off n z c hxs
    obtain ⟨x, rfl, hx⟩ := one_s hxs
    obtain ⟨hc, e1⟩ := recB e
    clear e
    have hc := of_blt hc
    obtain ⟨rfl, rfl⟩ := ok_inj e1
    refine ⟨fun _ => Grow.refl _, fun Φ τ F w dst ty pos after gd hF hR _ => ?_⟩
    have hr := opd_sound hF x
    rw [hx] at hr
    obtain ⟨en, c1, hen, hv, q1, q2, q3, q4⟩ := hr.slI
    have : c1 = c := q4
    subst this
    have hrun := Lib.run_unsafeSliceData_row (P := P) w ts ty ⟨en.g, en.base + off, none⟩ n c1 (by omega)
    exact St.of_run (v := .pointer (some ⟨en.g, en.base + off, none⟩)) (w' := w) (by simp [execOp, resolve, invoke, builtin, hv, hrun]) ⟨Φ, τ, Rv.mp hen, hR, Tw.refl _ _ _ _ _⟩
  · rename_i id off n z hxs
    obtain ⟨x, rfl, hx⟩ := one_s hxs
    obtain ⟨hc, e1⟩ := recB e
    clear e
    have hc := of_blt hc
    obtain ⟨rfl, rfl⟩ := ok_inj e1
    refine ⟨fun _ => Grow.refl _, fun Φ τ F w dst ty pos after gd hF hR _ => ?_⟩
    have hr := opd_sound hF x
    rw [hx] at hr
    obtain ⟨en, c1, hen, hv, q1, q2, q3, q4⟩ := hr.slI
    have hrun := Lib.run_unsafeSliceData_row (P := P) w ts ty ⟨en.g, en.base + off, none⟩ n c1 (by omega)
    exact St.of_run (v := .pointer (some ⟨en.g, en.base + off, none⟩)) (w' := w) (by simp [execOp, resolve, invoke, builtin, hv, hrun]) ⟨Φ, τ, Rv.mp hen, hR, Tw.refl _ _ _ _ _⟩
  · cases e
theorem liesAt_off {e : TypeId} (hc : P.cellsOf e = 1) (count o n : Nat) (hn : o + n ≤ count) : liesAt P P.depth e count o e n = true := by
  have hd : P.depth = (2 * (P.types.size + Made.depth) + 1) + 1 := rfl
  rw [hd]
  simp only [liesAt, Bool.or_eq_true]
  left
  rw [hd]
  simp [rowAt, hc, hn, sameLayout, Nat.mod_one]
theorem run_ustr {pt it ty e : TypeId} (hp : P.underlying pt = some (.pointer e)) (hc : P.cellsOf e = 1) {g o cells : Nat} {k : IntKind} (hsh : w.shape? g = some (e, cells)) (l : List UInt8) (h0 : l.length ≠ 0) (hn : o + l.length ≤ cells) (h63 : l.length ≤ 1000000)
    (hcell : ∀ j x, l[j]? = some x → w.cell? ((⟨g, o, none⟩ : Addr).add j) = some (.int .u8 x.toNat)) :
    (Builtin.unsafeString_ #[pt, it] ty #[.pointer (some ⟨g, o, none⟩), .int k l.length]).run P w = .ok (.string ⟨l.toArray⟩) (w.freeze ⟨g, o, none⟩ l.length) := by
  have hlb := Lib.run_loadBytes (P := P) w l ⟨g, o, none⟩ .empty hcell
  have hlies := liesAt_off (P := P) hc (cells / P.cellsOf e) o l.length (by rw [hc]; simpa using hn)
  have h63' : ¬ (9223372036854775807 : Int) < (l.length : Int) := by omega
  have hdef : Builtin.unsafeString_ #[pt, it] ty #[.pointer (some ⟨g, o, none⟩), .int k l.length] =
      (do
        let n ← asInt (.int k l.length)
        if n < 0 then runtimePanic _
        if n > IntKind.i64.max then unsupported _
        if n = 0 then pure (.string .empty)
        else if ← variablesAt ⟨g, o, none⟩ (← elemOf pt) n.toNat then do
          let s ← loadBytes ⟨g, o, none⟩ .empty n.toNat
          freeze ⟨g, o, none⟩ n.toNat
          pure (.string s)
        else unsupported _) := rfl
  rw [hdef]
  have hmax : IntKind.i64.max = 9223372036854775807 := rfl
  have hneg : ¬ (l.length : Int) < 0 := by omega
  simp [asInt, asIntOf, hmax, h63', hneg, h0, variablesAt, hsh, elemOf, run_underlying hp, hlies, hlb]
theorem run_ustr0 {pt it ty : TypeId} {k : IntKind} (p : Option Addr) : (Builtin.unsafeString_ #[pt, it] ty #[.pointer p, .int k 0]).run P w = .ok (.string .empty) w := by
  have hmax : IntKind.i64.max = 9223372036854775807 := rfl
  cases p with
  | none =>
    have hdef : Builtin.unsafeString_ #[pt, it] ty #[.pointer none, .int k 0] =
        (do
          let n ← asInt (.int k 0)
          if n < 0 then runtimePanic _
          if n > IntKind.i64.max then unsupported _
          if n = 0 then pure (.string .empty)
          else runtimePanic _) := rfl
    rw [hdef]
    simp [asInt, asIntOf, hmax]
  | some a =>
    have hdef : Builtin.unsafeString_ #[pt, it] ty #[.pointer (some a), .int k 0] =
        (do
          let n ← asInt (.int k 0)
          if n < 0 then runtimePanic _
          if n > IntKind.i64.max then unsupported _
          if n = 0 then pure (.string .empty)
          else if ← variablesAt a (← elemOf pt) n.toNat then do
            let s ← loadBytes a .empty n.toNat
            freeze a n.toNat
            pure (.string s)
          else unsupported _) := rfl
    rw [hdef]
    simp [asInt, asIntOf, hmax]
theorem Rel.lose {id : Nat} {b : Blk} {en : Ent} (r : Rel Φ τ h w) (hid : id < h.n) (hb : get5 id h.t = some b) (hlab : τ en.g = .own id) (hos : w'.os = w.os) (htp : w'.tape = w.tape) (hou : w'.output = w.output)
    (hsz : w'.heap.size = w.heap.size) (hoth : ∀ g, g ≠ en.g → w'.heap[g]? = w.heap[g]?) : Rel Φ τ (putB h id none) w' ∧ Tw Φ τ h w Φ τ h.n w' := by
  refine ⟨⟨r.lim, ?_, fun i hi h5 => getP_fin r hid hi h5⟩, ⟨hos, htp, hou, by rw [hsz]; exact Nat.le_refl _, Sub.refl _, fun _ _ => rfl, ?_⟩⟩
  · intro i b' hi hb'
    have hi : i < h.n := hi
    rw [getP_none r hid hi] at hb'
    split at hb'
    · cases hb'
    · rename_i hne
      obtain ⟨en2, _, _, hl2, k⟩ := (r.blk i b' hi hb').at_
      have hg : en2.g ≠ en.g := by
        intro hg
        rw [hg, hlab] at hl2
        split at hl2
        · cases hl2
        · cases hl2; exact hne rfl
      exact k (Sub.refl _) (hoth _ hg) rfl
  · intro g hg hk
    refine ⟨hoth g ?_, rfl⟩
    intro e
    subst e
    have := (hk id hlab).1 hid
    rw [hb] at this; cases this
theorem freeze_w (w : World) (g o n : Nat) : (w.freeze ⟨g, o, none⟩ n).os = w.os ∧ (w.freeze ⟨g, o, none⟩ n).tape = w.tape ∧ (w.freeze ⟨g, o, none⟩ n).output = w.output ∧ (w.freeze ⟨g, o, none⟩ n).heap.size = w.heap.size ∧ ∀ k, k ≠ g → (w.freeze ⟨g, o, none⟩ n).heap[k]? = w.heap[k]? := by
  unfold World.freeze
  split
  · exact ⟨rfl, rfl, rfl, rfl, fun _ _ => rfl⟩
  · refine ⟨rfl, rfl, rfl, by simp, fun k hk => ?_⟩
    simp only [Array.getElem?_modify]
    rw [if_neg (fun e => hk e.symm)]
theorem evUStr_s {ts : Array TypeId} {args : Array Operand} (e : evUStr P ts.toList (opds f args.toList) h = .ok v h') : MvB P (.call { callee := .builtin .unsafeString, args := args, argTypes := ts }) f v h h' := by
  unfold evUStr at e
  split at e
  · rename_i pt it p n hts hxs
    obtain ⟨rfl, a, b, rfl, ha, hb⟩ := two_s (ts := []) hts hxs
    clear hts hxs
    obtain ⟨k, m, rfl, e1⟩ := recN e
    clear e
    rw [recBk] at e1
    split at e1
    · rename_i hm
      have hm := Nat.eq_of_beq_eq_true hm
      subst hm
      have fin : ∀ {p : AV}, opd f a = p → (p = .np ∨ ∃ i o, p = .p i o) → Res.ok (.s []) h = .ok v h' → MvB P (.call { callee := .builtin .unsafeString, args := #[a, b], argTypes := #[pt, it] }) f v h h' := by
        intro p ha hp he
        obtain ⟨rfl, rfl⟩ := ok_inj he
        refine ⟨fun _ => Grow.refl _, fun Φ τ F w dst ty pos after gd hF hR _ => ?_⟩
        have hra := opd_sound hF a
        have hrb := opd_sound hF b
        rw [ha] at hra
        rw [hb] at hrb
        have hva : ∃ q, fe F a = .pointer q := by
          rcases hp with rfl | ⟨i, o, rfl⟩
          · simp only [Rv] at hra; exact ⟨_, hra⟩
          · obtain ⟨en, _, hv⟩ := hra.pI; exact ⟨_, hv⟩
        obtain ⟨q, hva⟩ := hva
        have hrun := run_ustr0 (P := P) (w := w) (pt := pt) (it := it) (ty := ty) (k := k) q
        refine St.of_run (v := .string .empty) (w' := w) ?_ ⟨Φ, τ, by simp only [Rv]; exact ⟨by simp, rfl⟩, hR, Tw.refl _ _ _ _ _⟩
        have hvb : fe F b = .int k 0 := hrb.iI
        simp [execOp, resolve, invoke, builtin, hva, hvb, hrun]
      split at e1
      · exact fin ha (.inl rfl) e1
      · exact fin ha (.inr ⟨_, _, rfl⟩) e1
      · cases e1
    · rename_i hm
      split at e1
      · rename_i id off
        obtain ⟨h6, e2⟩ := recB e1
        clear e1
        have h6 := Nat.le_of_ble_eq_true h6
        obtain ⟨b1, hid, hb1, hrow, e3⟩ := getB_s e2
        clear e2
        obtain ⟨hc, e4⟩ := recB e3
        clear e3
        obtain ⟨hro, hc⟩ := and_t hc
        have hro := not_t hro
        rcases tkK_eq (dr b1.cs off) m (fun vs => unchars vs fun l => Res.ok (.s l) (putB h id none)) with ⟨e5, hl⟩ | ⟨q, e5⟩
        · rw [e5, dr_eq] at e4
          rw [dr_eq] at hl
          obtain ⟨ns, e6, hns, hlist⟩ := unchars_s _ e4
          clear e4
          obtain ⟨rfl, rfl⟩ := ok_inj e6
          refine ⟨fun hl => Grow.put hl hid hb1, fun Φ τ F w dst ty pos after gd hF hR _ => ?_⟩
          have hra := opd_sound hF a
          have hrb := opd_sound hF b
          rw [ha] at hra
          rw [hb] at hrb
          obtain ⟨en, hen, hv⟩ := hra.pI
          obtain ⟨e', C, T, br⟩ := (hR.blk id b1 hid hb1).row hrow
          have := br.ent
          rw [hen] at this; cases this
          obtain ⟨vs, v1, v2, v3⟩ := br.cells off m hl
          rw [hlist] at v2
          have hvs := chars_rv v2
          have hnl : ns.length = m := by
            have := congrArg List.length hvs
            rw [v1] at this
            simpa using this.symm
          cases hp : ptrOf P pt with
          | none => rw [hp] at hc; cases hc
          | some el =>
            rw [hp] at hc
            obtain ⟨hc1, hc2⟩ := and_t hc
            have hc1 := Nat.eq_of_beq_eq_true hc1
            have hc2 := Nat.eq_of_beq_eq_true hc2
            have hsh := br.shape
            have hT := (br.own_ hro).1
            rw [hT, hc1] at hsh
            have hbs := (br.own_ hro).2
            have hble := br.le
            rw [List.length_drop] at hl
            have hm0 : m ≠ 0 := fun h => by subst h; exact hm rfl
            have hrun := run_ustr (P := P) (w := w) (pt := pt) (it := it) (ty := ty) (k := k) (ptrOf_u hp) hc2 (g := en.g) (o := en.base + off) hsh (ns.map UInt8.ofNat) (by rw [List.length_map, hnl]; exact hm0) (by rw [List.length_map, hnl]; omega) (by rw [List.length_map, hnl]; exact h6) (fun j x hx => by
              rw [Addr.add_lit]
              refine v3 j _ ?_
              rw [hvs]
              rw [List.getElem?_map] at hx
              cases hj : ns[j]? with
              | none => rw [hj] at hx; cases hx
              | some c =>
                rw [hj] at hx
                cases hx
                have hcc := hns c (List.mem_of_getElem? hj)
                simp [hj, Nat.mod_eq_of_lt hcc])
            rw [List.length_map, hnl] at hrun
            obtain ⟨f1, f2, f3, f4, f5⟩ := freeze_w w en.g (en.base + off) m
            obtain ⟨r1, r2⟩ := hR.lose (w' := w.freeze ⟨en.g, en.base + off, none⟩ m) hid hb1 (br.own hro) f1 f2 f3 f4 f5
            refine St.of_run (v := .string ⟨(ns.map UInt8.ofNat).toArray⟩) (w' := w.freeze ⟨en.g, en.base + off, none⟩ m) ?_ ⟨Φ, τ, Rv.ms hns, r1, r2⟩
            have hvb : fe F b = .int k (m : Int) := hrb.iI
            simp [execOp, resolve, invoke, builtin, hv, hvb, hrun]
        · rw [e5] at e4; cases e4
      · cases e1
  · cases e
def ExK (P : Program) (k m : Nat) : Prop := ∃ fn e, P.funcs[k]? = some fn ∧ (fn.name == "runtime.NumGoroutine") = false ∧ fn.body.isNone = true ∧ Extern.findNext fn = none ∧ Extern.find fn = some e ∧
  ((m = 1 ∧ e = Extern.AbiNoEscape.same) ∨ (m = 2 ∧ e = Extern.BytealgMakeNoZero.makeNoZero fn.params fn.resultTypes ∧ ∃ t, fn.resultTypes = #[t]))
theorem evExt_s {k m : Nat} {l : List AV} (hx : ExK P k m) (e : evExt P k m l h = .ok v h') : (h.n ≤ big5 → Grow h h') ∧
    ∀ (Φ : Phi) (τ : Tau) (w : World) (vs : List Value), Rel Φ τ h w → Fre Φ h.n h'.n → RvL Φ l vs → ∃ x w', (callFunc k vs.toArray).run P w = .ok (.value x) w' ∧ ∃ Φ' τ', Rv Φ' v x ∧ Rel Φ' τ' h' w' ∧ Tw Φ τ h w Φ' τ' h'.n w' := by
  obtain ⟨fn, en, h1, h2, h3, h4, h5, h6⟩ := hx
  unfold evExt at e
  split at e
  · rename_i x
    obtain ⟨rfl, rfl⟩ := ok_inj e
    rcases h6 with ⟨_, rfl⟩ | ⟨h6, _⟩
    · refine ⟨fun _ => Grow.refl _, fun Φ τ w vs hR _ hv => ?_⟩
      simp only [RvL] at hv
      obtain ⟨u, r, rfl, hu, rfl⟩ := hv
      refine ⟨u, w, ?_, Φ, τ, hu, hR, Tw.refl _ _ _ _ _⟩
      rw [run_callFunc_extern h1 h2 h3 h4 h5]
      rfl
    · cases h6
  · rename_i z
    cases z with
    | negSucc n => cases e
    | ofNat n =>
      simp only at e
      rcases h6 with ⟨h6, _⟩ | ⟨_, rfl, t, ht⟩
      · cases h6
      · split at e
        · rename_i el hel
          rw [h1] at hel
          simp only [Option.bind_some, ht] at hel
          have hel : slOf P t = some el := hel
          have hu := slOf_u hel
          obtain ⟨hc, e1⟩ := recB e
          clear e
          obtain ⟨hn, hb⟩ := and_t hc
          have hn := Nat.le_of_ble_eq_true hn
          rw [appK_eq, List.append_nil] at e1
          obtain ⟨h5b, e2⟩ := newB_s e1
          clear e1
          obtain ⟨rfl, rfl⟩ := ok_inj e2
          refine ⟨fun _ => Grow.new h5b, fun Φ τ w vs hR hFr hv => ?_⟩
          simp only [RvL] at hv
          obtain ⟨u, r, rfl, hu1, rfl⟩ := hv
          have hu1 := hu1.iI
          subst hu1
          obtain ⟨cs, r1, r2, r3⟩ := Lib.run_makeNoZero (P := P) w fn.params t el hu n (by omega)
          have hf := hFr h.n (Nat.le_refl _) (Nat.lt_succ_self _)
          obtain ⟨τ', q1, q2⟩ := hR.new (k := cs.size) (w' := w.drew.drew.alloc (.cells cs el (0, 0))) h5b hf (NB.row (b := ⟨el, false, false, repl n [AV.u], .row⟩) (g := w.heap.size) (fr := (0, 0)) rfl (fun _ => rfl) rfl (by
              show (repl n [AV.u]).length ≤ _
              rw [repl_len]; simpa using r2) (fun hx => by cases hx) (by
              intro i a hi
              have hi : (repl n [AV.u])[i]? = some a := hi
              have hlt := (List.getElem?_eq_some_iff.1 hi).1
              have ha : a = .u := by
                have := List.mem_of_getElem? hi
                unfold repl at this
                simp at this
                exact this.2
              subst ha
              rw [repl_len] at hlt
              simp at hlt
              exact ⟨cs[0 + i]'(by omega), by simp [show 0 + i < cs.size by omega], by simp only [Rv]⟩)) ⟨rfl, rfl, rfl, by simp, fun k hk => Below.heap_alloc w.drew.drew _ k hk, heap_alloc_new w.drew.drew _⟩
          refine ⟨.slice (some ⟨w.heap.size, 0, none⟩) n cs.size, w.drew.drew.alloc (.cells cs el), ?_, _, τ', ?_, q1, q2⟩
          · rw [run_callFunc_extern h1 h2 h3 h4 h5, ht]
            have hq : ([Value.int IntKind.i64 (Int.ofNat n)] : List Value).toArray = #[.int .i64 (n : Int)] := rfl
            rw [hq, r1]
            rfl
          · exact Rv.msl (e := ⟨w.heap.size, 0, cs.size⟩) (c := cs.size) (ext_at _ _ _) r2 (r3 (by unfold maxLen; omega)) (by show 0 + cs.size * 1 ≤ cs.size; omega) trivial
        · cases e
  · cases e
theorem evExt_p {k m : Nat} {l : List AV} : evExt P k m l h ≠ .pn v h' := by
  intro e
  unfold evExt at e
  split at e
  · cases e
  · rename_i z
    cases z with
    | negSucc n => cases e
    | ofNat n =>
      simp only at e
      split at e
      · rename_i el _
        cases hb : (Nat.ble n 1000000 && byteT P el) with
        | false => rw [hb] at e; cases e
        | true =>
          rw [hb] at e
          simp only at e
          rw [appK_eq] at e
          unfold newB at e
          cases hq : Nat.blt h.n big5 with
          | false => rw [hq] at e; cases e
          | true => rw [hq] at e; simp only [fz_eq] at e; cases e
      · cases e
  · cases e
end
end Go.Ev
namespace Go.Ev
set_option linter.unusedVariables false
set_option linter.unusedSimpArgs false
open Go Go.Wf Go.RowKit
def hpR : Res → Hp → Hp
  | .ok _ h, _ => h
  | .pn _ h, _ => h
  | .no _, h => h
def okR : Res → Prop
  | .no _ => False
  | _ => True
def RetE (Φ : Phi) (τ : Tau) (h : Hp) (w : World) (r : Res) : Ending → World → Prop
  | .returned x, w' => ∃ v h', r = .ok v h' ∧ ∃ Φ' τ', Rv Φ' v x ∧ Rel Φ' τ' h' w' ∧ Tw Φ τ h w Φ' τ' h'.n w'
  | .panicked ch, w' => ∃ v h', r = .pn v h' ∧ ∃ x Φ' τ', ch = [{ v := x, recovered := false }] ∧ Rv Φ' v x ∧ Rel Φ' τ' h' w' ∧ Tw Φ τ h w Φ' τ' h'.n w'
  | .outgrown, _ => False
structure CallS (P : Program) (call : CallF) : Prop where
  ex : ∀ k, call.ex k ≠ 0 → ExK P k (call.ex k)
  run : ∀ k args h r, call.run k args h = r → okR r →
    (∃ fn, P.funcs[k]? = some fn ∧ (fn.name == "runtime.NumGoroutine") = false ∧ fn.body.isNone = false) ∧ (h.n ≤ big5 → Grow h (hpR r h)) ∧
    ∀ Φ τ w vs, Rel Φ τ h w → Fre Φ h.n (hpR r h).n → RvL Φ args vs → Calls P k vs.toArray w (RetE Φ τ h w r)
  rd : ∀ id args h r, call.rd id args h = r → okR r → ∃ v h', r = .ok v h' ∧ (h.n ≤ big5 → Grow h h') ∧
    ∀ Φ τ w vs e, Rel Φ τ h w → Fre Φ h.n h'.n → RvL Φ args vs → Φ id = some e → ∃ l g tmps as0 bo, (Instr.yield e.g vs.toArray).run P w = .ok (.round l g tmps as0 bo) w ∧
      RoundIn Fence.wide 0 P l g tmps as0 bo w fun en w' => ∃ x, en = .returned x ∧ ∃ Φ' τ', Rv Φ' v x ∧ Rel Φ' τ' h' w' ∧ Tw Φ τ h w Φ' τ' h'.n w'
def OpS (P : Program) (op : Op) (f : Fr) (h : Hp) (v : AV) (h' : Hp) : Prop := (h.n ≤ big5 → Grow h h') ∧
  ∀ (Φ : Phi) (τ : Tau) (F : Wf.Fr) (w : World) (dst : Option Tmp) (ty : TypeId) (pos : String) (after : Array Edge) (gd : Option (Nat × Bool)), FR Φ f F → Rel Φ τ h w → Fre Φ h.n h'.n →
    St P (fe F) ⟨dst, op, ty, pos, after, gd⟩ w (fun x w' => ∃ Φ' τ', Rv Φ' v x ∧ Rel Φ' τ' h' w' ∧ Tw Φ τ h w Φ' τ' h'.n w') KF
def OpP (P : Program) (op : Op) (f : Fr) (h : Hp) (v : AV) (h' : Hp) : Prop := (h.n ≤ big5 → Grow h h') ∧
  ∀ (Φ : Phi) (τ : Tau) (F : Wf.Fr) (w : World) (dst : Option Tmp) (ty : TypeId) (pos : String) (after : Array Edge) (gd : Option (Nat × Bool)), FR Φ f F → Rel Φ τ h w → Fre Φ h.n h'.n →
    St P (fe F) ⟨dst, op, ty, pos, after, gd⟩ w (fun _ _ => False) (fun ch w' => ∃ x Φ' τ', ch = [{ v := x, recovered := false }] ∧ Rv Φ' v x ∧ Rel Φ' τ' h' w' ∧ Tw Φ τ h w Φ' τ' h'.n w')
section
variable {P : Program} {call : CallF} {op : Op} {f f' : Fr} {v : AV} {h h' : Hp}
theorem Pu.opS (p : h' = h ∧ Pu P op f v) : OpS P op f h v h' := by
  obtain ⟨rfl, p⟩ := p
  refine ⟨fun _ => Grow.refl _, fun Φ τ F w dst ty pos after gd hF hR _ => (p Φ F w dst ty pos after gd hF).mono ?_ fun _ _ h => h⟩
  rintro x w' ⟨rfl, hv⟩
  exact ⟨Φ, τ, hv, hR, Tw.refl _ _ _ _ _⟩
theorem Rd.opS (p : h' = h ∧ Rd P op f v h) : OpS P op f h v h' := by
  obtain ⟨rfl, p⟩ := p
  refine ⟨fun _ => Grow.refl _, fun Φ τ F w dst ty pos after gd hF hR _ => (p Φ τ F w dst ty pos after gd hF hR).mono ?_ fun _ _ h => h⟩
  rintro x w' ⟨rfl, hv⟩
  exact ⟨Φ, τ, hv, hR, Tw.refl _ _ _ _ _⟩
theorem Qt.opS (p : Qt P op f v h h') : OpS P op f h v h' := ⟨fun _ => p.mv.1, p.mv.2⟩
theorem bifK {α : Type} {b : Bool} {x y z : α} (h : (bif b then x else y) = z) : (b = true ∧ x = z) ∨ (b = false ∧ y = z) := by cases b <;> simp at h <;> simp [h]
theorem cvKd_of {s d : TypeId} {x : Operand} {k : Kd} (hk : kdOf P (.convert s d x) = k) : (k = .pure ∧ cvKd P s d = 0) ∨ (k = .read ∧ cvKd P s d = 1) ∨ (k = .quiet ∧ cvKd P s d = 2) ∨ (k = .move ∧ 3 ≤ cvKd P s d) := by
  have hk : (match cvKd P s d with | 0 => Kd.pure | 1 => .read | 2 => .quiet | _ => .move) = k := hk
  match hc : cvKd P s d with
  | 0 => rw [hc] at hk; exact .inl ⟨hk.symm, rfl⟩
  | 1 => rw [hc] at hk; exact .inr (.inl ⟨hk.symm, rfl⟩)
  | 2 => rw [hc] at hk; exact .inr (.inr (.inl ⟨hk.symm, rfl⟩))
  | n + 3 => rw [hc] at hk; exact .inr (.inr (.inr ⟨hk.symm, by omega⟩))
theorem evConv_at {s d : TypeId} {x : Operand} {r : Res} (e : evConv P s d x f h = r) : (cvKd P s d = 0 → evConvP P s d x f h = r) ∧ (cvKd P s d = 1 → evConvR P s d x f h = r) ∧ (cvKd P s d = 2 → evConvQ P s d x f h = r) ∧ (3 ≤ cvKd P s d → r = .no 17) := by
  unfold evConv at e
  refine ⟨fun hc => ?_, fun hc => ?_, fun hc => ?_, fun hc => ?_⟩
  · rw [hc] at e; exact e
  · rw [hc] at e; exact e
  · rw [hc] at e; exact e
  · split at e
    · omega
    · omega
    · omega
    · exact e.symm
theorem evOp_pure (hk : kdOf P op = .pure) (e : evOp P call op f h = .ok v h') : h' = h ∧ Pu P op f v := by
  rw [evOp_eq] at e
  cases op with
  | move x => exact ⟨(evMove_s (P := P) e).1, (evMove_s e).2.1⟩
  | assign x => exact ⟨(evMove_s (P := P) e).1, (evMove_s e).2.2⟩
  | pick c a b => exact evPick_s e
  | build t ps => exact evBuild_s e
  | nilCheck x => exact evNilCheck_s e
  | binOp o t x y yt => exact evBin_s e
  | unOp o t x => exact evUn_s e
  | convert s d x =>
    rcases cvKd_of hk with ⟨_, hc⟩ | ⟨h1, _⟩ | ⟨h1, _⟩ | ⟨h1, _⟩
    · exact evConvP_s ((evConv_at (r := .ok v h') e).1 hc)
    · cases h1
    · cases h1
    · cases h1
  | slice t x lo hi mx =>
    have hk : (bif isArr P t then Kd.read else Kd.pure) = .pure := hk
    rcases bifK hk with ⟨_, h1⟩ | ⟨h1, _⟩
    · cases h1
    · exact (evSlice_s e).1 h1
  | fieldAddr s x i => exact evFieldAddr_s e
  | field s x i => exact evField_s e
  | index t x i => exact evIndex_s e
  | indexAddr t x i => exact evIndexAddr_s e
  | extract x i => exact evExtract_s e
  | makeFunc fn a b => exact evMakeFunc_s e
  | makeInterface t x => exact evMakeInterface_s e
  | typeAssert x xt at_ ok => exact evTypeAssert_s e
  | call c =>
    obtain ⟨ce, args, ts⟩ := c
    cases ce with
    | value x => cases hk
    | invoke r m => cases hk
    | builtin b =>
      cases b <;> first | (cases hk; done) | exact evMin_s e | exact evMax_s e | skip
      have hk : (bif mapTs P ts.toList then Kd.read else Kd.pure) = .pure := hk
      rcases bifK hk with ⟨_, h1⟩ | ⟨h1, _⟩
      · cases h1
      · have e : evLenA P ts.toList (opds f args.toList) h = .ok v h' := e
        unfold evLenA at e
        rw [h1] at e
        exact evLen_s e
  | _ => first | (cases hk; done) | cases e
theorem evOp_read (hk : kdOf P op = .read) (e : evOp P call op f h = .ok v h') : h' = h ∧ Rd P op f v h := by
  rw [evOp_eq] at e
  cases op with
  | load t a => exact evLoad_s e
  | lookup t x i ok => exact evLookup_s e
  | convert s d x =>
    rcases cvKd_of hk with ⟨h1, _⟩ | ⟨_, hc⟩ | ⟨h1, _⟩ | ⟨h1, _⟩
    · cases h1
    · exact evConvR_s ((evConv_at (r := .ok v h') e).2.1 hc)
    · cases h1
    · cases h1
  | slice t x lo hi mx =>
    have hk : (bif isArr P t then Kd.read else Kd.pure) = .read := hk
    rcases bifK hk with ⟨h1, _⟩ | ⟨_, h1⟩
    · exact (evSlice_s e).2 h1
    · cases h1
  | call c =>
    obtain ⟨ce, args, ts⟩ := c
    cases ce with
    | value x => cases hk
    | invoke r m => cases hk
    | builtin b =>
      cases b <;> first | (cases hk; done) | skip
      have hk : (bif mapTs P ts.toList then Kd.read else Kd.pure) = .read := hk
      rcases bifK hk with ⟨h1, _⟩ | ⟨_, h1⟩
      · have e : evLenA P ts.toList (opds f args.toList) h = .ok v h' := e
        unfold evLenA at e
        rw [h1] at e
        unfold mapTs at h1
        split at h1
        · rename_i t hts
          exact evLenM_s h1 (by apply Array.ext'; rw [hts]) e
        · cases h1
      · cases h1
  | _ => first | (cases hk; done) | cases e
theorem evOp_quiet (hk : kdOf P op = .quiet) (e : evOp P call op f h = .ok v h') : Qt P op f v h h' := by
  rw [evOp_eq] at e
  cases op with
  | alloc t => exact evAlloc_s e
  | box t x => exact evBox_s e
  | buildSlice t n ps => exact evBuildSlice_s e
  | makeSlice t l c => exact evMakeSlice_s e
  | makeMap t r => exact evMakeMap_s e
  | slice t x lo hi mx =>
    have hk : (bif isArr P t then Kd.read else Kd.pure) = .quiet := hk
    rcases bifK hk with ⟨_, h1⟩ | ⟨_, h1⟩ <;> cases h1
  | convert s d x =>
    rcases cvKd_of hk with ⟨h1, _⟩ | ⟨h1, _⟩ | ⟨_, hc⟩ | ⟨h1, _⟩
    · cases h1
    · cases h1
    · exact evConvQ_s ((evConv_at (r := .ok v h') e).2.2.1 hc)
    · cases h1
  | call c =>
    obtain ⟨ce, args, ts⟩ := c
    cases ce with
    | value x => cases hk
    | invoke r m => cases hk
    | builtin b =>
      cases b <;> first | (cases hk; done) | skip
      have hk : (bif mapTs P ts.toList then Kd.read else Kd.pure) = .quiet := hk
      rcases bifK hk with ⟨_, h1⟩ | ⟨_, h1⟩ <;> cases h1
  | _ => first | (cases hk; done) | cases e
theorem appL_eq (l m : List AV) : appL l m = l ++ m := by
  induction l with
  | nil => rfl
  | cons a l ih => exact congrArg (a :: ·) ih
theorem MvB.opS (p : MvB P op f v h h') : OpS P op f h v h' := p
theorem evCallV {x : Operand} {args : Array Operand} {ts : Array TypeId} {r : Res} (hc : CallS P call) (e : evOpS P call (.call { callee := .value x, args := args, argTypes := ts }) f h = r) (hr : okR r) :
    (∃ v h', r = .ok v h' ∧ OpS P (.call { callee := .value x, args := args, argTypes := ts }) f h v h') ∨ ∃ v h', r = .pn v h' ∧ OpP P (.call { callee := .value x, args := args, argTypes := ts }) f h v h' := by
  have e2 : (match opd f x with | .fn k cap => (Nat.rec (call.run k (appL (opds f args.toList) cap) h) (fun m _ => evExt P k (Nat.succ m) (appL (opds f args.toList) cap) h) (call.ex k) : Res) | .yv id => call.rd id (opds f args.toList) h | _ => .no 37) = r := e
  clear e
  split at e2
  · rename_i k cap hx
    cases hm : call.ex k with
    | zero =>
      rw [hm] at e2
      have e2 : call.run k (appL (opds f args.toList) cap) h = r := e2
      obtain ⟨⟨fn, hf, hn, hb⟩, hg, hs⟩ := hc.run _ _ _ _ e2 hr
      have ha : ∀ {Φ : Phi} {F : Wf.Fr}, FR Φ f F → ∃ cv : List Value, fe F x = .func (.func k) #[] cv.toArray ∧ RvL Φ (appL (opds f args.toList) cap) (args.toList.map (fe F) ++ cv) := by
        intro Φ F hF
        have hr := opd_sound hF x
        rw [hx] at hr
        obtain ⟨cv, hv, hcv⟩ := hr.fnI
        have hap := (opds_sound hF args.toList).app hcv
        rw [← appL_eq] at hap
        exact ⟨cv, hv, hap⟩
      cases r with
      | no m => exact hr.elim
      | ok v h' =>
        refine .inl ⟨v, h', rfl, hg, fun Φ τ F w dst ty pos after gd hF hR hFr => ?_⟩
        obtain ⟨cv, hv, hap⟩ := ha hF
        refine St.callV hv hf hn hb rfl ((hs Φ τ w _ hR hFr hap).mono ?_)
        intro en w' hh
        cases en with
        | returned y => obtain ⟨v2, h2, e9, hh⟩ := hh; cases e9; exact hh
        | panicked ch => obtain ⟨v2, h2, e9, hh⟩ := hh; cases e9
        | outgrown => exact hh
      | pn v h' =>
        refine .inr ⟨v, h', rfl, hg, fun Φ τ F w dst ty pos after gd hF hR hFr => ?_⟩
        obtain ⟨cv, hv, hap⟩ := ha hF
        refine St.callV hv hf hn hb rfl ((hs Φ τ w _ hR hFr hap).mono ?_)
        intro en w' hh
        cases en with
        | returned y => obtain ⟨v2, h2, e9, hh⟩ := hh; cases e9
        | panicked ch => obtain ⟨v2, h2, e9, hh⟩ := hh; cases e9; exact hh
        | outgrown => exact hh
    | succ m =>
      rw [hm] at e2
      have e2 : evExt P k (m + 1) (appL (opds f args.toList) cap) h = r := e2
      have hX := hc.ex k (by rw [hm]; omega)
      rw [hm] at hX
      cases r with
      | no m => exact hr.elim
      | pn v h' => exact absurd e2 evExt_p
      | ok v h' =>
        obtain ⟨g, s⟩ := evExt_s hX e2
        refine .inl ⟨v, h', rfl, g, fun Φ τ F w dst ty pos after gd hF hR hFr => ?_⟩
        have hr := opd_sound hF x
        rw [hx] at hr
        obtain ⟨cv, hv, hcv⟩ := hr.fnI
        have hap := (opds_sound hF args.toList).app hcv
        rw [← appL_eq] at hap
        obtain ⟨y, w', q1, q2⟩ := s Φ τ w _ hR hFr hap
        unfold St
        have hrun : (execOp (fe F) ⟨dst, .call { callee := .value x, args := args, argTypes := ts }, ty, pos, after, gd⟩).run P w = .ok (.value y) w' := by
          have e3 : execOp (fe F) ⟨dst, .call { callee := .value x, args := args, argTypes := ts }, ty, pos, after, gd⟩ = (do let d ← Deferred.ofValue (fe F x) (args.map (fe F)); invoke d.target d.args) := rfl
          rw [e3, hv]
          have e4 : args.map (fe F) ++ cv.toArray = (args.toList.map (fe F) ++ cv).toArray := by apply Array.ext'; simp
          simp only [Deferred.ofValue, Sem.run_bind, Sem.run_pure, Result.andThen, invoke]
          simp only [Array.empty_append, e4]
          exact q1
        rw [hrun]
        exact q2
  · rename_i id hx
    obtain ⟨v, h', rfl, g, s⟩ := hc.rd _ _ _ _ e2 hr
    refine .inl ⟨v, h', rfl, g, fun Φ τ F w dst ty pos after gd hF hR hFr => ?_⟩
    have hrx := opd_sound hF x
    rw [hx] at hrx
    simp only [Rv] at hrx
    obtain ⟨en, hen, hv⟩ := hrx
    obtain ⟨l, gf, tmps, as0, bo, q1, q2⟩ := s Φ τ w _ en hR hFr (opds_sound hF args.toList) hen
    unfold St
    have hrun : (execOp (fe F) ⟨dst, .call { callee := .value x, args := args, argTypes := ts }, ty, pos, after, gd⟩).run P w = .ok (.round l gf tmps as0 bo) w := by
      have e3 : execOp (fe F) ⟨dst, .call { callee := .value x, args := args, argTypes := ts }, ty, pos, after, gd⟩ = (do let d ← Deferred.ofValue (fe F x) (args.map (fe F)); invoke d.target d.args) := rfl
      rw [e3, hv]
      have e4 : args.map (fe F) = (args.toList.map (fe F)).toArray := by apply Array.ext'; simp
      simp only [Deferred.ofValue, Sem.run_bind, Sem.run_pure, Result.andThen, invoke]
      simp only [Array.empty_append, e4]
      exact q1
    rw [hrun]
    refine RoundIn.mono q2 ?_
    rintro e w' ⟨y, rfl, hh⟩
    exact hh
  · subst e2; exact hr.elim
theorem evOp_s (hc : CallS P call) (e : evOp P call op f h = .ok v h') : OpS P op f h v h' := by
  cases hk : kdOf P op with
  | pure => exact Pu.opS (evOp_pure hk e)
  | read => exact Rd.opS (evOp_read hk e)
  | quiet => exact (evOp_quiet hk e).opS
  | move =>
    rw [evOp_eq] at e
    cases op with
    | store t a x =>
      obtain ⟨g, s⟩ := evStore_s e
      refine ⟨g, fun Φ τ F w dst ty pos after gd hF hR _ => (s Φ τ F w dst ty pos after gd hF hR).mono ?_ fun _ _ h => h⟩
      rintro x w' ⟨h1, h2, h3⟩
      exact ⟨Φ, τ, h1, h2, h3⟩
    | mapUpdate t m k x => exact evMapUpdate_s e
    | insert t m k x => exact evInsert_s e
    | range t x => exact evRange_s e
    | next it st => exact evNext_s e
    | call c =>
      obtain ⟨ce, args, ts⟩ := c
      cases ce with
      | invoke r m => cases e
      | builtin b =>
        cases b <;> first | (cases hk; done) | exact evAppend_s e | exact evCopy_s e | exact evCap_s e | exact evUSData_s e | exact evUStr_s e | (cases e; done) | skip
        have hk : (bif mapTs P ts.toList then Kd.read else Kd.pure) = .move := hk
        rcases bifK hk with ⟨_, h1⟩ | ⟨_, h1⟩ <;> cases h1
      | value x =>
        rcases evCallV hc e trivial with ⟨v2, h2, e9, s⟩ | ⟨v2, h2, e9, s⟩
        · cases e9; exact s
        · cases e9
    | convert s d x =>
      rcases cvKd_of hk with ⟨h1, _⟩ | ⟨h1, _⟩ | ⟨h1, _⟩ | ⟨_, hc⟩
      · cases h1
      · cases h1
      · cases h1
      · have := (evConv_at (r := .ok v h') e).2.2.2 hc
        cases this
    | slice t x lo hi mx =>
      have hk : (bif isArr P t then Kd.read else Kd.pure) = .move := hk
      rcases bifK hk with ⟨_, h1⟩ | ⟨_, h1⟩ <;> cases h1
    | panic x =>
      have e : evPanic x f h = .ok v h' := e
      unfold evPanic at e
      split at e <;> cases e
    | _ => first | (cases hk; done) | cases e
theorem evOp_p (hc : CallS P call) (hp : canPn op = true) (e : evOp P call op f h = .pn v h') : OpP P op f h v h' := by
  rw [evOp_eq] at e
  cases op with
  | panic x =>
    have e : evPanic x f h = .pn v h' := e
    unfold evPanic at e
    split at e
    · rename_i t a hx
      cases e
      refine ⟨fun _ => Grow.refl _, fun Φ τ F w dst ty pos after gd hF hR hFr => ?_⟩
      have hr := opd_sound hF x
      rw [hx] at hr
      have hr' := hr
      simp only [Rv] at hr
      obtain ⟨y, hy, _⟩ := hr
      unfold St
      have hrun : (execOp (fe F) ⟨dst, .panic x, ty, pos, after, gd⟩).run P w = .halt (.panic (fe F x)) w := by
        have e3 : execOp (fe F) ⟨dst, .panic x, ty, pos, after, gd⟩ = (do pure (.value (← Instr.panic (fe F x)))) := rfl
        rw [e3, hy]
        rfl
      rw [hrun]
      exact ⟨_, Φ, τ, rfl, hr', hR, Tw.refl _ _ _ _ _⟩
    · cases e
  | call c =>
    obtain ⟨ce, args, ts⟩ := c
    cases ce with
    | invoke r m => cases hp
    | builtin b => cases hp
    | value x =>
      rcases evCallV hc e trivial with ⟨v2, h2, e9, s⟩ | ⟨v2, h2, e9, s⟩
      · cases e9
      · cases e9; exact s
  | _ => cases hp
theorem mem_opTmps {l : List Operand} {t : Tmp} (h : Operand.tmp t ∈ l) : t ∈ opTmps l := by
  induction l with
  | nil => cases h
  | cons o l ih =>
    cases h with
    | head => exact List.mem_cons_self
    | tail _ h =>
      have := ih h
      cases o with
      | tmp s => exact List.mem_cons_of_mem _ this
      | const _ => exact this
      | global _ => exact this
      | func _ => exact this
def Agr (f f' : Fr) (l : List Operand) : Prop := ∀ t, Operand.tmp t ∈ l → t < 4096 → getF t f = getF t f'
theorem Agr.opd {l : List Operand} {o : Operand} (a : Agr f f' l) (ho : o ∈ l) : Ev.opd f o = Ev.opd f' o := by
  cases o with
  | tmp t =>
    show (Bool.rec AV.u (getF t f) (Nat.ble (Nat.succ t) 4096) : AV) = Bool.rec AV.u (getF t f') (Nat.ble (Nat.succ t) 4096)
    cases e : Nat.ble (Nat.succ t) 4096 with
    | false => rfl
    | true => exact a t ho (Nat.le_of_ble_eq_true e)
  | const v => rfl
  | global g => rfl
  | func k => rfl
theorem Agr.opds {l m : List Operand} (a : Agr f f' l) (hm : ∀ o ∈ m, o ∈ l) : Ev.opds f m = Ev.opds f' m := by
  induction m with
  | nil => rfl
  | cons o m ih =>
    show Ev.opd f o :: Ev.opds f m = Ev.opd f' o :: Ev.opds f' m
    rw [a.opd (hm o (by simp)), ih fun o ho => hm o (by simp [ho])]
theorem Agr.fill {l : List Operand} {place : Nat → Option (Nat × Nat)} {m : List (Nat × Operand)} (a : Agr f f' l) (hm : ∀ p ∈ m, p.2 ∈ l) : fillA place f m = fillA place f' m := by
  induction m with
  | nil => rfl
  | cons p m ih =>
    have h1 := a.opd (hm p (by simp))
    have h2 := ih fun q hq => hm q (by simp [hq])
    funext cs k
    unfold fillA at h2 ⊢
    simp only
    rw [h1, h2]
theorem Agr.bnd {α : Type} {l : List Operand} {o : Option Operand} {d : Nat} {k : Nat → α} {no : α} (a : Agr f f' l) (ho : ∀ x, o = some x → x ∈ l) : Ev.bnd f o d k no = Ev.bnd f' o d k no := by
  unfold Ev.bnd
  cases o with
  | none => rfl
  | some x => simp only; rw [a.opd (ho x rfl)]
theorem evOp_agr (a : Agr f f' op.operands.toList) : evOp P call op f h = evOp P call op f' h := by
  rw [evOp_eq]
  cases op with
  | move x => show Res.ok (opd f x) h = Res.ok (opd f' x) h; rw [a.opd (by simp [Op.operands])]
  | assign x => show Res.ok (opd f x) h = Res.ok (opd f' x) h; rw [a.opd (by simp [Op.operands])]
  | pick c x y =>
    show evPick c x y f h = evPick c x y f' h
    unfold evPick
    rw [a.opd (o := c) (by simp [Op.operands]), a.opd (o := x) (by simp [Op.operands]), a.opd (o := y) (by simp [Op.operands])]
  | alloc t => rfl
  | box t x =>
    show evBox t x f h = evBox t x f' h
    unfold evBox
    rw [a.opd (o := x) (by simp [Op.operands])]
  | build t ps =>
    show evBuild P t ps f h = evBuild P t ps f' h
    unfold evBuild
    simp only [show ∀ pl, fillA pl f ps.toList = fillA pl f' ps.toList from fun pl => a.fill fun p hp => by simp [Op.operands]; exact ⟨p.1, by simpa using hp⟩]
  | buildSlice t n ps =>
    show evBuildSlice P t n ps f h = evBuildSlice P t n ps f' h
    unfold evBuildSlice
    simp only [show ∀ pl, fillA pl f ps.toList = fillA pl f' ps.toList from fun pl => a.fill fun p hp => by simp [Op.operands]; exact ⟨p.1, by simpa using hp⟩]
  | load t x =>
    show evLoad P t x f h = evLoad P t x f' h
    unfold evLoad
    rw [a.opd (o := x) (by simp [Op.operands])]
  | store t x y =>
    show evStore P t x y f h = evStore P t x y f' h
    unfold evStore
    rw [a.opd (o := x) (by simp [Op.operands]), a.opd (o := y) (by simp [Op.operands])]
  | nilCheck x =>
    show evNilCheck x f h = evNilCheck x f' h
    unfold evNilCheck
    rw [a.opd (o := x) (by simp [Op.operands])]
  | binOp o t x y yt =>
    show evBin P o t x y f h = evBin P o t x y f' h
    unfold evBin
    rw [a.opd (o := x) (by simp [Op.operands]), a.opd (o := y) (by simp [Op.operands])]
  | unOp o t x =>
    show evUn o x f h = evUn o x f' h
    unfold evUn
    rw [a.opd (o := x) (by simp [Op.operands])]
  | convert s d x =>
    show evConv P s d x f h = evConv P s d x f' h
    unfold evConv evConvP evConvR evConvQ
    rw [a.opd (o := x) (by simp [Op.operands])]
  | makeFunc fn x y =>
    show evMakeFunc fn x y f h = evMakeFunc fn x y f' h
    unfold evMakeFunc
    rw [a.opds (m := y.toList) fun o ho => by simp [Op.operands]; exact .inr (by simpa using ho)]
  | makeSlice t x y =>
    show evMakeSlice P t x y f h = evMakeSlice P t x y f' h
    unfold evMakeSlice
    rw [a.opd (o := x) (by simp [Op.operands]), a.opd (o := y) (by simp [Op.operands])]
  | slice t x lo hi mx =>
    show evSlice P t x lo hi mx f h = evSlice P t x lo hi mx f' h
    have h1 : ∀ {α : Type} {d : Nat} {k : Nat → α} {no : α}, bnd f lo d k no = bnd f' lo d k no := a.bnd fun x hx => by simp [Op.operands, hx]
    have h2 : ∀ {α : Type} {d : Nat} {k : Nat → α} {no : α}, bnd f hi d k no = bnd f' hi d k no := a.bnd fun x hx => by simp [Op.operands, hx]
    unfold evSlice evSliceP evSliceA
    rw [a.opd (o := x) (by simp [Op.operands])]
    simp only [h1, h2]
  | fieldAddr s x i =>
    show evFieldAddr P s x i f h = evFieldAddr P s x i f' h
    unfold evFieldAddr
    rw [a.opd (o := x) (by simp [Op.operands])]
  | indexAddr t x i =>
    show evIndexAddr P t x i f h = evIndexAddr P t x i f' h
    unfold evIndexAddr
    rw [a.opd (o := x) (by simp [Op.operands]), a.opd (o := i) (by simp [Op.operands])]
  | index t x i =>
    show evIndex P t x i f h = evIndex P t x i f' h
    unfold evIndex
    rw [a.opd (o := x) (by simp [Op.operands]), a.opd (o := i) (by simp [Op.operands])]
  | field s x i =>
    show evField P s x i f h = evField P s x i f' h
    unfold evField
    rw [a.opd (o := x) (by simp [Op.operands])]
  | makeInterface t x =>
    show evMakeInterface P t x f h = evMakeInterface P t x f' h
    unfold evMakeInterface
    rw [a.opd (o := x) (by simp [Op.operands])]
  | typeAssert x xt at_ ok =>
    show evTypeAssert P x at_ ok f h = evTypeAssert P x at_ ok f' h
    unfold evTypeAssert
    rw [a.opd (o := x) (by simp [Op.operands])]
  | panic x =>
    show evPanic x f h = evPanic x f' h
    unfold evPanic
    rw [a.opd (o := x) (by simp [Op.operands])]
  | range t x =>
    show evRange P t x f h = evRange P t x f' h
    unfold evRange
    rw [a.opd (o := x) (by simp [Op.operands])]
  | next x st =>
    show evNext x st f h = evNext x st f' h
    unfold evNext
    rw [a.opd (o := x) (by simp [Op.operands])]
  | lookup t x i ok =>
    show evLookup P t x i ok f h = evLookup P t x i ok f' h
    unfold evLookup
    rw [a.opd (o := x) (by simp [Op.operands]), a.opd (o := i) (by simp [Op.operands])]
  | mapUpdate t x y z =>
    show evMapUpdate P t x y z f h = evMapUpdate P t x y z f' h
    unfold evMapUpdate
    rw [a.opd (o := x) (by simp [Op.operands]), a.opd (o := y) (by simp [Op.operands]), a.opd (o := z) (by simp [Op.operands])]
  | insert t x y z =>
    show evMapUpdate P t x y z f h = evMapUpdate P t x y z f' h
    unfold evMapUpdate
    rw [a.opd (o := x) (by simp [Op.operands]), a.opd (o := y) (by simp [Op.operands]), a.opd (o := z) (by simp [Op.operands])]
  | makeMap t r =>
    show evMakeMap P t r f h = evMakeMap P t r f' h
    unfold evMakeMap
    cases r with
    | none => rfl
    | some x => simp only; rw [a.opd (o := x) (by simp [Op.operands])]
  | extract x i =>
    show evExtract x i f h = evExtract x i f' h
    unfold evExtract
    rw [a.opd (o := x) (by simp [Op.operands])]
  | call c =>
    show evCallOp P call c f h = evCallOp P call c f' h
    have h1 : opds f c.args.toList = opds f' c.args.toList := a.opds fun o ho => by simp only [Op.operands, Call.operands, Array.toList_append]; exact List.mem_append_right _ ho
    unfold evCallOp
    cases hce : c.callee with
    | builtin b => simp only; rw [h1]
    | invoke r m => rfl
    | value x =>
      simp only
      rw [h1, a.opd (o := x) (by simp [Op.operands, Call.operands, hce])]
  | _ => rfl
end
end Go.Ev
namespace Go.Ev
set_option linter.unusedVariables false
set_option linter.unusedSimpArgs false
open Go Go.Wf Go.RowKit
noncomputable def wantB (ops : Array Oper) (g : Option (Nat × Bool)) (f : Fr) : Option Bool := match g with
  | none => some true
  | some p => match (ops[p.1]?).bind (·.dst) with
    | some d => match opd f (.tmp d) with
      | .b c => some (c == p.2)
      | .tp [] => some false
      | _ => none
    | none => none
theorem wantK_eq {α : Type} (ops : Array Oper) (g : Option (Nat × Bool)) (f : Fr) (yes no bad : α) : wantK ops g f yes no bad = match wantB ops g f with | some true => yes | some false => no | none => bad := by
  unfold wantK wantB
  cases g with
  | none => rfl
  | some p =>
    simp only
    cases (ops[p.1]?).bind (·.dst) with
    | none => rfl
    | some d =>
      simp only
      cases opd f (.tmp d) with
      | b c => simp only; cases (c == p.2) <;> rfl
      | tp l => cases l <;> rfl
      | _ => rfl
theorem wantB_s {ops : Array Oper} {o : Oper} {f : Fr} {F : Wf.Fr} {Φ : Phi} {b : Bool} (h : wantB ops o.guard f = some b)
    (hF : ∀ p d, o.guard = some p → (ops[p.1]?).bind (·.dst) = some d → Rv Φ (opd f (.tmp d)) (F d)) : Region.wanted o (yieldedF ops F) = b := by
  unfold wantB at h
  unfold Region.wanted
  cases hg : o.guard with
  | none => rw [hg] at h; simp only at h; cases h; rfl
  | some p =>
    rw [hg] at h
    obtain ⟨j, c0⟩ := p
    simp only at h ⊢
    cases hd : (ops[j]?).bind (·.dst) with
    | none => rw [hd] at h; cases h
    | some d =>
      have hr := hF _ d hg hd
      rw [hd] at h
      simp only at h
      split at h
      · rename_i c hc
        rw [hc] at hr
        cases h
        have := hr.bI
        unfold yieldedF
        rw [hd]
        simp only [Option.map_some, this]
        cases c <;> cases c0 <;> rfl
      · rename_i hc
        rw [hc] at hr
        cases h
        have hv : F d = .tuple #[] := by
          simp only [Rv, RvL] at hr
          obtain ⟨vs, h1, rfl⟩ := hr
          exact h1
        unfold yieldedF
        rw [hd]
        simp only [Option.map_some, hv]
        cases c0 <;> rfl
      · cases h
theorem fr_want {f : Fr} {F : Wf.Fr} {Φ : Phi} (h : FR Φ f F) (d : Tmp) : Rv Φ (opd f (.tmp d)) (F d) := opd_sound h (.tmp d)
def okO : Out → Prop
  | .no _ => False
  | _ => True
theorem setO_s {n : Nat} {d : Option Tmp} {v : AV} {f : Fr} {k : Fr → Out} (e : okO (setO n d v f k)) : ∃ f', setO n d v f k = k f' ∧ lo n d ∧ ((d = none ∧ f' = f) ∨ ∃ t, d = some t ∧ t < n ∧ f' = setF t v f) := by
  unfold setO at e ⊢
  cases d with
  | none => exact ⟨f, rfl, trivial, .inl ⟨rfl, rfl⟩⟩
  | some t =>
    simp only at e ⊢
    cases hb : Nat.blt t n with
    | false => rw [hb] at e; exact e.elim
    | true => exact ⟨_, rfl, of_blt hb, .inr ⟨t, rfl, of_blt hb, rfl⟩⟩
theorem FR.updO {n : Nat} (hn : n ≤ 4096) {d : Option Tmp} {v : AV} {x : Value} {f f' : Fr} {F : Wf.Fr} {Φ : Phi} (h : FR Φ f F) (hv : Rv Φ v x) (hd : (d = none ∧ f' = f) ∨ ∃ t, d = some t ∧ t < n ∧ f' = setF t v f) : FR Φ f' (Wf.updO F d x) := by
  rcases hd with ⟨rfl, rfl⟩ | ⟨t, rfl, ht, rfl⟩
  · exact h
  · exact h.set (Nat.lt_of_lt_of_le ht hn) hv
section
variable {P : Program} {call : CallF} {n : Nat}
def OutQ (Φ : Phi) (τ : Tau) (h : Hp) (w : World) : Out → Wf.Post
  | .nx f' h', .normal, F', w' => ∃ Φ' τ', FR Φ' f' F' ∧ Rel Φ' τ' h' w' ∧ Tw Φ τ h w Φ' τ' h'.n w'
  | .ex i f' h', .exit j, F', w' => i = j ∧ ∃ Φ' τ', FR Φ' f' F' ∧ Rel Φ' τ' h' w' ∧ Tw Φ τ h w Φ' τ' h'.n w'
  | .rt f' h', .ret, F', w' => ∃ Φ' τ', FR Φ' f' F' ∧ Rel Φ' τ' h' w' ∧ Tw Φ τ h w Φ' τ' h'.n w'
  | .pn v f' h', .panic ch, F', w' => ∃ x Φ' τ', ch = [{ v := x, recovered := false }] ∧ Rv Φ' v x ∧ FR Φ' f' F' ∧ Rel Φ' τ' h' w' ∧ Tw Φ τ h w Φ' τ' h'.n w'
  | _, _, _, _ => False
def hpO : Out → Hp → Hp
  | .nx _ h, _ => h
  | .ex _ _ h, _ => h
  | .rt _ h, _ => h
  | .pn _ _ h, _ => h
  | .no _, h => h
theorem hpO_any {o : Out} (e : okO o) (a b : Hp) : hpO o a = hpO o b := by cases o <;> first | rfl | exact e.elim
theorem OutQ.trans {Φ Φ1 : Phi} {τ τ1 : Tau} {h h1 : Hp} {w w1 : World} {o : Out} (t1 : Tw Φ τ h w Φ1 τ1 h1.n w1) (k1 : Grow h h1) (hl : h1.n ≤ big5) (hn : h1.n ≤ (hpO o h1).n) {ex : Exit} {F : Wf.Fr} {w2 : World} (q : OutQ Φ1 τ1 h1 w1 o ex F w2) : OutQ Φ τ h w o ex F w2 := by
  cases o with
  | nx f' h' => cases ex with
    | normal => obtain ⟨Φ', τ', a, b, c⟩ := q; exact ⟨Φ', τ', a, b, t1.trans k1 hn hl c⟩
    | _ => exact q.elim
  | ex i f' h' => cases ex with
    | exit j => obtain ⟨e, Φ', τ', a, b, c⟩ := q; exact ⟨e, Φ', τ', a, b, t1.trans k1 hn hl c⟩
    | _ => exact q.elim
  | rt f' h' => cases ex with
    | ret => obtain ⟨Φ', τ', a, b, c⟩ := q; exact ⟨Φ', τ', a, b, t1.trans k1 hn hl c⟩
    | _ => exact q.elim
  | pn v f' h' => cases ex with
    | panic ch => obtain ⟨x, Φ', τ', e, d, a, b, c⟩ := q; exact ⟨x, Φ', τ', e, d, a, b, t1.trans k1 hn hl c⟩
    | _ => exact q.elim
  | no m => exact q.elim
theorem recR {r : Res} {k kp : AV → Hp → Out} (e : okO (Res.rec k Out.no kp r : Out)) : (∃ v h', r = .ok v h' ∧ (Res.rec k Out.no kp r : Out) = k v h') ∨ ∃ v h', r = .pn v h' ∧ (Res.rec k Out.no kp r : Out) = kp v h' := by
  cases r with
  | ok v h' => exact .inl ⟨v, h', rfl, rfl⟩
  | no m => exact e.elim
  | pn v h' => exact .inr ⟨v, h', rfl, rfl⟩
theorem recR0 {r : Res} {k : AV → Hp → Out} {m : Nat} (e : okO (Res.rec k Out.no (fun _ _ => .no m) r : Out)) : ∃ v h', r = .ok v h' ∧ (Res.rec k Out.no (fun _ _ => .no m) r : Out) = k v h' := by
  rcases recR e with h | ⟨v, h', _, h2⟩
  · exact h
  · rw [h2] at e; exact e.elim
theorem evOps_s (hc : CallS P call) (hn : n ≤ 4096) {ops : Array Oper} : ∀ (l : List Oper) (f : Fr) (h : Hp), okO (evOps P call n ops l f h) →
    Gw h (hpO (evOps P call n ops l f h) h) ∧
    ∀ (Φ : Phi) (τ : Tau) (F : Wf.Fr) (w : World) (Q : Wf.Post), FR Φ f F → Rel Φ τ h w → Fre Φ h.n (hpO (evOps P call n ops l f h) h).n →
      (∀ ex F' w', OutQ Φ τ h w (evOps P call n ops l f h) ex F' w' → Q ex F' w') → Sq P ops n Q l F w := by
  intro l
  induction l with
  | nil => intro f h e; exact ⟨Gw.refl _, fun Φ τ F w Q hF hR _ hQ => hQ .normal F w ⟨Φ, τ, hF, hR, Tw.refl _ _ _ _ _⟩⟩
  | cons o l ih =>
    intro f h e
    have e0 : evOps P call n ops (o :: l) f h = wantK ops o.guard f (Res.rec (fun v h' => setO n o.dst v f fun f' => evOps P call n ops l f' h') Out.no (fun v h' => Bool.rec (.no 61) (.pn v f h') (canPn o.op && loB n o.dst)) (evOp P call o.op f h)) (setO n o.dst (.tp []) f fun f' => evOps P call n ops l f' h) (.no 41) := rfl
    rw [e0, wantK_eq] at e
    rw [e0, wantK_eq]
    cases hw : wantB ops o.guard f with
    | none => rw [hw] at e; exact e.elim
    | some b =>
      rw [hw] at e
      cases b with
      | true =>
        simp only at e ⊢
        rcases recR e with ⟨v, h1, hop, e2⟩ | ⟨v, h1, hop, e2⟩
        · rw [e2] at e ⊢
          obtain ⟨f1, e3, hlo, hd⟩ := setO_s e
          rw [e3] at e ⊢
          obtain ⟨g2, s2⟩ := ih f1 h1 e
          obtain ⟨g1, s1⟩ := evOp_s hc hop
          have g1 : Gw h h1 := g1
          rw [hpO_any e h h1]
          refine ⟨g1.trans g2, fun Φ τ F w Q hF hR hFr hQ => ?_⟩
          have k1 := g1 hR.lim
          have k2 := g2 (k1.lim hR.lim)
          have hw' := wantB_s (Φ := Φ) hw fun p d _ _ => fr_want hF d
          obtain ⟨dst, op, ty, pos, after, gd⟩ := o
          refine ⟨hlo, ?_⟩
          rw [if_pos hw']
          refine (s1 Φ τ F w dst ty pos after gd hF hR fun id h1 h2 => hFr id h1 (Nat.lt_of_lt_of_le h2 k2.le)).mono ?_ fun _ _ h => h.elim
          rintro x w1 ⟨Φ1, τ1, hv, hR1, t1⟩
          refine s2 Φ1 τ1 _ w1 Q ((hF.mono t1.sub).updO hn hv hd) hR1 ?_ ?_
          · intro id q1 q2
            rw [t1.same id (by omega)]
            exact hFr id (Nat.le_trans k1.le q1) q2
          · intro ex F' w' q
            exact hQ ex F' w' (q.trans t1 k1 (k1.lim hR.lim) k2.le)
        · rw [e2] at e ⊢
          cases hp0 : (canPn o.op && loB n o.dst) with
          | false => rw [hp0] at e; exact e.elim
          | true =>
            simp only
            obtain ⟨hp, hp1⟩ := and_t hp0
            obtain ⟨g1, s1⟩ := evOp_p hc hp hop
            have g1 : Gw h h1 := g1
            refine ⟨g1, fun Φ τ F w Q hF hR hFr hQ => ?_⟩
            have hw' := wantB_s (Φ := Φ) hw fun p d _ _ => fr_want hF d
            have hlo : lo n o.dst := by
              cases hd : o.dst with
              | none => trivial
              | some t => rw [hd] at hp1; exact of_blt hp1
            obtain ⟨dst, op, ty, pos, after, gd⟩ := o
            refine ⟨hlo, ?_⟩
            rw [if_pos hw']
            refine (s1 Φ τ F w dst ty pos after gd hF hR hFr).mono (fun _ _ h => h.elim) ?_
            rintro ch w1 ⟨x, Φ1, τ1, rfl, hv, hR1, t1⟩
            exact hQ _ _ _ ⟨x, Φ1, τ1, rfl, hv, hF.mono t1.sub, hR1, t1⟩
      | false =>
        simp only at e ⊢
        obtain ⟨f1, e3, hlo, hd⟩ := setO_s e
        rw [e3] at e ⊢
        obtain ⟨g2, s2⟩ := ih f1 h e
        refine ⟨g2, fun Φ τ F w Q hF hR hFr hQ => ?_⟩
        have hw' := wantB_s (Φ := Φ) hw fun p d _ _ => fr_want hF d
        refine ⟨hlo, ?_⟩
        rw [if_neg (by rw [hw']; simp)]
        exact s2 Φ τ _ w Q (hF.updO hn (by simp only [Rv, RvL]; exact ⟨[], rfl, rfl⟩) hd) hR hFr hQ
end
section
variable {fc : Fence} [Fw fc] {P : Program} {ops : Array Oper} {n : Nat} {D : List Deferred} {Q : Wf.Post} {f0 : Wf.Fr} {w0 : World}
theorem drawI_wp (Inv : Array Bool → Wf.Fr → World → Prop) (back : ∀ (k : Nat) (o : Oper), ops[k]? = some o → ∀ e ∈ o.after, Region.binds .any e = true → e.on < k)
    (hstep : ∀ (L : Array Bool) (i : Nat) (o : Oper) (f : Wf.Fr) (w : World), L.size = ops.size → closedL ops L → ops[i]? = some o → L.getD i true = false → (∀ e ∈ o.after, Region.binds .any e = true → L.getD e.on false = true) → Inv L f w →
      lo n o.dst ∧ OpSt P ops f o w (fun v w' => Inv (L.setIfInBounds i true) (updO f o.dst v) w') (fun _ _ => False))
    (hfin : ∀ L f w, L.size = ops.size → (∀ i, i < ops.size → L.getD i true = true) → Inv L f w → Q .normal f w) :
    ∀ (fuel : Nat) (L : Array Bool) (a : Act) (w : World), unl ops.size L = fuel → L.size = ops.size → closedL ops L → Wf.Good n D a → Inv L (frOf a) w →
      wpAnyIn fc 0 P .any ops (fun e a' w' => Wf.Good n D a' ∧ Q e (frOf a') w') fuel L a w := by
  intro fuel
  have bridge : ∀ (L : Array Bool), L.size = ops.size → ∀ i, i < ops.size → L.getD i false = L.getD i true := by
    intro L hs i hi
    have : L[i]? = some L[i] := by simp [hs, hi]
    simp [Array.getD_eq_getD_getElem?, this]
  induction fuel with
  | zero =>
    intro L a w hu hs hc ha hI
    have hall := unl_zero hu
    refine ⟨?_, ⟨ha, hfin L _ w hs hall hI⟩⟩
    rw [List.eq_nil_iff_forall_not_mem]
    intro i hi
    obtain ⟨h1, h2, _⟩ := ready_mem.1 hi
    rw [hall i h1] at h2; cases h2
  | succ fuel ih =>
    intro L a w hu hs hc ha hI
    refine ⟨?_, ?_⟩
    · intro hnil
      refine ⟨ha, hfin L _ w hs ?_ hI⟩
      intro i hi
      refine Classical.byContradiction fun hne => ?_
      have hex : ∃ i, i < ops.size ∧ L.getD i true = false := ⟨i, hi, by cases hb : L.getD i true with | false => rfl | true => exact absurd hb hne⟩
      have hmin : ∃ i, i < ops.size ∧ L.getD i true = false ∧ ∀ j, j < i → L.getD j true = true := by
        obtain ⟨i, hi, hb⟩ := hex
        clear hne
        induction i using Nat.strongRecOn with
        | _ i ihh =>
          by_cases h : ∃ j, j < i ∧ L.getD j true = false
          · obtain ⟨j, hj, hjb⟩ := h; exact ihh j hj (by omega) hjb
          · refine ⟨i, hi, hb, fun j hj => ?_⟩
            cases hjb : L.getD j true with
            | true => rfl
            | false => exact absurd ⟨j, hj, hjb⟩ h
      obtain ⟨i0, hi0, hb0, hlow⟩ := hmin
      have hr0 : i0 ∈ Region.ready .any ops L := by
        have hok : ops[i0]? = some ops[i0] := by simp [hi0]
        refine ready_mem.2 ⟨hi0, hb0, ops[i0], hok, ?_⟩
        intro e he hbe
        have hlt := back i0 _ hok e he hbe
        rw [bridge L hs _ (by omega)]
        exact hlow _ hlt
      rw [hnil] at hr0; cases hr0
    · intro i hi
      obtain ⟨h1, h2, o, ho, h3⟩ := ready_mem.1 hi
      obtain ⟨hlo, hst⟩ := hstep L i o (frOf a) w hs hc ho h2 h3 hI
      refine wpOp_of (Kv := fun v w' => Inv (L.setIfInBounds i true) (updO (frOf a) o.dst v) w') (Kp := fun _ _ => False) ho ha hst ?_ (fun _ _ h => h.elim)
      intro v w' hK
      refine ih _ _ _ ?_ (by simp [hs]) ?_ (ha.put _ _) (by rw [frOf_put ha _ hlo]; exact hK)
      · have := unl_set hs h1 h2; omega
      · intro k hk hl o' ho' e he hb
        rw [Array.getD_eq_getD_getElem?, Array.getElem?_setIfInBounds]
        by_cases e1 : i = e.on
        · subst e1; simp [hs, h1]
        · simp only [e1, if_false]
          rw [← Array.getD_eq_getD_getElem?]
          by_cases e2 : i = k
          · subst e2; rw [ho] at ho'; cases ho'; exact h3 e he hb
          · rw [Array.getD_eq_getD_getElem?, Array.getElem?_setIfInBounds] at hl
            simp only [e2, if_false] at hl
            rw [← Array.getD_eq_getD_getElem?] at hl
            exact hc k hk hl o' ho' e he hb
theorem W.drawI {id : Nat} (hm : P.follows .mixedOrders = true) (Inv : Array Bool → Wf.Fr → World → Prop) (back : ∀ (k : Nat) (o : Oper), ops[k]? = some o → ∀ e ∈ o.after, Region.binds .any e = true → e.on < k)
    (h0 : Inv (Array.replicate ops.size false) f0 w0.drew)
    (hstep : ∀ (L : Array Bool) (i : Nat) (o : Oper) (f : Wf.Fr) (w : World), L.size = ops.size → closedL ops L → ops[i]? = some o → L.getD i true = false → (∀ e ∈ o.after, Region.binds .any e = true → L.getD e.on false = true) → Inv L f w →
      lo n o.dst ∧ OpSt P ops f o w (fun v w' => Inv (L.setIfInBounds i true) (updO f o.dst v) w') (fun _ _ => False))
    (hfin : ∀ L f w, L.size = ops.size → (∀ i, i < ops.size → L.getD i true = true) → Inv L f w → Q .normal f w) :
    W fc P (Code.region id ops true) n D Q f0 w0 := by
  intro a ha hf
  refine wpIn_region_any hm ?_
  have hz : ∀ i, i < ops.size → (Array.replicate ops.size false).getD i true = false := by
    intro i hi
    simp [Array.getD_eq_getD_getElem?, hi]
  refine drawI_wp Inv back hstep hfin ops.size _ a _ ?_ (by simp) ?_ ha (by rw [hf]; exact h0)
  · unfold unl
    have : (List.range ops.size).countP (fun i => !(Array.replicate ops.size false).getD i true) = (List.range ops.size).length := by
      refine List.countP_eq_length.2 ?_
      intro i hi
      simp [hz i (by simpa using hi)]
    rw [this]; simp
  · intro k hk hl
    rw [hz k hk] at hl; cases hl
end
end Go.Ev
namespace Go.Ev
set_option linter.unusedVariables false
set_option linter.unusedSimpArgs false
open Go Go.Wf Go.RowKit
section
variable {fc : Fence} [Fw fc] {P : Program} {n : Nat} {D : List Deferred} {Q : Wf.Post} {f0 : Wf.Fr} {w0 : World}
def hasE (a : Array Edge) (k : Nat) : Bool := a.toList.any fun e => Region.binds .any e && Nat.beq e.on k
theorem hasE_of {a : Array Edge} {k : Nat} (h : hasE a k = true) : ∃ e ∈ a, Region.binds .any e = true ∧ e.on = k := by
  unfold hasE at h
  rw [List.any_eq_true] at h
  obtain ⟨e, h1, h2⟩ := h
  rw [Bool.and_eq_true] at h2
  exact ⟨e, Array.mem_toList_iff.1 h1, h2.1, Nat.eq_of_beq_eq_true h2.2⟩
def lowE (a : Array Edge) (k : Nat) : Bool := a.toList.all fun e => Nat.blt e.on k
theorem lowE_of {a : Array Edge} {k : Nat} (h : lowE a k = true) {e : Edge} (he : e ∈ a) : e.on < k := by
  unfold lowE at h
  exact Nat.le_of_ble_eq_true (List.all_eq_true.1 h e (Array.mem_toList_iff.2 he))
theorem upd_eq (f : Wf.Fr) (d : Nat) (v : Value) : updO f (some d) v d = v := by show Wf.upd f d v d = v; unfold Wf.upd; rw [if_pos rfl]
theorem upd_ne {f : Wf.Fr} {t d : Nat} (h : t ≠ d) (v : Value) : updO f (some d) v t = f t := by show Wf.upd f d v t = f t; unfold Wf.upd; rw [if_neg h]
theorem W.swapRem {id ty a b c d p q : Nat} {k : IntKind} {x y z : Int} {pos0 pos1 pos2 pos3 pos4 pos5 : String} {t0 t1 t2 t3 t4 t5 yt : TypeId} {e0 e1 e2 e3 e4 e5 : Array Edge}
    (hm : P.follows .mixedOrders = true)
    (hne : (Nat.beq a b || Nat.beq a c || Nat.beq a d || Nat.beq a p || Nat.beq a q || Nat.beq b c || Nat.beq b d || Nat.beq b p || Nat.beq b q || Nat.beq c d || Nat.beq c p || Nat.beq c q || Nat.beq d p || Nat.beq d q || Nat.beq p q) = false)
    (hlo : (Nat.blt a n && Nat.blt b n && Nat.blt c n && Nat.blt d n && Nat.blt p n && Nat.blt q n) = true)
    (hlow : (lowE e0 0 && lowE e1 1 && lowE e2 2 && lowE e3 3 && lowE e4 4 && lowE e5 5) = true)
    (hed : (hasE e3 1 && hasE e3 2 && hasE e4 0 && hasE e4 1 && hasE e5 0 && hasE e5 2 && hasE e5 3) = true)
    (hp : f0 p = .int k x) (hq : f0 q = .int k y) (hy : y ≠ 0) (hz : x.tmod y = z)
    (h : ∀ f, Keep [a, b, c, d, p, q] f0 f → f p = .int k y → f q = .int k z → Q .normal f w0.drew) :
    W fc P (Code.region id #[⟨some a, .move (.tmp q), t0, pos0, e0, none⟩, ⟨some b, .move (.tmp p), t1, pos1, e1, none⟩, ⟨some c, .move (.tmp q), t2, pos2, e2, none⟩,
      ⟨some d, .binOp .rem ty (.tmp b) (.tmp c) yt, t3, pos3, e3, none⟩, ⟨some p, .assign (.tmp a), t4, pos4, e4, none⟩, ⟨some q, .assign (.tmp d), t5, pos5, e5, none⟩] true) n D Q f0 w0 := by
  have ne : ∀ i j, Nat.beq i j = false → i ≠ j := fun i j hh e => by subst e; simp at hh
  simp only [Bool.or_eq_false_iff] at hne
  obtain ⟨⟨⟨⟨⟨⟨⟨⟨⟨⟨⟨⟨⟨⟨ab, ac⟩, ad⟩, ap⟩, aq⟩, bc⟩, bd⟩, bp⟩, bq⟩, cd⟩, cp⟩, cq⟩, dp⟩, dq⟩, pq⟩ := hne
  replace ab := ne _ _ ab; replace ac := ne _ _ ac; replace ad := ne _ _ ad; replace ap := ne _ _ ap; replace aq := ne _ _ aq
  replace bc := ne _ _ bc; replace bd := ne _ _ bd; replace bp := ne _ _ bp; replace bq := ne _ _ bq; replace cd := ne _ _ cd
  replace cp := ne _ _ cp; replace cq := ne _ _ cq; replace dp := ne _ _ dp; replace dq := ne _ _ dq; replace pq := ne _ _ pq
  simp only [Bool.and_eq_true] at hlo hlow hed
  obtain ⟨⟨⟨⟨⟨la, lb⟩, lc⟩, ld⟩, lp⟩, lq⟩ := hlo
  obtain ⟨⟨⟨⟨⟨w0e, w1e⟩, w2e⟩, w3e⟩, w4e⟩, w5e⟩ := hlow
  obtain ⟨⟨⟨⟨⟨⟨h31, h32⟩, h40⟩, h41⟩, h50⟩, h52⟩, h53⟩ := hed
  refine W.drawI hm (fun L f w => w = w0.drew ∧ Keep [a, b, c, d, p, q] f0 f ∧ (L.getD 0 true = true → f a = .int k y) ∧ (L.getD 1 true = true → f b = .int k x) ∧ (L.getD 2 true = true → f c = .int k y) ∧ (L.getD 3 true = true → f d = .int k z) ∧
    (L.getD 4 true = false → f p = .int k x) ∧ (L.getD 4 true = true → f p = .int k y) ∧ (L.getD 5 true = false → f q = .int k y) ∧ (L.getD 5 true = true → f q = .int k z)) ?_ ?_ ?_ ?_
  · intro i o ho e he _
    match i, ho with
    | 0, ho => cases ho; exact lowE_of w0e he
    | 1, ho => cases ho; exact lowE_of w1e he
    | 2, ho => cases ho; exact lowE_of w2e he
    | 3, ho => cases ho; exact lowE_of w3e he
    | 4, ho => cases ho; exact lowE_of w4e he
    | 5, ho => cases ho; exact lowE_of w5e he
    | i + 6, ho => simp at ho
  · refine ⟨rfl, fun _ _ => rfl, ?_, ?_, ?_, ?_, fun _ => hp, ?_, fun _ => hq, ?_⟩ <;> intro hh <;> simp at hh
  · intro L i o f w hs hc ho hi hed hI
    obtain ⟨rfl, hK, i0, i1, i2, i3, i4, i4', i5, i5'⟩ := hI
    have gs : ∀ u v : Nat, u < 6 → (L.setIfInBounds u true).getD v true = if u = v then true else L.getD v true := by
      intro u v hu
      have hs' : L.size = 6 := hs
      rw [Array.getD_eq_getD_getElem?, Array.getElem?_setIfInBounds]
      by_cases e : u = v
      · subst e; simp [hs', hu]
      · rw [if_neg e, if_neg e, Array.getD_eq_getD_getElem?]
    have tf : ∀ u : Nat, u < 6 → L.getD u false = L.getD u true := by
      intro u hu
      have hs' : L.size = 6 := hs
      simp [Array.getD_eq_getD_getElem?, hs', hu]
    have dn : ∀ {u : Nat} (ha : hasE o.after u = true), u < 6 → L.getD u true = true := fun ha hu => by
      obtain ⟨e, he, hb, rfl⟩ := hasE_of ha
      rw [← tf _ hu]; exact hed e he hb
    have nd : ∀ (m u : Nat) (o' : Oper), m < 6 → u < 6 → (#[⟨some a, .move (.tmp q), t0, pos0, e0, none⟩, ⟨some b, .move (.tmp p), t1, pos1, e1, none⟩, ⟨some c, .move (.tmp q), t2, pos2, e2, none⟩,
      ⟨some d, .binOp .rem ty (.tmp b) (.tmp c) yt, t3, pos3, e3, none⟩, ⟨some p, .assign (.tmp a), t4, pos4, e4, none⟩, ⟨some q, .assign (.tmp d), t5, pos5, e5, none⟩] : Array Oper)[m]? = some o' → hasE o'.after u = true → L.getD u true = false → L.getD m true = false := by
      intro m u o' hm6 hu ho' ha hf
      cases hm2 : L.getD m true with
      | false => rfl
      | true =>
        obtain ⟨e, he, hb, rfl⟩ := hasE_of ha
        have h9 := hc m hm6 hm2 o' ho' e he hb
        rw [tf _ hu, hf] at h9; cases h9
    match i, ho, hi with
    | 0, ho, hi =>
      cases ho
      have hv := i5 (nd 5 0 _ (by decide) (by decide) rfl h50 hi)
      refine ⟨Nat.le_of_ble_eq_true la, OpSt.op (St.move ?_)⟩
      refine ⟨rfl, Keep.updO (by simp) hK, ?_, ?_, ?_, ?_, ?_, ?_, ?_, ?_⟩
      · rw [gs 0 0 (by decide)]
        intro _; exact (upd_eq _ _ _).trans hv
      · rw [gs 0 1 (by decide)]
        intro hh; exact (upd_ne (Ne.symm ab) _).trans (i1 (by simpa using hh))
      · rw [gs 0 2 (by decide)]
        intro hh; exact (upd_ne (Ne.symm ac) _).trans (i2 (by simpa using hh))
      · rw [gs 0 3 (by decide)]
        intro hh; exact (upd_ne (Ne.symm ad) _).trans (i3 (by simpa using hh))
      · rw [gs 0 4 (by decide)]
        intro hh; exact (upd_ne (Ne.symm ap) _).trans (i4 (by simpa using hh))
      · rw [gs 0 4 (by decide)]
        intro hh; exact (upd_ne (Ne.symm ap) _).trans (i4' (by simpa using hh))
      · rw [gs 0 5 (by decide)]
        intro hh; exact (upd_ne (Ne.symm aq) _).trans (i5 (by simpa using hh))
      · rw [gs 0 5 (by decide)]
        intro hh; exact (upd_ne (Ne.symm aq) _).trans (i5' (by simpa using hh))
    | 1, ho, hi =>
      cases ho
      have hv := i4 (nd 4 1 _ (by decide) (by decide) rfl h41 hi)
      refine ⟨Nat.le_of_ble_eq_true lb, OpSt.op (St.move ?_)⟩
      refine ⟨rfl, Keep.updO (by simp) hK, ?_, ?_, ?_, ?_, ?_, ?_, ?_, ?_⟩
      · rw [gs 1 0 (by decide)]
        intro hh; exact (upd_ne ab _).trans (i0 (by simpa using hh))
      · rw [gs 1 1 (by decide)]
        intro _; exact (upd_eq _ _ _).trans hv
      · rw [gs 1 2 (by decide)]
        intro hh; exact (upd_ne (Ne.symm bc) _).trans (i2 (by simpa using hh))
      · rw [gs 1 3 (by decide)]
        intro hh; exact (upd_ne (Ne.symm bd) _).trans (i3 (by simpa using hh))
      · rw [gs 1 4 (by decide)]
        intro hh; exact (upd_ne (Ne.symm bp) _).trans (i4 (by simpa using hh))
      · rw [gs 1 4 (by decide)]
        intro hh; exact (upd_ne (Ne.symm bp) _).trans (i4' (by simpa using hh))
      · rw [gs 1 5 (by decide)]
        intro hh; exact (upd_ne (Ne.symm bq) _).trans (i5 (by simpa using hh))
      · rw [gs 1 5 (by decide)]
        intro hh; exact (upd_ne (Ne.symm bq) _).trans (i5' (by simpa using hh))
    | 2, ho, hi =>
      cases ho
      have hv := i5 (nd 5 2 _ (by decide) (by decide) rfl h52 hi)
      refine ⟨Nat.le_of_ble_eq_true lc, OpSt.op (St.move ?_)⟩
      refine ⟨rfl, Keep.updO (by simp) hK, ?_, ?_, ?_, ?_, ?_, ?_, ?_, ?_⟩
      · rw [gs 2 0 (by decide)]
        intro hh; exact (upd_ne ac _).trans (i0 (by simpa using hh))
      · rw [gs 2 1 (by decide)]
        intro hh; exact (upd_ne bc _).trans (i1 (by simpa using hh))
      · rw [gs 2 2 (by decide)]
        intro _; exact (upd_eq _ _ _).trans hv
      · rw [gs 2 3 (by decide)]
        intro hh; exact (upd_ne (Ne.symm cd) _).trans (i3 (by simpa using hh))
      · rw [gs 2 4 (by decide)]
        intro hh; exact (upd_ne (Ne.symm cp) _).trans (i4 (by simpa using hh))
      · rw [gs 2 4 (by decide)]
        intro hh; exact (upd_ne (Ne.symm cp) _).trans (i4' (by simpa using hh))
      · rw [gs 2 5 (by decide)]
        intro hh; exact (upd_ne (Ne.symm cq) _).trans (i5 (by simpa using hh))
      · rw [gs 2 5 (by decide)]
        intro hh; exact (upd_ne (Ne.symm cq) _).trans (i5' (by simpa using hh))
    | 3, ho, hi =>
      cases ho
      have hb := i1 (dn h31 (by decide))
      have hc2 := i2 (dn h32 (by decide))
      refine ⟨Nat.le_of_ble_eq_true ld, OpSt.op (St.rem hb hc2 hy hz ?_)⟩
      refine ⟨rfl, Keep.updO (by simp) hK, ?_, ?_, ?_, ?_, ?_, ?_, ?_, ?_⟩
      · rw [gs 3 0 (by decide)]
        intro hh; exact (upd_ne ad _).trans (i0 (by simpa using hh))
      · rw [gs 3 1 (by decide)]
        intro hh; exact (upd_ne bd _).trans (i1 (by simpa using hh))
      · rw [gs 3 2 (by decide)]
        intro hh; exact (upd_ne cd _).trans (i2 (by simpa using hh))
      · rw [gs 3 3 (by decide)]
        intro _; exact (upd_eq _ _ _).trans rfl
      · rw [gs 3 4 (by decide)]
        intro hh; exact (upd_ne (Ne.symm dp) _).trans (i4 (by simpa using hh))
      · rw [gs 3 4 (by decide)]
        intro hh; exact (upd_ne (Ne.symm dp) _).trans (i4' (by simpa using hh))
      · rw [gs 3 5 (by decide)]
        intro hh; exact (upd_ne (Ne.symm dq) _).trans (i5 (by simpa using hh))
      · rw [gs 3 5 (by decide)]
        intro hh; exact (upd_ne (Ne.symm dq) _).trans (i5' (by simpa using hh))
    | 4, ho, hi =>
      cases ho
      have hv := i0 (dn h40 (by decide))
      refine ⟨Nat.le_of_ble_eq_true lp, OpSt.op (St.assign ?_)⟩
      refine ⟨rfl, Keep.updO (by simp) hK, ?_, ?_, ?_, ?_, ?_, ?_, ?_, ?_⟩
      · rw [gs 4 0 (by decide)]
        intro hh; exact (upd_ne ap _).trans (i0 (by simpa using hh))
      · rw [gs 4 1 (by decide)]
        intro hh; exact (upd_ne bp _).trans (i1 (by simpa using hh))
      · rw [gs 4 2 (by decide)]
        intro hh; exact (upd_ne cp _).trans (i2 (by simpa using hh))
      · rw [gs 4 3 (by decide)]
        intro hh; exact (upd_ne dp _).trans (i3 (by simpa using hh))
      · rw [gs 4 4 (by decide)]
        intro hh; simp at hh
      · rw [gs 4 4 (by decide)]
        intro _; exact (upd_eq _ _ _).trans hv
      · rw [gs 4 5 (by decide)]
        intro hh; exact (upd_ne (Ne.symm pq) _).trans (i5 (by simpa using hh))
      · rw [gs 4 5 (by decide)]
        intro hh; exact (upd_ne (Ne.symm pq) _).trans (i5' (by simpa using hh))
    | 5, ho, hi =>
      cases ho
      have hv := i3 (dn h53 (by decide))
      refine ⟨Nat.le_of_ble_eq_true lq, OpSt.op (St.assign ?_)⟩
      refine ⟨rfl, Keep.updO (by simp) hK, ?_, ?_, ?_, ?_, ?_, ?_, ?_, ?_⟩
      · rw [gs 5 0 (by decide)]
        intro hh; exact (upd_ne aq _).trans (i0 (by simpa using hh))
      · rw [gs 5 1 (by decide)]
        intro hh; exact (upd_ne bq _).trans (i1 (by simpa using hh))
      · rw [gs 5 2 (by decide)]
        intro hh; exact (upd_ne cq _).trans (i2 (by simpa using hh))
      · rw [gs 5 3 (by decide)]
        intro hh; exact (upd_ne dq _).trans (i3 (by simpa using hh))
      · rw [gs 5 4 (by decide)]
        intro hh; exact (upd_ne pq _).trans (i4 (by simpa using hh))
      · rw [gs 5 4 (by decide)]
        intro hh; exact (upd_ne pq _).trans (i4' (by simpa using hh))
      · rw [gs 5 5 (by decide)]
        intro hh; simp at hh
      · rw [gs 5 5 (by decide)]
        intro _; exact (upd_eq _ _ _).trans hv
    | i + 6, ho, hi => simp at ho
  · intro L f w hs hall hI
    obtain ⟨rfl, hK, _, _, _, _, _, i4', _, i5'⟩ := hI
    exact h f hK (i4' (hall 4 (by simp))) (i5' (hall 5 (by simp)))
end
end Go.Ev
namespace Go.Wf
open Go Go.Proofs Go.RowKit
set_option maxRecDepth 100000
set_option linter.unusedVariables false
set_option linter.unusedSimpArgs false
set_option maxHeartbeats 1000000 in
theorem c_exactZ {X : Nat → Prop} {w : World} (hX : ∀ b, X b → b < w.heap.size) {v0 : Value} {a : GInt} (r0 : RV intTy X w v0 a) {v1 : Value} {b : GInt} (r1 : RV intTy X w v1 b) (hla : a.mag.length ≤ 274877906944) (hlb : b.mag.length ≤ 274877906944) (hb0 : val b.mag ≠ 0) (hd : a.toZ % b.toZ = 0) : Calls Tryz.prog 145 #[v0, v1] w (Ret w fun v w' => (∃ v0 v1, v = .tuple #[v0, v1] ∧ (RV intTy X w' v0 (ofZ (a.toZ / b.toZ))) ∧ (v1 = (.int .i64 0)))) := by
 obtain ⟨a1, c2, rfl, h3⟩ := RV.int r0
 obtain ⟨a4, c5, rfl, h6⟩ := RV.int r1
 have C := Cx.start hX
 have sa := r0.int_small
 have sb := r1.int_small
 have hr0 : (ofZ (a.toZ % b.toZ)).mag.length = 0 := by rw [hd]; rfl
 refine Calls.ofW (args := [(.agg #[(.bool a.neg), (.slice a1 a.mag.length c2)]), (.agg #[(.bool b.neg), (.slice a4 b.mag.length c5)])]) Tryz.func145 rfl rfl (Nat.le_of_ble_eq_true rfl) (Rg (O rfl (St.boxC C rfl ?_)))
 intro g7 w8 x9 y10 lt11 C12 s13 o14
 replace h3 := h3.sp s13
 replace h6 := h6.sp s13
 refine O rfl (St.boxC C12 rfl ?_)
 intro g15 w16 x17 y18 lt19 C20 s21 o22
 refine O rfl (St.allocC C20 io26 rfl ?_)
 intro g24 w25 x26 y27 lt28 C29 s30 o31
 replace h3 := (h3.sp s21).sp s30
 replace h6 := (h6.sp s21).sp s30
 replace o14 := (o14.spn s21).spn s30
 replace o22 := o22.spn s30
 refine Oa (Nl (Rg (O rfl (St.loadOA (vs := [(.bool a.neg), (.slice a1 a.mag.length c2)]) o14 ag26 rfl rfl rfl (O rfl (St.loadOA (vs := [(.bool b.neg), (.slice a4 b.mag.length c5)]) o22 ag26 rfl rfl rfl (O rfl (St.callR C29 cb26 rfl rfl (c_divmodZ C29.bd (a := a) (mkInt h3) (b := b) (mkInt h6) hla hlb hb0) ?_))))))))
 intro v34 w35 C36 s37 h38
 replace o31 := o31.spn s37
 obtain ⟨v39, v40, v41, rfl, h42, h43, rfl⟩ := h38
 obtain ⟨a45, c46, rfl, h47⟩ := RV.int h42
 obtain ⟨a48, c49, rfl, h50⟩ := RV.int h43
 refine Om (O rfl (St.extract rfl rfl (O rfl (St.extract rfl rfl (O rfl (St.extract rfl rfl (O rfl (St.allocC C36 io26 rfl ?_))))))))
 intro g51 w52 x53 y54 lt55 C56 s57 o58
 have n61 := lt55 _ o31.blk.lt
 replace h47 := h47.sp s57
 replace o31 := o31.spn s57
 refine O rfl (St.allocC C56 io26 rfl ?_)
 intro g62 w63 x64 y65 lt66 C67 s68 o69
 have n72 := lt66 _ o31.blk.lt
 have n73 := lt66 _ o58.blk.lt
 replace o31 := o31.spn s68
 replace o58 := o58.spn s68
 refine On (St.storeC (cs' := [(.bool (ofZ (a.toZ / b.toZ)).neg), (.slice a45 (ofZ (a.toZ / b.toZ)).mag.length c46)]) C67 o58 io26 rfl rfl rfl rfl rfl rfl ?_)
 intro w74 C75 s76 o77
 replace h47 := (h47.sp s68).sp s76
 replace o69 := o69.spo s76 (Ne.symm n73)
 refine On (St.storeC (cs' := [(.bool (ofZ (a.toZ % b.toZ)).neg), (.slice a48 (ofZ (a.toZ % b.toZ)).mag.length c49)]) C75 o69 io26 rfl rfl rfl rfl rfl rfl ?_)
 intro w78 C79 s80 o81
 replace o31 := (o31.spo s76 n61).spo s80 n72
 replace o77 := o77.spo s80 n73
 refine Oa (Nl (Rh (Om (O rfl (St.neq (t := false) rfl rfl (by rw [decide_eq_true rfl]; rfl) (Nl (W.condF rfl (W.skip (Rh (O rfl (St.fieldAddr fo26_1 rfl (O rfl (St.loadO1 o81 pl24 rfl rfl (O rfl (St.len sl24 rfl (O rfl (St.gtr (t := false) rfl rfl (decide_eq_false (by omega)) (Nl ?_))))))))))))))))))
 refine W.condF rfl (W.skip (Rg (O rfl (St.loadOA (vs := [(.bool (ofZ (a.toZ / b.toZ)).neg), (.slice a45 (ofZ (a.toZ / b.toZ)).mag.length c46)]) o77 ag26 rfl rfl rfl (On (St.storeC (cs' := [(.bool (ofZ (a.toZ / b.toZ)).neg), (.slice a45 (ofZ (a.toZ / b.toZ)).mag.length c46)]) C79 o31 io26 rfl rfl rfl rfl rfl rfl ?_))))))
 intro w82 C83 s84 o85
 replace h47 := (h47.sp s80).sp s84
 refine Oa (Nl (W.ret (ret_2 rfl (resV.c o85 rfl ag26 rfl) (resV.t rfl) (Ret.intro ?_ C83.below))))
 refine ⟨_, _, rfl, ?_, ?_⟩
 · skip
   exact RV.eqv (a := (ofZ (a.toZ / b.toZ))) ((mkInt h47).tr (Tr.weak C83.base)) rfl
 · skip
   rfl
set_option maxHeartbeats 1000000 in
theorem c_common {X : Nat → Prop} {w : World} (hX : ∀ b, X b → b < w.heap.size) {v0 : Value} {a : List Nat} (r0 : RS u32Ty X w v0 a) {v1 : Value} {b : List Nat} (r1 : RS u32Ty X w v1 b) (ha : trim a = a) (hb : trim b = b) (hla : a.length ≤ 549755813888) (hlb : b.length ≤ 549755813888) : Calls Tryz.prog 66 #[v0, v1] w (Ret w fun v w' => RS u32Ty X w' v (digs (Nat.gcd (val a) (val b)))) := by
 obtain ⟨a1, c2, rfl, _, _⟩ := r0.len
 obtain ⟨a3, c4, rfl, _, _⟩ := r1.len
 have C := Cx.start hX
 refine Calls.ofW (args := [(.slice a1 a.length c2), (.slice a3 b.length c4)]) Tryz.func66 rfl rfl (Nat.le_of_ble_eq_true rfl) (Rg (Oa (Nl (W.seq (W.block (W.loopN (fun μ f v => ∃ (x y : Nat → Prop) (p : Option Addr) (pc : Nat) (q : Option Addr) (qc : Nat) (A : List Nat) (B : List Nat), Cx X w x y v ∧ f 0 = (.slice p A.length pc) ∧ f 1 = (.slice q B.length qc) ∧ RS u32Ty x v (.slice p A.length pc) A ∧ RS u32Ty x v (.slice q B.length qc) B ∧ trim A = A ∧ trim B = B ∧ A.length ≤ 549755813888 ∧ B.length ≤ 549755813888 ∧ Nat.gcd (val A) (val B) = Nat.gcd (val a) (val b) ∧ μ = (val B)) _ ⟨_, _, a1, c2, a3, c4, a, b, C, rfl, rfl, r0, r1, ha, hb, hla, hlb, rfl, rfl⟩ ?_))))))
 rintro m13 f5 w6 ⟨x7, y8, p, pc, q, qc, A, B, C9, e10, e11, hA, hB, hAt, hBt, hlA, hlB, hg, hmu12⟩
 obtain ⟨f14, rfl⟩ := rebK (aC e10 (aC e11 aN))
 clear e10 e11
 have sA := hA.u32_small
 have sB := hB.u32_small
 refine Rh (Om (O rfl (St.len sl24 rfl (O rfl (St.gtr2 rfl rfl (fun hc15 => ?_) (fun hc15 => ?_))))))
 · refine Nl (W.condT rfl (W.skip (W.block (Rh (Om (O rfl (St.len sl24 rfl (O rfl (St.leq2 rfl rfl (fun hc16 => ?_) (fun hc16 => ?_))))))))))
   · refine Om (Og rfl rfl (St.move (Og rfl rfl (St.len sl24 rfl (Og rfl rfl (St.leq2 rfl rfl (fun hc17 => ?_) (fun hc17 => ?_)))))))
     · refine OT (Nl (W.condT rfl (Rg (Om (O rfl (St.callR C9 cb92 rfl rfl (c_word C9.bd hA (by omega)) ?_))))))
       intro v18 w19 C20 s21 h22
       replace hB := hB.sp s21
       subst h22
       refine Om (O rfl (St.callR C20 cb92 rfl rfl (c_word C20.bd hB (by omega)) ?_))
       intro v23 w24 C25 s26 h27
       replace hA := (hA.sp s21).sp s26
       replace hB := hB.sp s26
       subst h27
       refine Oa (Oa (Nl (W.seq (W.block (W.loopN (fun μ f v => ∃ (x y : Nat → Prop) (xx : Nat) (yy : Nat), Cx X w x y v ∧ f 0 = (.slice p A.length pc) ∧ f 1 = (.slice q B.length qc) ∧ f 9 = (.slice q B.length qc) ∧ f 10 = (.int .i64 ((B.length : Nat) : Int)) ∧ f 11 = (.bool true) ∧ f 12 = (.slice p A.length pc) ∧ f 13 = (.int .i64 ((A.length : Nat) : Int)) ∧ f 14 = (.bool true) ∧ f 15 = (.bool true) ∧ f 16 = (.slice q B.length qc) ∧ f 17 = (.int .i64 ((B.length : Nat) : Int)) ∧ f 18 = (.bool true) ∧ f 19 = (.bool true) ∧ f 20 = (.slice p A.length pc) ∧ f 21 = (.int .u64 (((val A) : Nat) : Int)) ∧ f 22 = (.slice q B.length qc) ∧ f 23 = (.int .u64 (((val B) : Nat) : Int)) ∧ f 5 = (.int .u64 ((xx : Nat) : Int)) ∧ f 6 = (.int .u64 ((yy : Nat) : Int)) ∧ RS u32Ty x v (.slice p A.length pc) A ∧ RS u32Ty x v (.slice q B.length qc) B ∧ xx < 18446744073709551616 ∧ yy < 18446744073709551616 ∧ Nat.gcd xx yy = Nat.gcd (val a) (val b) ∧ μ = yy) _ ⟨_, _, (val A), (val B), C25, rfl, rfl, rfl, rfl, rfl, rfl, rfl, rfl, rfl, rfl, rfl, rfl, rfl, rfl, rfl, rfl, rfl, rfl, rfl, hA, hB, (val_small2 sA (by omega)), (val_small2 sB (by omega)), hg, rfl⟩ ?_)))))
       rintro m53 f28 w29 ⟨x30, y31, xx, yy, C32, e33, e34, e35, e36, e37, e38, e39, e40, e41, e42, e43, e44, e45, e46, e47, e48, e49, e50, e51, hA, hB, hx, hy, hxy, hmu52⟩
       obtain ⟨f54, rfl⟩ := rebK (aC e33 (aC e34 (aC e35 (aC e36 (aC e37 (aC e38 (aC e39 (aC e40 (aC e41 (aC e42 (aC e43 (aC e44 (aC e45 (aC e46 (aC e47 (aC e48 (aC e49 (aC e50 (aC e51 aN)))))))))))))))))))
       clear e33 e34 e35 e36 e37 e38 e39 e40 e41 e42 e43 e44 e45 e46 e47 e48 e49 e50 e51
       refine Rh (Om (O rfl (St.neq2 rfl rfl (fun hc55 => ?_) (fun hc55 => ?_))))
       · refine Nl (W.condT rfl (W.skip (W.block (Go.Ev.W.swapRem mixed rfl rfl (by kernel_rfl) (by kernel_rfl) rfl rfl (by omega) (nat_rem xx yy) ?_))))
         intro f56 hK57 hp58 hq59
         have R60 := RC.draw C32
         have C61 := R60.cx
         have S62 := R60.sp
         replace hA := hA.sp S62
         replace hB := hB.sp S62
         have hK57 : Keep [26, 27, 28, 29, 5, 6] _ f56 := hK57
         obtain ⟨f63, rfl⟩ := mixK hK57 (aC hp58 (aC hq59 aN))
         refine ⟨_, (by have := Nat.mod_lt xx (show 0 < yy by omega); omega), _, _, yy, xx % yy, C61, rfl, rfl, rfl, rfl, rfl, rfl, rfl, rfl, rfl, rfl, rfl, rfl, rfl, rfl, rfl, rfl, rfl, rfl, rfl, hA, hB, hy, (by have := Nat.mod_lt xx (show 0 < yy by omega); omega), (by rw [gcd_step, hxy]), rfl⟩
       refine Nl (W.condF rfl (W.exit (Rg (Om (O rfl (St.callR C32 cb51 rfl rfl (c_wide C32.bd (n := xx) hx) ?_))))))
       intro v65 w66 C67 s68 h69
       obtain ⟨a70, c71, rfl, _, _⟩ := h69.len
       exact Oa (Nl (W.ret (ret_1 rfl (resV.t rfl) (Ret.intro (RS.eqv ((h69 : RS _ _ _ _ _).tr (Tr.weak C67.base)) ((by rw [← hxy, show yy = 0 by omega, Nat.gcd_zero_right]))) C67.below))))
     refine OT (Nl (W.condF rfl (W.skip (W.seq ?_))))
     have hBn : B ≠ [] := by rintro rfl; simp at hc15
     have hBp : 0 < val B := Nat.lt_of_lt_of_le (Nat.pow_pos (by decide)) (trim_top hBt hBn)
     refine W.region (Om (Om (O rfl (St.callR C9 cb53 rfl rfl (c_divide C9.bd hA hB hAt hBt hBn hlA hlB) ?_))))
     intro v72 w73 C74 s75 h76
     replace hB := hB.sp s75
     obtain ⟨v77, v78, rfl, h79, h80⟩ := h76
     obtain ⟨a81, c82, rfl, _, _⟩ := h79.len
     obtain ⟨a83, c84, rfl, _, _⟩ := h80.len
     refine Om (O rfl (St.extract rfl rfl (O rfl (St.extract rfl rfl (Oa (Oa (Nl (W.region (Om (Om (Oa (Oa (Nl (⟨_, (by rw [val_digs]; have := Nat.mod_lt (val A) hBp; omega), _, _, q, qc, a83, c84, B, (digs (val A % val B)), C74, rfl, rfl, hB, h80, hBt, (trim_digs _), hlB, (Nat.le_trans (digs_mod_len sB hBp) hlB), (by rw [val_digs, gcd_step, hg]), rfl⟩))))))))))))))
   refine Om (Ox rfl rfl rfl (Ox rfl rfl rfl (Ox rfl rfl rfl (OF (Nl (W.condF rfl (W.skip (W.seq ?_))))))))
   have hBn : B ≠ [] := by rintro rfl; simp at hc15
   have hBp : 0 < val B := Nat.lt_of_lt_of_le (Nat.pow_pos (by decide)) (trim_top hBt hBn)
   refine W.region (Om (Om (O rfl (St.callR C9 cb53 rfl rfl (c_divide C9.bd hA hB hAt hBt hBn hlA hlB) ?_))))
   intro v85 w86 C87 s88 h89
   replace hB := hB.sp s88
   obtain ⟨v90, v91, rfl, h92, h93⟩ := h89
   obtain ⟨a94, c95, rfl, _, _⟩ := h92.len
   obtain ⟨a96, c97, rfl, _, _⟩ := h93.len
   refine Om (O rfl (St.extract rfl rfl (O rfl (St.extract rfl rfl (Oa (Oa (Nl (W.region (Om (Om (Oa (Oa (Nl (⟨_, (by rw [val_digs]; have := Nat.mod_lt (val A) hBp; omega), _, _, q, qc, a96, c97, B, (digs (val A % val B)), C87, rfl, rfl, hB, h93, hBt, (trim_digs _), hlB, (Nat.le_trans (digs_mod_len sB hBp) hlB), (by rw [val_digs, gcd_step, hg]), rfl⟩))))))))))))))
 refine Nl (W.condF rfl (W.exit (Rg (Om (O rfl (St.callR C9 cb63 rfl rfl (c_cloneU C9.bd hA (by omega)) ?_))))))
 intro v98 w99 C100 s101 h102
 obtain ⟨a103, c104, rfl, _, _⟩ := h102.len
 exact Oa (Nl (W.ret (ret_1 rfl (resV.t rfl) (Ret.intro (RS.eqv ((h102 : RS _ _ _ _ _).tr (Tr.weak C100.base)) ((by rw [← hg, show val B = 0 by rw [List.eq_nil_of_length_eq_zero (show B.length = 0 by omega)]; rfl, Nat.gcd_zero_right]; exact canon hAt sA))) C100.below))))
set_option maxHeartbeats 1000000 in
theorem c_gcdZ {X : Nat → Prop} {w : World} (hX : ∀ b, X b → b < w.heap.size) {v0 : Value} {a : GInt} (r0 : RV intTy X w v0 a) {v1 : Value} {b : GInt} (r1 : RV intTy X w v1 b) (hla : a.mag.length ≤ 549755813888) (hlb : b.mag.length ≤ 549755813888) : Calls Tryz.prog 34 #[v0, v1] w (Ret w fun v w' => RV intTy X w' v (ofZ (Int.gcd a.toZ b.toZ : Int))) := by
 obtain ⟨a1, c2, rfl, h3⟩ := RV.int r0
 obtain ⟨a4, c5, rfl, h6⟩ := RV.int r1
 have C := Cx.start hX
 have sa := r0.int_small
 have sb := r1.int_small
 have tla := trim_length_le a.mag
 have tlb := trim_length_le b.mag
 have gl := gcd_len (small_trim sa) (small_trim sb)
 refine Calls.ofW (args := [(.agg #[(.bool a.neg), (.slice a1 a.mag.length c2)]), (.agg #[(.bool b.neg), (.slice a4 b.mag.length c5)])]) Tryz.func34 rfl rfl (Nat.le_of_ble_eq_true rfl) (Rg (O rfl (St.boxC C rfl ?_)))
 intro g7 w8 x9 y10 lt11 C12 s13 o14
 refine O rfl (St.boxC C12 rfl ?_)
 intro g15 w16 x17 y18 lt19 C20 s21 o22
 replace h3 := (h3.sp s13).sp s21
 replace h6 := (h6.sp s13).sp s21
 replace o14 := o14.spn s21
 refine O rfl (St.allocC C20 io26 rfl ?_)
 intro g24 w25 x26 y27 lt28 C29 s30 o31
 refine Nl (W.seq (W.drawC mixed 5 [[], [0], [1], [], [3]] C29 [fx (.pointer (some ⟨g7, 1, none⟩)), fx (.slice a1 a.mag.length c2), fs u32Ty (trim a.mag), fx (.pointer (some ⟨g15, 1, none⟩)), fx (.slice a4 b.mag.length c5)] (by kernel_rfl) ⟨sx, sx, ss, sx, sx, trivial⟩ fun f42 s43 w44 ⟨C47, S48⟩ k46 => ?_))
 replace h3 := (h3.sp s30).sp S48
 replace h6 := (h6.sp s30).sp S48
 replace o14 := (o14.spn s30).spn S48
 replace o22 := (o22.spn s30).spn S48
 have k46 : Keep [5, 6, 7, 8, 9] _ f42 := k46
 refine ⟨⟨fun _ => ?_, fun ⟨e52, _⟩ => ?_, fun ⟨e53, _⟩ => ?_, fun _ => ?_, fun ⟨e54, _⟩ => ?_, trivial⟩, fun ⟨e55, e56, d57, e58, e59, _⟩ => ?_⟩
 · exact stepD k46 aN fun _ => OpSt.op (St.fieldAddr fo26_1 rfl ⟨s43, RC.same C47, rfl⟩)
 · exact stepD k46 (aC e52 aN) fun _ => OpSt.op (St.loadO1 o14 pl24 rfl rfl ⟨s43, RC.same C47, rfl⟩)
 · refine stepD k46 (aC e53 aN) fun _ => OpSt.op (St.callR C47 cb52 rfl rfl (c_trimmed C47.bd h3 (by omega)) ?_)
   intro v61 w62 C63 s64 h65
   exact ⟨s43, ⟨C63, s64⟩, h65⟩
 · exact stepD k46 aN fun _ => OpSt.op (St.fieldAddr fo26_1 rfl ⟨s43, RC.same C47, rfl⟩)
 · exact stepD k46 (aC e54 aN) fun _ => OpSt.op (St.loadO1 o22 pl24 rfl rfl ⟨s43, RC.same C47, rfl⟩)
 obtain ⟨a67, c68, e66, d57⟩ := RS.opn d57
 obtain ⟨f69, rfl⟩ := mixK k46 (aC e55 (aC e56 (aC e66 (aC e58 (aC e59 aN)))))
 refine O rfl (St.callR C47 cb52 rfl rfl (c_trimmed C47.bd h6 (by omega)) ?_)
 intro v70 w71 C72 s73 h74
 replace d57 := d57.sp s73
 replace o31 := (o31.spn S48).spn s73
 obtain ⟨a75, c76, rfl, _, _⟩ := h74.len
 refine O rfl (St.callR C72 cb66 rfl rfl (c_common C72.bd d57 h74 (trim_trim sa) (trim_trim sb) (by omega) (by omega)) ?_)
 intro v77 w78 C79 s80 h81
 obtain ⟨a82, c83, rfl, _, _⟩ := h81.len
 refine O rfl (St.callR C79 cb50 rfl rfl (c_signed C79.bd h81 (by omega)) ?_)
 intro v84 w85 C86 s87 h88
 replace o31 := (o31.spn s80).spn s87
 obtain ⟨a89, c90, rfl, h91⟩ := RV.int h88
 refine On (St.storeC (cs' := [(.bool (mkSg false (digs (Nat.gcd (val (trim a.mag)) (val (trim b.mag))))).neg), (.slice a89 (mkSg false (digs (Nat.gcd (val (trim a.mag)) (val (trim b.mag))))).mag.length c90)]) C86 o31 io26 rfl rfl rfl rfl rfl rfl ?_)
 intro w92 C93 s94 o95
 replace h91 := h91.sp s94
 refine Nl (W.ret (ret_1 rfl (resV.c o95 rfl ag26 rfl) (Ret.intro ?_ C93.below)))
 exact RV.eqv (a := (mkSg false (digs (Nat.gcd (val (trim a.mag)) (val (trim b.mag)))))) ((mkInt h91).tr (Tr.weak C93.base)) (by exact mkSg_val (small_digs _) (by rw [val_digs, val_trim, val_trim, ← toZ_natAbs, ← toZ_natAbs]; rfl))
set_option maxHeartbeats 1000000 in
theorem c_ofI {X : Nat → Prop} {w : World} (hX : ∀ b, X b → b < w.heap.size) {n : Int} (hlo : -9223372036854775808 ≤ n) (hhi : n ≤ 9223372036854775807) : Calls Tryz.prog 25 #[(.int .i64 n)] w (Ret w fun v w' => RV intTy X w' v (ofZ n)) := by
 have C := Cx.start hX
 have hd2 : (digs n.natAbs).length ≤ 2 := digs_length_le (by omega)
 refine Calls.ofW (args := [(.int .i64 n)]) Tryz.func25 rfl rfl (Nat.le_of_ble_eq_true rfl) (Rg (O rfl (St.allocC C io26 rfl ?_)))
 intro g1 w2 x3 y4 lt5 C6 s7 o8
 refine Nl (Rh (Om (O rfl (St.lss2 rfl rfl (fun hc9 => ?_) (fun hc9 => ?_)))))
 · refine Nl (W.condT rfl (Rg (Om (O rfl (St.conv (z := (n + 18446744073709551616)) us3 un60 rfl (by rw [IntKind.wrap_u64]; omega) (O rfl (St.neg (z := ((n.natAbs : Nat) : Int)) rfl (by rw [IntKind.wrap_u64]; omega) (O rfl (St.callR C6 cb51 rfl rfl (c_wide C6.bd (n := n.natAbs) (by omega)) ?_)))))))))
   intro v10 w11 C12 s13 h14
   obtain ⟨a15, c16, rfl, _, _⟩ := h14.len
   refine O rfl (St.callR C12 cb50 rfl rfl (c_signed C12.bd h14 (by omega)) ?_)
   intro v17 w18 C19 s20 h21
   replace o8 := (o8.spn s13).spn s20
   obtain ⟨a22, c23, rfl, h24⟩ := RV.int h21
   refine On (St.storeC (cs' := [(.bool (mkSg true (digs n.natAbs)).neg), (.slice a22 (mkSg true (digs n.natAbs)).mag.length c23)]) C19 o8 io26 rfl rfl rfl rfl rfl rfl ?_)
   intro w25 C26 s27 o28
   replace h24 := h24.sp s27
   refine Nl (W.ret (ret_1 rfl (resV.c o28 rfl ag26 rfl) (Ret.intro ?_ C26.below)))
   exact RV.eqv (a := (mkSg true (digs n.natAbs))) ((mkInt h24).tr (Tr.weak C26.base)) (by exact mkSg_val (small_digs _) (by rw [val_digs]; simp [zsign]; omega))
 refine Nl (W.condF rfl (W.skip (Rg (Om (O rfl (St.conv (z := ((n.natAbs : Nat) : Int)) us3 un60 rfl (by rw [IntKind.wrap_u64]; omega) (O rfl (St.callR C6 cb51 rfl rfl (c_wide C6.bd (n := n.natAbs) (by omega)) ?_))))))))
 intro v29 w30 C31 s32 h33
 obtain ⟨a34, c35, rfl, _, _⟩ := h33.len
 refine O rfl (St.callR C31 cb50 rfl rfl (c_signed C31.bd h33 (by omega)) ?_)
 intro v36 w37 C38 s39 h40
 replace o8 := (o8.spn s32).spn s39
 obtain ⟨a41, c42, rfl, h43⟩ := RV.int h40
 refine On (St.storeC (cs' := [(.bool (mkSg false (digs n.natAbs)).neg), (.slice a41 (mkSg false (digs n.natAbs)).mag.length c42)]) C38 o8 io26 rfl rfl rfl rfl rfl rfl ?_)
 intro w44 C45 s46 o47
 replace h43 := h43.sp s46
 refine Nl (W.ret (ret_1 rfl (resV.c o47 rfl ag26 rfl) (Ret.intro ?_ C45.below)))
 exact RV.eqv (a := (mkSg false (digs n.natAbs))) ((mkInt h43).tr (Tr.weak C45.base)) (by exact mkSg_val (small_digs _) (by rw [val_digs]; simp [zsign]; omega))
end Go.Wf
namespace Go.Wf
set_option linter.unusedVariables false
set_option linter.unusedSimpArgs false
open Go
theorem ofZ_one : ofZ 1 = ⟨false, [1]⟩ := by
  unfold ofZ
  rw [show (1 : Int).natAbs = 1 from rfl, digs_one (by decide) (by decide)]; rfl
theorem len_one {m : List Nat} (h : ((m.length : Nat) : Int) = 1) : m = [m.getD 0 0] := by
  match m, h with
  | [d], _ => rfl
  | [], h => simp at h
  | _ :: _ :: _, h => simp at h; omega
theorem one_r0 {a : GInt} (h1 : ((a.mag.length : Nat) : Int) = 1) (h2 : ((a.mag.getD 0 0 : Nat) : Int) = 1) : (!a.neg) = decide (a = ofZ 1) := by
  have e := len_one h1
  have h2 : a.mag.getD 0 0 = 1 := by omega
  rw [h2] at e
  obtain ⟨n, m⟩ := a
  have e : m = [1] := e
  subst e
  rw [ofZ_one]
  cases n <;> simp
theorem one_r1 {a : GInt} (h2 : ¬ ((a.mag.getD 0 0 : Nat) : Int) = 1) : false = decide (a = ofZ 1) := by
  refine (decide_eq_false fun e => h2 ?_).symm
  rw [e, ofZ_one]; rfl
theorem one_r2 {a : GInt} (h1 : ¬ ((a.mag.length : Nat) : Int) = 1) : false = decide (a = ofZ 1) := by
  refine (decide_eq_false fun e => h1 ?_).symm
  rw [e, ofZ_one]; rfl
theorem ofZ_eq_one {z : Int} : ofZ z = ofZ 1 ↔ z = 1 := ⟨fun h => ofZ_inj h, fun h => by rw [h]⟩
theorem toZ_mag_len {a : GInt} (sa : small a.mag) : (ofZ a.toZ).mag.length ≤ a.mag.length := by
  rw [ofZ_mag, toZ_natAbs]; exact digs_length_le (val_lt _ sa)
theorem neg_mag (z : Int) : (ofZ (-z)).mag = (ofZ z).mag := by rw [ofZ_mag, ofZ_mag, Int.natAbs_neg]
theorem digs_mono {a b : Nat} (h : a ≤ b) : (digs a).length ≤ (digs b).length := digs_length_le (Nat.lt_of_le_of_lt h (val_digs_lt b))
theorem ofZ_mono {y z : Int} (h : y.natAbs ≤ z.natAbs) : (ofZ y).mag.length ≤ (ofZ z).mag.length := digs_mono h
theorem ofZ_len_zero {z : Int} : (ofZ z).mag.length = 0 ↔ z = 0 := by
  rw [ofZ_mag, List.length_eq_zero_iff, digs_nil_iff, Int.natAbs_eq_zero]
theorem ofZ_val (z : Int) : val (ofZ z).mag = z.natAbs := val_digs _
theorem gcd_mag {n d : Int} (hd : d ≠ 0) : (ofZ (Int.gcd n d : Int)).mag.length ≤ (ofZ d).mag.length :=
  ofZ_mono (by
    have : Int.gcd n d ∣ d.natAbs := Nat.gcd_dvd_right _ _
    have h2 := Nat.le_of_dvd (by omega) this
    simpa using h2)
theorem gcd_ne {n d : Int} (hd : d ≠ 0) : ((Int.gcd n d : Nat) : Int) ≠ 0 := by
  have := Int.gcd_pos_of_ne_zero_right n hd
  omega
theorem gcd_mod_l (n d : Int) : n % ((Int.gcd n d : Nat) : Int) = 0 := Int.emod_eq_zero_of_dvd (Int.gcd_dvd_left _ _)
theorem gcd_mod_r (n d : Int) : d % ((Int.gcd n d : Nat) : Int) = 0 := Int.emod_eq_zero_of_dvd (Int.gcd_dvd_right _ _)
theorem over_zero {n d : Int} (h : d = 0 ∨ n = 0) : (⟨⟨false, []⟩, ofZ 1⟩ : GRat) = ofQ (Rat.divInt n d) := by
  rcases h with rfl | rfl
  · exact (low_zero_den n).symm
  · exact (low_zero_num d).symm
theorem over_one {n d : Int} (h : d = 1) : (⟨ofZ n, ofZ d⟩ : GRat) = ofQ (Rat.divInt n d) := (low_one h).symm
theorem over_cop {n d : Int} (hd : 0 < d) (h : ((Int.gcd n d : Nat) : Int) = 1) : (⟨ofZ n, ofZ d⟩ : GRat) = ofQ (Rat.divInt n d) := (low_coprime hd (by omega)).symm
theorem over_gcd {n d : Int} (hd : 0 < d) : (⟨ofZ (n / ((Int.gcd n d : Nat) : Int)), ofZ (d / ((Int.gcd n d : Nat) : Int))⟩ : GRat) = ofQ (Rat.divInt n d) := (low_pos hd).symm
theorem over_neg (n d : Int) : Rat.divInt (-n) (-d) = Rat.divInt n d := Rat.neg_divInt_neg n d
end Go.Wf
namespace Go.Wf
open Go Go.Proofs Go.RowKit
set_option maxRecDepth 100000
set_option linter.unusedVariables false
set_option linter.unusedSimpArgs false
theorem RV.rat_small {X : Nat → Prop} {w : World} {v : Value} {a : GRat} (h : RV ratTy X w v a) : small a.num.mag ∧ small a.den.mag := by
  obtain ⟨s, c, s2, c2, rfl, h2, h3⟩ := RV.rat h
  exact ⟨h2.u32_small, h3.u32_small⟩
set_option maxHeartbeats 1000000 in
theorem c_one {X : Nat → Prop} {w : World} (hX : ∀ b, X b → b < w.heap.size) {v0 : Value} {a : GInt} (r0 : RV intTy X w v0 a)  : Calls Tryz.prog 65 #[v0] w (Ret w fun v w' => v = (.bool (decide (a = ofZ 1)))) := by
 obtain ⟨a1, c2, rfl, h3⟩ := RV.int r0
 have C := Cx.start hX
 have sa := r0.int_small
 refine Calls.ofW (args := [(.agg #[(.bool a.neg), (.slice a1 a.mag.length c2)])]) Tryz.func65 rfl rfl (Nat.le_of_ble_eq_true rfl) (Rg (O rfl (St.boxC C rfl ?_)))
 intro g4 w5 x6 y7 lt8 C9 s10 o11
 replace h3 := h3.sp s10
 refine Oa (Nl (Rg (O rfl (St.fieldAddr fo26_1 rfl (O rfl (St.loadO1 o11 pl24 rfl rfl (O rfl (St.len sl24 rfl (O rfl (St.eql2 rfl rfl (fun hc12 => ?_) (fun hc12 => ?_)))))))))))
 · refine Om (Og rfl rfl (St.fieldAddr fo26_1 rfl (Og rfl rfl (St.loadO1 o11 pl24 rfl rfl (Og rfl rfl (St.idx (j := 0) (u := (a.mag.getD 0 0)) h3 sl24 io61 rfl rfl rfl (getSome (by omega)) ?_))))))
   intro b13 o14 cs15 e16
   obtain ⟨rfl, bd17⟩ : cs15 = _ ∧ _ := e16.rd
   refine Og rfl rfl (St.load1 pl61 rfl (e16.cell 0 _ rfl) (Og rfl rfl (St.eql2 rfl rfl (fun hc18 => ?_) (fun hc18 => ?_))))
   · exact OT (Om (Og rfl rfl (St.fieldAddr fo26_0 rfl (Og rfl rfl (St.loadO1 o11 pl4 rfl rfl (Og rfl rfl (St.not rfl (OT (Oa (Nl (W.ret (ret_1 rfl (resV.t rfl) (Ret.intro (congrArg (Value.bool) (one_r0 hc12 hc18)) C9.below)))))))))))))
   exact OT (Om (Ox rfl rfl rfl (Ox rfl rfl rfl (Ox rfl rfl rfl (OF (Oa (Nl (W.ret (ret_1 rfl (resV.t rfl) (Ret.intro (congrArg (Value.bool) (one_r1 hc18)) C9.below))))))))))
 exact Om (Ox rfl rfl rfl (Ox rfl rfl rfl (Ox rfl rfl rfl (Ox rfl rfl rfl (Ox rfl rfl rfl (OF (Om (Ox rfl rfl rfl (Ox rfl rfl rfl (Ox rfl rfl rfl (OF (Oa (Nl (W.ret (ret_1 rfl (resV.t rfl) (Ret.intro (congrArg (Value.bool) (one_r2 hc12)) C9.below))))))))))))))))
set_option maxHeartbeats 1000000 in
theorem c_over {X : Nat → Prop} {w : World} (hX : ∀ b, X b → b < w.heap.size) {v0 : Value} {n : GInt} (r0 : RV intTy X w v0 n) {v1 : Value} {d : GInt} (r1 : RV intTy X w v1 d) (hln : n.mag.length ≤ 274877906944) (hld : d.mag.length ≤ 274877906944) : Calls Tryz.prog 100 #[v0, v1] w (Ret w fun v w' => RV ratTy X w' v (ofQ (Rat.divInt n.toZ d.toZ))) := by
 obtain ⟨a1, c2, rfl, h3⟩ := RV.int r0
 obtain ⟨a4, c5, rfl, h6⟩ := RV.int r1
 have C := Cx.start hX
 have sn := r0.int_small
 have sd := r1.int_small
 have hN := toZ_mag_len sn
 have hD := toZ_mag_len sd
 refine Calls.ofW (args := [(.agg #[(.bool n.neg), (.slice a1 n.mag.length c2)]), (.agg #[(.bool d.neg), (.slice a4 d.mag.length c5)])]) Tryz.func100 rfl rfl (Nat.le_of_ble_eq_true rfl) (Rg (O rfl (St.boxC C rfl ?_)))
 intro g7 w8 x9 y10 lt11 C12 s13 o14
 refine O rfl (St.boxC C12 rfl ?_)
 intro g15 w16 x17 y18 lt19 C20 s21 o22
 have n23 := lt19 _ o14.blk.lt
 replace h3 := (h3.sp s13).sp s21
 replace h6 := (h6.sp s13).sp s21
 replace o14 := o14.spn s21
 refine O rfl (St.allocC C20 io28 rfl ?_)
 intro g24 w25 x26 y27 lt28 C29 s30 o31
 have n32 := lt28 _ o14.blk.lt
 have n33 := lt28 _ o22.blk.lt
 refine Nl (W.seq (W.drawC mixed 3 [[], [0], []] C29 [fx (.agg #[(.bool n.neg), (.slice a1 n.mag.length c2)]), fr intTy (ofZ n.toZ), fx (.agg #[(.bool d.neg), (.slice a4 d.mag.length c5)])] (by kernel_rfl) ⟨sx, sr, sx, trivial⟩ fun f43 s44 w45 ⟨C48, S49⟩ k47 => ?_))
 replace h3 := (h3.sp s30).sp S49
 replace h6 := (h6.sp s30).sp S49
 replace o14 := (o14.spn s30).spn S49
 replace o22 := (o22.spn s30).spn S49
 have k47 : Keep [6, 7, 8] _ f43 := k47
 refine ⟨⟨fun _ => ?_, fun ⟨e53, _⟩ => ?_, fun _ => ?_, trivial⟩, fun ⟨e54, d55, e56, _⟩ => ?_⟩
 · exact stepD k47 aN fun _ => OpSt.op (St.loadOA (vs := [(.bool n.neg), (.slice a1 n.mag.length c2)]) o14 ag26 rfl rfl rfl ⟨s44, RC.same C48, rfl⟩)
 · refine stepD k47 (aC e53 aN) fun _ => OpSt.op (St.callR C48 cb143 rfl rfl (c_normal C48.bd (a := n) (mkInt h3) (by omega)) ?_)
   intro v58 w59 C60 s61 h62
   exact ⟨s44, ⟨C60, s61⟩, h62⟩
 · exact stepD k47 aN fun _ => OpSt.op (St.loadOA (vs := [(.bool d.neg), (.slice a4 d.mag.length c5)]) o22 ag26 rfl rfl rfl ⟨s44, RC.same C48, rfl⟩)
 obtain ⟨a64, c65, e63, h66⟩ := RV.int d55
 obtain ⟨f67, rfl⟩ := mixK k47 (aC e54 (aC e63 (aC e56 aN)))
 refine O rfl (St.callR C48 cb143 rfl rfl (c_normal C48.bd (a := d) (mkInt h6) (by omega)) ?_)
 intro v68 w69 C70 s71 h72
 replace o14 := o14.spn s71
 replace o31 := (o31.spn S49).spn s71
 obtain ⟨a73, c74, rfl, h75⟩ := RV.int h72
 refine On (St.storeC (cs' := [(.bool (ofZ n.toZ).neg), (.slice a64 (ofZ n.toZ).mag.length c65)]) C70 o14 io26 rfl rfl rfl rfl rfl rfl ?_)
 intro w76 C77 s78 o79
 replace h66 := (h66.sp s71).sp s78
 replace o22 := (o22.spn s71).spo s78 (Ne.symm n23)
 refine On (St.storeC (cs' := [(.bool (ofZ d.toZ).neg), (.slice a73 (ofZ d.toZ).mag.length c74)]) C77 o22 io26 rfl rfl rfl rfl rfl rfl ?_)
 intro w80 C81 s82 o83
 replace h75 := (h75.sp s78).sp s82
 replace o79 := o79.spo s82 n23
 replace o31 := (o31.spo s78 (Ne.symm n32)).spo s82 (Ne.symm n33)
 refine Nl (W.seq (W.block (Rg (O rfl (St.fieldAddr fo26_1 rfl (O rfl (St.loadO1 o83 pl24 rfl rfl (O rfl (St.len sl24 rfl (O rfl (St.eql2 rfl rfl (fun hc84 => ?_) (fun hc84 => ?_))))))))))))
 · refine Om (Ox rfl rfl rfl (Ox rfl rfl rfl (Ox rfl rfl rfl (Ox rfl rfl rfl (OT (Oa (Nl (W.condT rfl (Rg (O rfl (St.callR C81 cb25 rfl rfl (c_ofI C81.bd (by decide) (by decide)) ?_)))))))))))
   intro v85 w86 C87 s88 h89
   replace o31 := o31.spn s88
   obtain ⟨a90, c91, rfl, h92⟩ := RV.int h89
   refine O rfl (St.build (cs := [(.bool false), (.slice none 0 0), (.bool (ofZ 1).neg), (.slice a90 (ofZ 1).mag.length c91)]) rfl (by kernel_rfl) (On (St.storeC (cs' := [(.bool false), (.slice none 0 0), (.bool (ofZ 1).neg), (.slice a90 (ofZ 1).mag.length c91)]) C87 o31 io28 rfl rfl rfl rfl rfl rfl ?_)))
   intro w93 C94 s95 o96
   replace h92 := h92.sp s95
   refine Nl (W.ret (ret_1 rfl (resV.c o96 rfl ag28 rfl) (Ret.intro ?_ C94.below)))
   exact RV.eqv (a := (⟨⟨false, []⟩, ⟨(ofZ 1).neg, (ofZ 1).mag⟩⟩ : GRat)) ((mkRat RS.nil h92).tr (Tr.weak C94.base)) ((over_zero (by first | (left; exact ofZ_len_zero.1 (by omega)) | (right; exact ofZ_len_zero.1 (by omega)))))
 refine Om (Og rfl rfl (St.fieldAddr fo26_1 rfl (Og rfl rfl (St.loadO1 o79 pl24 rfl rfl (Og rfl rfl (St.len sl24 rfl (Og rfl rfl (St.eql2 rfl rfl (fun hc97 => ?_) (fun hc97 => ?_)))))))))
 · refine OF (Oa (Nl (W.condT rfl (Rg (O rfl (St.callR C81 cb25 rfl rfl (c_ofI C81.bd (by decide) (by decide)) ?_))))))
   intro v98 w99 C100 s101 h102
   replace o31 := o31.spn s101
   obtain ⟨a103, c104, rfl, h105⟩ := RV.int h102
   refine O rfl (St.build (cs := [(.bool false), (.slice none 0 0), (.bool (ofZ 1).neg), (.slice a103 (ofZ 1).mag.length c104)]) rfl (by kernel_rfl) (On (St.storeC (cs' := [(.bool false), (.slice none 0 0), (.bool (ofZ 1).neg), (.slice a103 (ofZ 1).mag.length c104)]) C100 o31 io28 rfl rfl rfl rfl rfl rfl ?_)))
   intro w106 C107 s108 o109
   replace h105 := h105.sp s108
   refine Nl (W.ret (ret_1 rfl (resV.c o109 rfl ag28 rfl) (Ret.intro ?_ C107.below)))
   exact RV.eqv (a := (⟨⟨false, []⟩, ⟨(ofZ 1).neg, (ofZ 1).mag⟩⟩ : GRat)) ((mkRat RS.nil h105).tr (Tr.weak C107.base)) ((over_zero (by first | (left; exact ofZ_len_zero.1 (by omega)) | (right; exact ofZ_len_zero.1 (by omega)))))
 refine OF (Oa (Nl (W.condF rfl (W.seq ?_))))
 have hd0 : d.toZ ≠ 0 := fun e => hc84 (by have := ofZ_len_zero.2 e; omega)
 refine W.region (O rfl (St.fieldAddr fo26_0 rfl (O rfl (St.bool (St.loadO1 o83 pl4 rfl rfl ⟨_, rfl, fun hb110 => ?_, fun hb110 => ?_⟩)))))
 · refine Oa (Nl (W.condT rfl ?_))
   have hdp : 0 < -d.toZ := by have hh := hb110; rw [ofZ_neg, decide_eq_true_eq] at hh; omega
   refine W.drawC mixed 3 [[], [0], []] C81 [fx (.agg #[(.bool (ofZ n.toZ).neg), (.slice a64 (ofZ n.toZ).mag.length c65)]), fr intTy (ofZ (-n.toZ)), fx (.agg #[(.bool (ofZ d.toZ).neg), (.slice a73 (ofZ d.toZ).mag.length c74)])] (by kernel_rfl) ⟨sx, sr, sx, trivial⟩ fun f120 s121 w122 ⟨C125, S126⟩ k124 => ?_
   replace h66 := (h66.sp s82).sp S126
   replace h75 := h75.sp S126
   replace o79 := o79.spn S126
   replace o83 := o83.spn S126
   replace o31 := o31.spn S126
   have k124 : Keep [26, 27, 28] _ f120 := k124
   refine ⟨⟨fun _ => ?_, fun ⟨e130, _⟩ => ?_, fun _ => ?_, trivial⟩, fun ⟨e131, d132, e133, _⟩ => ?_⟩
   · exact stepD k124 aN fun _ => OpSt.op (St.loadOA (vs := [(.bool (ofZ n.toZ).neg), (.slice a64 (ofZ n.toZ).mag.length c65)]) o79 ag26 rfl rfl rfl ⟨s121, RC.same C125, rfl⟩)
   · refine stepD k124 (aC e130 aN) fun _ => OpSt.op (St.callR C125 cb144 rfl rfl (c_negI C125.bd (a := (ofZ n.toZ)) (mkInt h66) (by omega)) ?_)
     intro v135 w136 C137 s138 h139
     simp only [toZ_ofZ, ofQ_q] at h139
     exact ⟨s121, ⟨C137, s138⟩, h139⟩
   · exact stepD k124 aN fun _ => OpSt.op (St.loadOA (vs := [(.bool (ofZ d.toZ).neg), (.slice a73 (ofZ d.toZ).mag.length c74)]) o83 ag26 rfl rfl rfl ⟨s121, RC.same C125, rfl⟩)
   obtain ⟨a141, c142, e140, h143⟩ := RV.int d132
   obtain ⟨f144, rfl⟩ := mixK k124 (aC e131 (aC e140 (aC e133 aN)))
   refine O rfl (St.callR C125 cb144 rfl rfl (c_negI C125.bd (a := (ofZ d.toZ)) (mkInt h75) (by omega)) ?_)
   intro v145 w146 C147 s148 h149
   replace o79 := o79.spn s148
   simp only [toZ_ofZ, ofQ_q] at h149
   obtain ⟨a150, c151, rfl, h152⟩ := RV.int h149
   refine On (St.storeC (cs' := [(.bool (ofZ (-n.toZ)).neg), (.slice a141 (ofZ (-n.toZ)).mag.length c142)]) C147 o79 io26 rfl rfl rfl rfl rfl rfl ?_)
   intro w153 C154 s155 o156
   replace h143 := (h143.sp s148).sp s155
   replace o83 := (o83.spn s148).spo s155 (Ne.symm n23)
   replace o31 := (o31.spn s148).spo s155 (Ne.symm n32)
   refine On (St.storeC (cs' := [(.bool (ofZ (-d.toZ)).neg), (.slice a150 (ofZ (-d.toZ)).mag.length c151)]) C154 o83 io26 rfl rfl rfl rfl rfl rfl ?_)
   intro w157 C158 s159 o160
   replace h152 := (h152.sp s155).sp s159
   refine Nl (Rh (O rfl (St.loadOA (vs := [(.bool (ofZ (-d.toZ)).neg), (.slice a150 (ofZ (-d.toZ)).mag.length c151)]) o160 ag26 rfl rfl rfl (O rfl (St.bool (St.callR C158 cb65 rfl rfl (c_one C158.bd (a := (ofZ (-d.toZ))) (mkInt h152)) ?_))))))
   intro v161 w162 C163 s164 h165
   replace h143 := (h143.sp s159).sp s164
   replace h152 := h152.sp s164
   replace o156 := (o156.spo s159 n23).spn s164
   replace o160 := o160.spn s164
   replace o31 := (o31.spo s159 (Ne.symm n33)).spn s164
   refine ⟨_, h165, fun hb166 => ?_, fun hb166 => ?_⟩
   · refine Nl (W.condT rfl (Rg (O rfl (St.loadOA (vs := [(.bool (ofZ (-n.toZ)).neg), (.slice a141 (ofZ (-n.toZ)).mag.length c142)]) o156 ag26 rfl rfl rfl (O rfl (St.loadOA (vs := [(.bool (ofZ (-d.toZ)).neg), (.slice a150 (ofZ (-d.toZ)).mag.length c151)]) o160 ag26 rfl rfl rfl (O rfl (St.build (cs := [(.bool (ofZ (-n.toZ)).neg), (.slice a141 (ofZ (-n.toZ)).mag.length c142), (.bool (ofZ (-d.toZ)).neg), (.slice a150 (ofZ (-d.toZ)).mag.length c151)]) rfl (by kernel_rfl) ?_))))))))
     refine On (St.storeC (cs' := [(.bool (ofZ (-n.toZ)).neg), (.slice a141 (ofZ (-n.toZ)).mag.length c142), (.bool (ofZ (-d.toZ)).neg), (.slice a150 (ofZ (-d.toZ)).mag.length c151)]) C163 o31 io28 rfl rfl rfl rfl rfl rfl ?_)
     intro w167 C168 s169 o170
     replace h143 := h143.sp s169
     replace h152 := h152.sp s169
     refine Nl (W.ret (ret_1 rfl (resV.c o170 rfl ag28 rfl) (Ret.intro ?_ C168.below)))
     exact RV.eqv (a := (⟨⟨(ofZ (-n.toZ)).neg, (ofZ (-n.toZ)).mag⟩, ⟨(ofZ (-d.toZ)).neg, (ofZ (-d.toZ)).mag⟩⟩ : GRat)) ((mkRat h143 h152).tr (Tr.weak C168.base)) (Eq.trans ((by first | exact over_one (ofZ_eq_one.1 (of_decide_eq_true (by assumption))) | exact over_cop hdp (ofZ_eq_one.1 (of_decide_eq_true (by assumption))))) (congrArg ofQ (over_neg _ _)))
   refine Nl (W.condF rfl (W.skip (W.seq (W.seq ?_))))
   have hgm := gcd_mag (n := (-n.toZ)) (d := (-d.toZ)) (by omega)
   have hgn := gcd_ne (n := (-n.toZ)) (d := (-d.toZ)) (by omega)
   refine W.region (O rfl (St.loadOA (vs := [(.bool (ofZ (-n.toZ)).neg), (.slice a141 (ofZ (-n.toZ)).mag.length c142)]) o156 ag26 rfl rfl rfl (O rfl (St.loadOA (vs := [(.bool (ofZ (-d.toZ)).neg), (.slice a150 (ofZ (-d.toZ)).mag.length c151)]) o160 ag26 rfl rfl rfl (O rfl (St.callR C163 cb34 rfl rfl (c_gcdZ C163.bd (a := (ofZ (-n.toZ))) (mkInt h143) (b := (ofZ (-d.toZ))) (mkInt h152) (by first | omega | (rw [neg_mag]; omega)) (by first | omega | (rw [neg_mag]; omega))) ?_))))))
   intro v171 w172 C173 s174 h175
   replace o156 := o156.spn s174
   replace o160 := o160.spn s174
   replace o31 := o31.spn s174
   simp only [toZ_ofZ, ofQ_q] at h175
   obtain ⟨a176, c177, rfl, h178⟩ := RV.int h175
   refine O rfl (St.allocC C173 io26 rfl ?_)
   intro g179 w180 x181 y182 lt183 C184 s185 o186
   have n187 := lt183 _ o156.blk.lt
   have n188 := lt183 _ o160.blk.lt
   have n189 := lt183 _ o31.blk.lt
   replace h143 := (h143.sp s174).sp s185
   replace h152 := (h152.sp s174).sp s185
   replace o156 := o156.spn s185
   replace o160 := o160.spn s185
   replace o31 := o31.spn s185
   refine On (St.storeC (cs' := [(.bool (ofZ (Int.gcd (-n.toZ) (-d.toZ) : Int)).neg), (.slice a176 (ofZ (Int.gcd (-n.toZ) (-d.toZ) : Int)).mag.length c177)]) C184 o186 io26 rfl rfl rfl rfl rfl rfl ?_)
   intro w190 C191 s192 o193
   replace h178 := (h178.sp s185).sp s192
   refine Nl (Rg (O rfl (St.loadOA (vs := [(.bool (ofZ (Int.gcd (-n.toZ) (-d.toZ) : Int)).neg), (.slice a176 (ofZ (Int.gcd (-n.toZ) (-d.toZ) : Int)).mag.length c177)]) o193 ag26 rfl rfl rfl (O rfl (St.bool (St.callR C191 cb65 rfl rfl (c_one C191.bd (a := (ofZ (Int.gcd (-n.toZ) (-d.toZ) : Int))) (mkInt h178)) ?_))))))
   intro v194 w195 C196 s197 h198
   replace h143 := (h143.sp s192).sp s197
   replace h152 := (h152.sp s192).sp s197
   replace h178 := h178.sp s197
   replace o156 := (o156.spo s192 n187).spn s197
   replace o160 := (o160.spo s192 n188).spn s197
   replace o31 := (o31.spo s192 n189).spn s197
   replace o193 := o193.spn s197
   refine ⟨_, h198, fun hb199 => ?_, fun hb199 => ?_⟩
   · refine O rfl (St.not rfl (Nl (W.condF rfl (W.skip (Rg (O rfl (St.loadOA (vs := [(.bool (ofZ (-n.toZ)).neg), (.slice a141 (ofZ (-n.toZ)).mag.length c142)]) o156 ag26 rfl rfl rfl (O rfl (St.loadOA (vs := [(.bool (ofZ (-d.toZ)).neg), (.slice a150 (ofZ (-d.toZ)).mag.length c151)]) o160 ag26 rfl rfl rfl (O rfl (St.build (cs := [(.bool (ofZ (-n.toZ)).neg), (.slice a141 (ofZ (-n.toZ)).mag.length c142), (.bool (ofZ (-d.toZ)).neg), (.slice a150 (ofZ (-d.toZ)).mag.length c151)]) rfl (by kernel_rfl) ?_)))))))))))
     refine On (St.storeC (cs' := [(.bool (ofZ (-n.toZ)).neg), (.slice a141 (ofZ (-n.toZ)).mag.length c142), (.bool (ofZ (-d.toZ)).neg), (.slice a150 (ofZ (-d.toZ)).mag.length c151)]) C196 o31 io28 rfl rfl rfl rfl rfl rfl ?_)
     intro w200 C201 s202 o203
     replace h143 := h143.sp s202
     replace h152 := h152.sp s202
     refine Nl (W.ret (ret_1 rfl (resV.c o203 rfl ag28 rfl) (Ret.intro ?_ C201.below)))
     exact RV.eqv (a := (⟨⟨(ofZ (-n.toZ)).neg, (ofZ (-n.toZ)).mag⟩, ⟨(ofZ (-d.toZ)).neg, (ofZ (-d.toZ)).mag⟩⟩ : GRat)) ((mkRat h143 h152).tr (Tr.weak C201.base)) (Eq.trans ((by first | exact over_one (ofZ_eq_one.1 (of_decide_eq_true (by assumption))) | exact over_cop hdp (ofZ_eq_one.1 (of_decide_eq_true (by assumption))))) (congrArg ofQ (over_neg _ _)))
   refine O rfl (St.not rfl (Nl (W.condT rfl (Rg (O rfl (St.loadOA (vs := [(.bool (ofZ (-n.toZ)).neg), (.slice a141 (ofZ (-n.toZ)).mag.length c142)]) o156 ag26 rfl rfl rfl (O rfl (St.loadOA (vs := [(.bool (ofZ (Int.gcd (-n.toZ) (-d.toZ) : Int)).neg), (.slice a176 (ofZ (Int.gcd (-n.toZ) (-d.toZ) : Int)).mag.length c177)]) o193 ag26 rfl rfl rfl (O rfl (St.callR C196 cb145 rfl rfl (c_exactZ C196.bd (a := (ofZ (-n.toZ))) (mkInt h143) (b := (ofZ (Int.gcd (-n.toZ) (-d.toZ) : Int))) (mkInt h178) (by first | omega | (rw [neg_mag]; omega)) (by first | omega | (have h8 := hgm; rw [neg_mag] at h8; omega)) (by rw [ofZ_val]; omega) (by rw [toZ_ofZ, toZ_ofZ]; exact gcd_mod_l _ _)) ?_))))))))))
   intro v204 w205 C206 s207 h208
   replace o156 := o156.spn s207
   simp only [toZ_ofZ, ofQ_q] at h208
   obtain ⟨v209, v210, rfl, h211, rfl⟩ := h208
   obtain ⟨a213, c214, rfl, h215⟩ := RV.int h211
   refine Om (O rfl (St.extract rfl rfl (O rfl (St.extract rfl rfl (On (St.storeC (cs' := [(.bool (ofZ ((-n.toZ) / (Int.gcd (-n.toZ) (-d.toZ) : Int))).neg), (.slice a213 (ofZ ((-n.toZ) / (Int.gcd (-n.toZ) (-d.toZ) : Int))).mag.length c214)]) C206 o156 io26 rfl rfl rfl rfl rfl rfl ?_))))))
   intro w216 C217 s218 o219
   replace h152 := (h152.sp s207).sp s218
   replace h178 := (h178.sp s207).sp s218
   replace o160 := (o160.spn s207).spo s218 (Ne.symm n23)
   replace o31 := (o31.spn s207).spo s218 (Ne.symm n32)
   replace o193 := (o193.spn s207).spo s218 (Ne.symm n187)
   refine Nl (W.region (O rfl (St.loadOA (vs := [(.bool (ofZ (-d.toZ)).neg), (.slice a150 (ofZ (-d.toZ)).mag.length c151)]) o160 ag26 rfl rfl rfl (O rfl (St.loadOA (vs := [(.bool (ofZ (Int.gcd (-n.toZ) (-d.toZ) : Int)).neg), (.slice a176 (ofZ (Int.gcd (-n.toZ) (-d.toZ) : Int)).mag.length c177)]) o193 ag26 rfl rfl rfl (O rfl (St.callR C217 cb145 rfl rfl (c_exactZ C217.bd (a := (ofZ (-d.toZ))) (mkInt h152) (b := (ofZ (Int.gcd (-n.toZ) (-d.toZ) : Int))) (mkInt h178) (by first | omega | (rw [neg_mag]; omega)) (by first | omega | (have h8 := hgm; rw [neg_mag] at h8; omega)) (by rw [ofZ_val]; omega) (by rw [toZ_ofZ, toZ_ofZ]; exact gcd_mod_r _ _)) ?_)))))))
   intro v220 w221 C222 s223 h224
   replace h215 := (h215.sp s218).sp s223
   replace o160 := o160.spn s223
   simp only [toZ_ofZ, ofQ_q] at h224
   obtain ⟨v225, v226, rfl, h227, rfl⟩ := h224
   obtain ⟨a229, c230, rfl, h231⟩ := RV.int h227
   refine Om (O rfl (St.extract rfl rfl (O rfl (St.extract rfl rfl (On (St.storeC (cs' := [(.bool (ofZ ((-d.toZ) / (Int.gcd (-n.toZ) (-d.toZ) : Int))).neg), (.slice a229 (ofZ ((-d.toZ) / (Int.gcd (-n.toZ) (-d.toZ) : Int))).mag.length c230)]) C222 o160 io26 rfl rfl rfl rfl rfl rfl ?_))))))
   intro w232 C233 s234 o235
   replace o219 := (o219.spn s223).spo s234 n23
   replace o31 := (o31.spn s223).spo s234 (Ne.symm n33)
   refine Nl (Rg (O rfl (St.loadOA (vs := [(.bool (ofZ ((-n.toZ) / (Int.gcd (-n.toZ) (-d.toZ) : Int))).neg), (.slice a213 (ofZ ((-n.toZ) / (Int.gcd (-n.toZ) (-d.toZ) : Int))).mag.length c214)]) o219 ag26 rfl rfl rfl (O rfl (St.loadOA (vs := [(.bool (ofZ ((-d.toZ) / (Int.gcd (-n.toZ) (-d.toZ) : Int))).neg), (.slice a229 (ofZ ((-d.toZ) / (Int.gcd (-n.toZ) (-d.toZ) : Int))).mag.length c230)]) o235 ag26 rfl rfl rfl ?_)))))
   refine O rfl (St.build (cs := [(.bool (ofZ ((-n.toZ) / (Int.gcd (-n.toZ) (-d.toZ) : Int))).neg), (.slice a213 (ofZ ((-n.toZ) / (Int.gcd (-n.toZ) (-d.toZ) : Int))).mag.length c214), (.bool (ofZ ((-d.toZ) / (Int.gcd (-n.toZ) (-d.toZ) : Int))).neg), (.slice a229 (ofZ ((-d.toZ) / (Int.gcd (-n.toZ) (-d.toZ) : Int))).mag.length c230)]) rfl (by kernel_rfl) (On (St.storeC (cs' := [(.bool (ofZ ((-n.toZ) / (Int.gcd (-n.toZ) (-d.toZ) : Int))).neg), (.slice a213 (ofZ ((-n.toZ) / (Int.gcd (-n.toZ) (-d.toZ) : Int))).mag.length c214), (.bool (ofZ ((-d.toZ) / (Int.gcd (-n.toZ) (-d.toZ) : Int))).neg), (.slice a229 (ofZ ((-d.toZ) / (Int.gcd (-n.toZ) (-d.toZ) : Int))).mag.length c230)]) C233 o31 io28 rfl rfl rfl rfl rfl rfl ?_)))
   intro w236 C237 s238 o239
   replace h215 := (h215.sp s234).sp s238
   replace h231 := (h231.sp s234).sp s238
   refine Nl (W.ret (ret_1 rfl (resV.c o239 rfl ag28 rfl) (Ret.intro ?_ C237.below)))
   exact RV.eqv (a := (⟨⟨(ofZ ((-n.toZ) / (Int.gcd (-n.toZ) (-d.toZ) : Int))).neg, (ofZ ((-n.toZ) / (Int.gcd (-n.toZ) (-d.toZ) : Int))).mag⟩, ⟨(ofZ ((-d.toZ) / (Int.gcd (-n.toZ) (-d.toZ) : Int))).neg, (ofZ ((-d.toZ) / (Int.gcd (-n.toZ) (-d.toZ) : Int))).mag⟩⟩ : GRat)) ((mkRat h215 h231).tr (Tr.weak C237.base)) (Eq.trans (over_gcd hdp) (congrArg ofQ (over_neg _ _)))
 refine Oa (Nl (W.condF rfl (W.skip (W.seq (W.seq ?_)))))
 have hdp : 0 < d.toZ := by have hh := hb110; rw [ofZ_neg, decide_eq_false_iff_not] at hh; omega
 refine W.region (O rfl (St.loadOA (vs := [(.bool (ofZ d.toZ).neg), (.slice a73 (ofZ d.toZ).mag.length c74)]) o83 ag26 rfl rfl rfl (O rfl (St.bool (St.callR C81 cb65 rfl rfl (c_one C81.bd (a := (ofZ d.toZ)) (mkInt h75)) ?_)))))
 intro v240 w241 C242 s243 h244
 replace h66 := (h66.sp s82).sp s243
 replace h75 := h75.sp s243
 replace o79 := o79.spn s243
 replace o83 := o83.spn s243
 replace o31 := o31.spn s243
 refine ⟨_, h244, fun hb245 => ?_, fun hb245 => ?_⟩
 · refine Nl (W.condT rfl (Rg (O rfl (St.loadOA (vs := [(.bool (ofZ n.toZ).neg), (.slice a64 (ofZ n.toZ).mag.length c65)]) o79 ag26 rfl rfl rfl (O rfl (St.loadOA (vs := [(.bool (ofZ d.toZ).neg), (.slice a73 (ofZ d.toZ).mag.length c74)]) o83 ag26 rfl rfl rfl (O rfl (St.build (cs := [(.bool (ofZ n.toZ).neg), (.slice a64 (ofZ n.toZ).mag.length c65), (.bool (ofZ d.toZ).neg), (.slice a73 (ofZ d.toZ).mag.length c74)]) rfl (by kernel_rfl) ?_))))))))
   refine On (St.storeC (cs' := [(.bool (ofZ n.toZ).neg), (.slice a64 (ofZ n.toZ).mag.length c65), (.bool (ofZ d.toZ).neg), (.slice a73 (ofZ d.toZ).mag.length c74)]) C242 o31 io28 rfl rfl rfl rfl rfl rfl ?_)
   intro w246 C247 s248 o249
   replace h66 := h66.sp s248
   replace h75 := h75.sp s248
   refine Nl (W.ret (ret_1 rfl (resV.c o249 rfl ag28 rfl) (Ret.intro ?_ C247.below)))
   exact RV.eqv (a := (⟨⟨(ofZ n.toZ).neg, (ofZ n.toZ).mag⟩, ⟨(ofZ d.toZ).neg, (ofZ d.toZ).mag⟩⟩ : GRat)) ((mkRat h66 h75).tr (Tr.weak C247.base)) ((by first | exact over_one (ofZ_eq_one.1 (of_decide_eq_true (by assumption))) | exact over_cop hdp (ofZ_eq_one.1 (of_decide_eq_true (by assumption)))))
 refine Nl (W.condF rfl (W.skip (W.seq (W.seq ?_))))
 have hgm := gcd_mag (n := n.toZ) (d := d.toZ) (by omega)
 have hgn := gcd_ne (n := n.toZ) (d := d.toZ) (by omega)
 refine W.region (O rfl (St.loadOA (vs := [(.bool (ofZ n.toZ).neg), (.slice a64 (ofZ n.toZ).mag.length c65)]) o79 ag26 rfl rfl rfl (O rfl (St.loadOA (vs := [(.bool (ofZ d.toZ).neg), (.slice a73 (ofZ d.toZ).mag.length c74)]) o83 ag26 rfl rfl rfl (O rfl (St.callR C242 cb34 rfl rfl (c_gcdZ C242.bd (a := (ofZ n.toZ)) (mkInt h66) (b := (ofZ d.toZ)) (mkInt h75) (by first | omega | (rw [neg_mag]; omega)) (by first | omega | (rw [neg_mag]; omega))) ?_))))))
 intro v250 w251 C252 s253 h254
 replace o79 := o79.spn s253
 replace o83 := o83.spn s253
 replace o31 := o31.spn s253
 simp only [toZ_ofZ, ofQ_q] at h254
 obtain ⟨a255, c256, rfl, h257⟩ := RV.int h254
 refine O rfl (St.allocC C252 io26 rfl ?_)
 intro g258 w259 x260 y261 lt262 C263 s264 o265
 have n266 := lt262 _ o79.blk.lt
 have n267 := lt262 _ o83.blk.lt
 have n268 := lt262 _ o31.blk.lt
 replace h66 := (h66.sp s253).sp s264
 replace h75 := (h75.sp s253).sp s264
 replace o79 := o79.spn s264
 replace o83 := o83.spn s264
 replace o31 := o31.spn s264
 refine On (St.storeC (cs' := [(.bool (ofZ (Int.gcd n.toZ d.toZ : Int)).neg), (.slice a255 (ofZ (Int.gcd n.toZ d.toZ : Int)).mag.length c256)]) C263 o265 io26 rfl rfl rfl rfl rfl rfl ?_)
 intro w269 C270 s271 o272
 replace h257 := (h257.sp s264).sp s271
 refine Nl (Rg (O rfl (St.loadOA (vs := [(.bool (ofZ (Int.gcd n.toZ d.toZ : Int)).neg), (.slice a255 (ofZ (Int.gcd n.toZ d.toZ : Int)).mag.length c256)]) o272 ag26 rfl rfl rfl (O rfl (St.bool (St.callR C270 cb65 rfl rfl (c_one C270.bd (a := (ofZ (Int.gcd n.toZ d.toZ : Int))) (mkInt h257)) ?_))))))
 intro v273 w274 C275 s276 h277
 replace h66 := (h66.sp s271).sp s276
 replace h75 := (h75.sp s271).sp s276
 replace h257 := h257.sp s276
 replace o79 := (o79.spo s271 n266).spn s276
 replace o83 := (o83.spo s271 n267).spn s276
 replace o31 := (o31.spo s271 n268).spn s276
 replace o272 := o272.spn s276
 refine ⟨_, h277, fun hb278 => ?_, fun hb278 => ?_⟩
 · refine O rfl (St.not rfl (Nl (W.condF rfl (W.skip (Rg (O rfl (St.loadOA (vs := [(.bool (ofZ n.toZ).neg), (.slice a64 (ofZ n.toZ).mag.length c65)]) o79 ag26 rfl rfl rfl (O rfl (St.loadOA (vs := [(.bool (ofZ d.toZ).neg), (.slice a73 (ofZ d.toZ).mag.length c74)]) o83 ag26 rfl rfl rfl (O rfl (St.build (cs := [(.bool (ofZ n.toZ).neg), (.slice a64 (ofZ n.toZ).mag.length c65), (.bool (ofZ d.toZ).neg), (.slice a73 (ofZ d.toZ).mag.length c74)]) rfl (by kernel_rfl) ?_)))))))))))
   refine On (St.storeC (cs' := [(.bool (ofZ n.toZ).neg), (.slice a64 (ofZ n.toZ).mag.length c65), (.bool (ofZ d.toZ).neg), (.slice a73 (ofZ d.toZ).mag.length c74)]) C275 o31 io28 rfl rfl rfl rfl rfl rfl ?_)
   intro w279 C280 s281 o282
   replace h66 := h66.sp s281
   replace h75 := h75.sp s281
   refine Nl (W.ret (ret_1 rfl (resV.c o282 rfl ag28 rfl) (Ret.intro ?_ C280.below)))
   exact RV.eqv (a := (⟨⟨(ofZ n.toZ).neg, (ofZ n.toZ).mag⟩, ⟨(ofZ d.toZ).neg, (ofZ d.toZ).mag⟩⟩ : GRat)) ((mkRat h66 h75).tr (Tr.weak C280.base)) ((by first | exact over_one (ofZ_eq_one.1 (of_decide_eq_true (by assumption))) | exact over_cop hdp (ofZ_eq_one.1 (of_decide_eq_true (by assumption)))))
 refine O rfl (St.not rfl (Nl (W.condT rfl (Rg (O rfl (St.loadOA (vs := [(.bool (ofZ n.toZ).neg), (.slice a64 (ofZ n.toZ).mag.length c65)]) o79 ag26 rfl rfl rfl (O rfl (St.loadOA (vs := [(.bool (ofZ (Int.gcd n.toZ d.toZ : Int)).neg), (.slice a255 (ofZ (Int.gcd n.toZ d.toZ : Int)).mag.length c256)]) o272 ag26 rfl rfl rfl (O rfl (St.callR C275 cb145 rfl rfl (c_exactZ C275.bd (a := (ofZ n.toZ)) (mkInt h66) (b := (ofZ (Int.gcd n.toZ d.toZ : Int))) (mkInt h257) (by first | omega | (rw [neg_mag]; omega)) (by first | omega | (have h8 := hgm; rw [neg_mag] at h8; omega)) (by rw [ofZ_val]; omega) (by rw [toZ_ofZ, toZ_ofZ]; exact gcd_mod_l _ _)) ?_))))))))))
 intro v283 w284 C285 s286 h287
 replace o79 := o79.spn s286
 simp only [toZ_ofZ, ofQ_q] at h287
 obtain ⟨v288, v289, rfl, h290, rfl⟩ := h287
 obtain ⟨a292, c293, rfl, h294⟩ := RV.int h290
 refine Om (O rfl (St.extract rfl rfl (O rfl (St.extract rfl rfl (On (St.storeC (cs' := [(.bool (ofZ (n.toZ / (Int.gcd n.toZ d.toZ : Int))).neg), (.slice a292 (ofZ (n.toZ / (Int.gcd n.toZ d.toZ : Int))).mag.length c293)]) C285 o79 io26 rfl rfl rfl rfl rfl rfl ?_))))))
 intro w295 C296 s297 o298
 replace h75 := (h75.sp s286).sp s297
 replace h257 := (h257.sp s286).sp s297
 replace o83 := (o83.spn s286).spo s297 (Ne.symm n23)
 replace o31 := (o31.spn s286).spo s297 (Ne.symm n32)
 replace o272 := (o272.spn s286).spo s297 (Ne.symm n266)
 refine Nl (W.region (O rfl (St.loadOA (vs := [(.bool (ofZ d.toZ).neg), (.slice a73 (ofZ d.toZ).mag.length c74)]) o83 ag26 rfl rfl rfl (O rfl (St.loadOA (vs := [(.bool (ofZ (Int.gcd n.toZ d.toZ : Int)).neg), (.slice a255 (ofZ (Int.gcd n.toZ d.toZ : Int)).mag.length c256)]) o272 ag26 rfl rfl rfl (O rfl (St.callR C296 cb145 rfl rfl (c_exactZ C296.bd (a := (ofZ d.toZ)) (mkInt h75) (b := (ofZ (Int.gcd n.toZ d.toZ : Int))) (mkInt h257) (by first | omega | (rw [neg_mag]; omega)) (by first | omega | (have h8 := hgm; rw [neg_mag] at h8; omega)) (by rw [ofZ_val]; omega) (by rw [toZ_ofZ, toZ_ofZ]; exact gcd_mod_r _ _)) ?_)))))))
 intro v299 w300 C301 s302 h303
 replace h294 := (h294.sp s297).sp s302
 replace o83 := o83.spn s302
 simp only [toZ_ofZ, ofQ_q] at h303
 obtain ⟨v304, v305, rfl, h306, rfl⟩ := h303
 obtain ⟨a308, c309, rfl, h310⟩ := RV.int h306
 refine Om (O rfl (St.extract rfl rfl (O rfl (St.extract rfl rfl (On (St.storeC (cs' := [(.bool (ofZ (d.toZ / (Int.gcd n.toZ d.toZ : Int))).neg), (.slice a308 (ofZ (d.toZ / (Int.gcd n.toZ d.toZ : Int))).mag.length c309)]) C301 o83 io26 rfl rfl rfl rfl rfl rfl ?_))))))
 intro w311 C312 s313 o314
 replace o298 := (o298.spn s302).spo s313 n23
 replace o31 := (o31.spn s302).spo s313 (Ne.symm n33)
 refine Nl (Rg (O rfl (St.loadOA (vs := [(.bool (ofZ (n.toZ / (Int.gcd n.toZ d.toZ : Int))).neg), (.slice a292 (ofZ (n.toZ / (Int.gcd n.toZ d.toZ : Int))).mag.length c293)]) o298 ag26 rfl rfl rfl (O rfl (St.loadOA (vs := [(.bool (ofZ (d.toZ / (Int.gcd n.toZ d.toZ : Int))).neg), (.slice a308 (ofZ (d.toZ / (Int.gcd n.toZ d.toZ : Int))).mag.length c309)]) o314 ag26 rfl rfl rfl ?_)))))
 refine O rfl (St.build (cs := [(.bool (ofZ (n.toZ / (Int.gcd n.toZ d.toZ : Int))).neg), (.slice a292 (ofZ (n.toZ / (Int.gcd n.toZ d.toZ : Int))).mag.length c293), (.bool (ofZ (d.toZ / (Int.gcd n.toZ d.toZ : Int))).neg), (.slice a308 (ofZ (d.toZ / (Int.gcd n.toZ d.toZ : Int))).mag.length c309)]) rfl (by kernel_rfl) (On (St.storeC (cs' := [(.bool (ofZ (n.toZ / (Int.gcd n.toZ d.toZ : Int))).neg), (.slice a292 (ofZ (n.toZ / (Int.gcd n.toZ d.toZ : Int))).mag.length c293), (.bool (ofZ (d.toZ / (Int.gcd n.toZ d.toZ : Int))).neg), (.slice a308 (ofZ (d.toZ / (Int.gcd n.toZ d.toZ : Int))).mag.length c309)]) C312 o31 io28 rfl rfl rfl rfl rfl rfl ?_)))
 intro w315 C316 s317 o318
 replace h294 := (h294.sp s313).sp s317
 replace h310 := (h310.sp s313).sp s317
 refine Nl (W.ret (ret_1 rfl (resV.c o318 rfl ag28 rfl) (Ret.intro ?_ C316.below)))
 exact RV.eqv (a := (⟨⟨(ofZ (n.toZ / (Int.gcd n.toZ d.toZ : Int))).neg, (ofZ (n.toZ / (Int.gcd n.toZ d.toZ : Int))).mag⟩, ⟨(ofZ (d.toZ / (Int.gcd n.toZ d.toZ : Int))).neg, (ofZ (d.toZ / (Int.gcd n.toZ d.toZ : Int))).mag⟩⟩ : GRat)) ((mkRat h294 h310).tr (Tr.weak C316.base)) (over_gcd hdp)
end Go.Wf
