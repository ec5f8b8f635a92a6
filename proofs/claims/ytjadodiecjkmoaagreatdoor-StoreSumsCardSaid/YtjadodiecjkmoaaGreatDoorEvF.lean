/-
  Building, slicing, lengths; reading memory.
-/
import Derived.Test.YtjadodiecjkmoaaGreatDoorEvE
namespace Go.Ev
set_option linter.unusedVariables false
set_option linter.unusedSimpArgs false
open Go Go.Wf Go.RowKit

section
variable {P : Program} {f : Fr} {v : AV} {h h' : Hp}
theorem cellsOf_s {Φ : Phi} {a : AV} {l : List AV} {v : Value} (hc : cellsOf a = some l) (h : Rv Φ a v) : ∃ vs : List Value, v.cells = vs.toArray ∧ RvL Φ l vs := by
  unfold cellsOf at hc
  split at hc
  · cases hc
  · cases hc
  · cases hc
    simp only [Rv] at h
    obtain ⟨vs, rfl, hl⟩ := h
    exact ⟨vs, rfl, hl⟩
  · rename_i h1 h2 h3
    cases hc
    refine ⟨[v], ?_, by simp only [RvL]; exact ⟨v, [], rfl, h, rfl⟩⟩
    cases a <;> first
      | (exact absurd rfl h1; done)
      | (exact absurd rfl (h2 _); done)
      | (exact absurd rfl (h3 _); done)
      | (simp only [Rv] at h; first
          | (subst h; rfl)
          | (obtain ⟨_, rfl⟩ := h; rfl)
          | (obtain ⟨_, _, rfl⟩ := h; rfl)
          | (obtain ⟨_, rfl, _⟩ := h; rfl)
          | (obtain ⟨_, _, _, rfl, _⟩ := h; rfl))
theorem foldl_set (vs : List Value) (off : Nat) (C : Array Value) (hf : off + vs.length ≤ C.size) :
    (vs.toArray.zipIdx.foldl (fun cs (c, j) => cs.setIfInBounds (off + j) c) C) = (C.toList.take off ++ vs ++ C.toList.drop (off + vs.length)).toArray := by
  have key : ∀ (vs : List Value) (k off : Nat) (C : List Value), off + k + vs.length ≤ C.length →
      ((vs.zipIdx k).foldl (fun (cs : Array Value) p => cs.setIfInBounds (off + p.2) p.1) C.toArray) = (C.take (off + k) ++ vs ++ C.drop (off + k + vs.length)).toArray := by
    intro vs
    induction vs with
    | nil => intro k off C h; simp
    | cons v vs ih =>
      intro k off C h
      rw [List.length_cons] at h
      rw [List.zipIdx_cons, List.foldl_cons]
      have e1 : (C.toArray.setIfInBounds (off + k) v) = (C.set (off + k) v).toArray := by simp
      rw [e1, ih (k + 1) off (C.set (off + k) v) (by rw [List.length_set]; omega)]
      congr 1
      have hlt : off + k < C.length := by omega
      rw [List.set_eq_take_append_cons_drop, if_pos hlt]
      have e2 : (C.take (off + k)).length = off + k := by rw [List.length_take]; omega
      rw [show off + (k + 1) = (C.take (off + k)).length + 1 by rw [e2]; omega]
      rw [List.take_append, List.drop_append]
      simp only [e2, List.length_cons]
      rw [List.take_of_length_le (by rw [e2]; omega)]
      have e3 : off + k + 1 - (off + k) = 1 := by omega
      have e4 : off + k + 1 + vs.length - (off + k) = vs.length + 1 := by omega
      rw [e3, e4, List.drop_of_length_le (l := C.take (off + k)) (by rw [e2]; omega)]
      simp only [List.take_succ_cons, List.take_zero, List.nil_append, List.drop_succ_cons, List.append_assoc, List.cons_append]
      rw [List.drop_drop]
      congr 4
      omega
  have := key vs 0 off C.toList (by simpa using hf)
  simp only [Nat.add_zero] at this
  rw [← this]
  rw [← Array.foldl_toList]
  simp
/-- parts laid into cells, and the model's own -/
theorem fillA_s {place : Nat → Option (Nat × Nat)} {k : List AV → Res} : ∀ (l : List (Nat × Operand)) (cs : List AV), fillA place f l cs k = .ok v h' →
    ∃ cs', k cs' = .ok v h' ∧ ∀ (Φ : Phi) (F : Wf.Fr) (C : List Value), FR Φ f F → RvL Φ cs C → ∃ C', Instr.fill place C.toArray (l.map fun p => (p.1, fe F p.2)) = some C'.toArray ∧ RvL Φ cs' C' := by
  intro l
  induction l with
  | nil => intro cs e; exact ⟨cs, e, fun Φ F C _ hC => ⟨C, rfl, hC⟩⟩
  | cons p l ih =>
    intro cs e
    unfold fillA at e
    simp only at e
    split at e
    · cases e
    · rename_i q hq
      split at e
      · cases e
      · rename_i vs hvs
        obtain ⟨hl, e⟩ := recB e
        have hl := Nat.eq_of_beq_eq_true hl
        rw [len_eq] at hl
        have e' : (putK cs q.1 vs fun cs' => fillA place f l cs' k) = .ok v h' := e
        rcases putK_eq cs q.1 vs (fun cs' => fillA place f l cs' k) with ⟨e2, hle⟩ | ⟨n, e2⟩
        · have e3 : fillA place f l (cs.take q.1 ++ vs ++ cs.drop (q.1 + vs.length)) k = .ok v h' := e2 ▸ e'
          obtain ⟨cs', h1, h2⟩ := ih _ e3
          refine ⟨cs', h1, fun Φ F C hF hC => ?_⟩
          obtain ⟨us, hu1, hu2⟩ := cellsOf_s hvs (opd_sound hF p.2)
          have hul := hu2.len
          have hcl := hC.len
          obtain ⟨C', g1, g2⟩ := h2 Φ F (C.take q.1 ++ us ++ C.drop (q.1 + us.length)) hF (by
            rw [hul]
            exact (((hC.take _).app hu2).app (hC.drop _)))
          refine ⟨C', ?_, g2⟩
          rw [List.map_cons, Instr.fill, hq]
          simp only
          rw [hu1]
          have : ¬ (us.toArray.size ≠ q.2 ∨ q.1 + us.toArray.size > C.toArray.size) := by simp; omega
          simp only [Bool.or_eq_true, decide_eq_true_eq]
          rw [if_neg this, foldl_set us q.1 C.toArray (by simp; omega)]
          exact g1
        · rw [e2] at e'
          cases e'
theorem placesOf_u {t : TypeId} {pl : List (Nat × Nat)} (h : placesOf P t = some pl) : ∃ fs, P.underlying t = some (.struct fs) ∧ fs.toList.mapM (fun f => (P.info? f.type).map fun i => (f.offset, i.size)) = some pl := by
  unfold placesOf at h
  split at h
  · rename_i fs hu; exact ⟨fs, hu, h⟩
  · cases h
theorem evBuild_s {t : TypeId} {ps : Array (Nat × Operand)} (e : evBuild P t ps f h = .ok v h') : h' = h ∧ Pu P (.build t ps) f v := by
  unfold evBuild at e
  split at e
  · rename_i pl z hpl hz
    obtain ⟨cs', h1, h2⟩ := fillA_s _ _ e
    obtain ⟨rfl, rfl⟩ := ok_inj h1
    refine ⟨rfl, fun Φ F w dst ty pos after gd hF => ?_⟩
    obtain ⟨zv, sz, by_, hinf, rfl⟩ := zcOf_u hz
    obtain ⟨inf, hi', hzz, _, _⟩ := infoOf_parts hinf
    obtain ⟨C', g1, g2⟩ := h2 Φ F zv.cells.toList hF (cvs_sound _)
    obtain ⟨fs, hu, hpl⟩ := placesOf_u hpl
    refine St.build (cs := C') rfl ?_ ⟨rfl, by simp only [Rv]; exact ⟨C', rfl, g2⟩⟩
    unfold Program.built
    rw [hi', hu]
    simp only [hzz, hpl]
    have e2 : (fun x => pl.toArray[x]?) = nth pl := by funext i; rw [nth_eq]; simp
    rw [e2]
    have e3 : zv.cells.toList.toArray = zv.cells := by simp
    rw [e3] at g1
    exact g1
  · cases e
/-! len, min, max -/
theorem evLen_s {ts : Array TypeId} {args : Array Operand} (e : evLen P ts.toList (opds f args.toList) h = .ok v h') : h' = h ∧ Pu P (.call { callee := .builtin .len, args := args, argTypes := ts }) f v := by
  have key : ∀ {t : TypeId} {a : AV}, ts.toList = [t] → opds f args.toList = [a] → ∃ x, args = #[x] ∧ ts = #[t] ∧ opd f x = a := by
    intro t a h1 h2
    have e1 : ts = #[t] := by apply Array.ext'; rw [h1]
    cases hx : args.toList with
    | nil => rw [hx] at h2; cases h2
    | cons x r =>
      rw [hx] at h2
      have h3 : opd f x :: opds f r = [a] := h2
      cases r with
      | cons y r => cases h3
      | nil =>
        refine ⟨x, ?_, e1, ?_⟩
        · apply Array.ext'; rw [hx]
        · exact (List.cons.inj h3).1
  unfold evLen at e
  split at e
  · rename_i t id off n z cap h1 h2
    obtain ⟨x, rfl, rfl, hx⟩ := key h1 h2
    obtain ⟨ht, e⟩ := recB e
    obtain ⟨rfl, rfl⟩ := ok_inj e
    refine ⟨rfl, fun Φ F w dst ty pos after gd hF => ?_⟩
    have hr := opd_sound hF x
    rw [hx] at hr
    obtain ⟨_, _, _, hv, _⟩ := hr.slI
    obtain ⟨el, hel⟩ := isSl_u ht
    exact St.len hel hv ⟨rfl, Rv.mi⟩
  · rename_i t h1 h2
    obtain ⟨x, rfl, rfl, hx⟩ := key h1 h2
    obtain ⟨ht, e⟩ := recB e
    obtain ⟨rfl, rfl⟩ := ok_inj e
    refine ⟨rfl, fun Φ F w dst ty pos after gd hF => ?_⟩
    have hr := opd_sound hF x
    rw [hx] at hr
    simp only [Rv] at hr
    obtain ⟨el, hel⟩ := isSl_u ht
    exact St.len hel hr ⟨rfl, Rv.mi⟩
  · rename_i t h1 h2
    obtain ⟨x, rfl, rfl, hx⟩ := key h1 h2
    obtain ⟨ht, e⟩ := recB e
    obtain ⟨rfl, rfl⟩ := ok_inj e
    refine ⟨rfl, fun Φ F w dst ty pos after gd hF => ?_⟩
    have hr := opd_sound hF x
    rw [hx] at hr
    simp only [Rv] at hr
    obtain ⟨_, _, hr⟩ := hr
    obtain ⟨el, hel⟩ := isSl_u ht
    exact St.len hel hr ⟨rfl, Rv.mi⟩
  · rename_i t l h1 h2
    obtain ⟨x, rfl, rfl, hx⟩ := key h1 h2
    obtain ⟨ht, e⟩ := recB e
    rw [fz_eq] at e
    obtain ⟨rfl, rfl⟩ := ok_inj e
    refine ⟨rfl, fun Φ F w dst ty pos after gd hF => ?_⟩
    have hr := opd_sound hF x
    rw [hx] at hr
    obtain ⟨_, hv⟩ := hr.sI
    refine St.lenL (isStr_u ht) hv ⟨rfl, ?_⟩
    rw [len_eq, List.length_map]; exact Rv.mi
  · cases e
theorem two {l : List Operand} {a b : AV} (h : opds f l = [a, b]) : ∃ x y, l = [x, y] ∧ opd f x = a ∧ opd f y = b := by
  cases l with
  | nil => cases h
  | cons x l =>
    cases l with
    | nil => cases h
    | cons y l =>
      cases l with
      | cons z l => cases h
      | nil =>
        have h3 : [opd f x, opd f y] = [a, b] := h
        exact ⟨x, y, rfl, (List.cons.inj h3).1, (List.cons.inj (List.cons.inj h3).2).1⟩
theorem minL_s {Φ : Phi} {w : World} {k : IntKind} : ∀ (l : List AV) (a : Int) (vs : List Value), minL k h l a = .ok v h' → RvL Φ l vs → ∃ z, v = .i k z ∧ h' = h ∧ (vs.foldlM Builtin.min2 (.int k a)).run P w = .ok (.int k z) w := by
  intro l
  induction l with
  | nil =>
    intro a vs e hl
    simp only [RvL] at hl; subst hl
    obtain ⟨rfl, rfl⟩ := ok_inj e
    exact ⟨a, rfl, rfl, by simp⟩
  | cons x l ih =>
    intro a vs e hl
    simp only [RvL] at hl
    obtain ⟨y, r, rfl, hy, hr⟩ := hl
    cases x with
    | i k' b =>
      have e : (Bool.rec (minL k h l a) (minL k h l b) (ilt b a) : Res) = .ok v h' := e
      rw [recBk, ilt_eq] at e
      rw [hy.iI]
      have hstep : (Builtin.min2 (.int k a) (.int k' b)) = pure (.int k (if b < a then b else a)) := rfl
      simp only [List.foldlM_cons, hstep, pure_bind]
      by_cases hb : b < a
      · rw [if_pos (by simpa using hb)] at e
        rw [if_pos hb]
        exact ih b r e hr
      · rw [if_neg (by simpa using hb)] at e
        rw [if_neg hb]
        exact ih a r e hr
    | _ => cases e
theorem minL_h {k : IntKind} : ∀ (l : List AV) (a : Int), minL k h l a = .ok v h' → h' = h := by
  intro l
  induction l with
  | nil => intro a e; exact (ok_inj e).2.symm
  | cons x l ih =>
    intro a e
    cases x with
    | i k' b =>
      have e : (Bool.rec (minL k h l a) (minL k h l b) (ilt b a) : Res) = .ok v h' := e
      rw [recBk] at e
      split at e
      · exact ih b e
      · exact ih a e
    | _ => cases e
theorem evMin_s {ts : Array TypeId} {args : Array Operand} (e : evMin (opds f args.toList) h = .ok v h') : h' = h ∧ Pu P (.call { callee := .builtin .min, args := args, argTypes := ts }) f v := by
  unfold evMin at e
  split at e
  · rename_i k a l h2
    have key : ∀ (Φ : Phi) (F : Wf.Fr), FR Φ f F → ∃ vs : List Value, args.toList.map (fe F) = .int k a :: vs ∧ RvL Φ l vs := by
      intro Φ F hF
      have := opds_sound hF args.toList
      rw [h2] at this
      simp only [RvL] at this
      obtain ⟨x, r, h3, h4, h5⟩ := this
      rw [h4.iI] at h3
      exact ⟨r, h3, h5⟩
    refine ⟨?_, fun Φ F w dst ty pos after gd hF => ?_⟩
    · exact minL_h l a e
    · obtain ⟨vs, h3, h5⟩ := key Φ F hF
      obtain ⟨z, rfl, _, hz⟩ := minL_s (P := P) (w := w) l a vs e h5
      refine St.of_run (v := .int k z) (w' := w) ?_ ⟨rfl, Rv.mi⟩
      have h6 : (args.map (fe F)) = (Value.int k a :: vs).toArray := by apply Array.ext'; simp [h3]
      have h7 : (Builtin.min_ ts ty (Value.int k a :: vs).toArray).run P w = .ok (.int k z) w := hz
      simp [execOp, resolve, invoke, builtin, h6, h7]
  · cases e
theorem maxL_s {Φ : Phi} {w : World} {k : IntKind} : ∀ (l : List AV) (a : Int) (vs : List Value), maxL k h l a = .ok v h' → RvL Φ l vs → ∃ z, v = .i k z ∧ h' = h ∧ (vs.foldlM Builtin.max2 (.int k a)).run P w = .ok (.int k z) w := by
  intro l
  induction l with
  | nil =>
    intro a vs e hl
    simp only [RvL] at hl; subst hl
    obtain ⟨rfl, rfl⟩ := ok_inj e
    exact ⟨a, rfl, rfl, by simp⟩
  | cons x l ih =>
    intro a vs e hl
    simp only [RvL] at hl
    obtain ⟨y, r, rfl, hy, hr⟩ := hl
    cases x with
    | i k' b =>
      have e : (Bool.rec (maxL k h l a) (maxL k h l b) (ilt a b) : Res) = .ok v h' := e
      rw [recBk, ilt_eq] at e
      rw [hy.iI]
      have hstep : (Builtin.max2 (.int k a) (.int k' b)) = pure (.int k (if b > a then b else a)) := rfl
      simp only [List.foldlM_cons, hstep, pure_bind]
      by_cases hb : b > a
      · rw [if_pos (by simpa using hb)] at e
        rw [if_pos hb]
        exact ih b r e hr
      · rw [if_neg (by simpa using hb)] at e
        rw [if_neg hb]
        exact ih a r e hr
    | _ => cases e
theorem maxL_h {k : IntKind} : ∀ (l : List AV) (a : Int), maxL k h l a = .ok v h' → h' = h := by
  intro l
  induction l with
  | nil => intro a e; exact (ok_inj e).2.symm
  | cons x l ih =>
    intro a e
    cases x with
    | i k' b =>
      have e : (Bool.rec (maxL k h l a) (maxL k h l b) (ilt a b) : Res) = .ok v h' := e
      rw [recBk] at e
      split at e
      · exact ih b e
      · exact ih a e
    | _ => cases e
theorem evMax_s {ts : Array TypeId} {args : Array Operand} (e : evMax (opds f args.toList) h = .ok v h') : h' = h ∧ Pu P (.call { callee := .builtin .max, args := args, argTypes := ts }) f v := by
  unfold evMax at e
  split at e
  · rename_i k a l h2
    have key : ∀ (Φ : Phi) (F : Wf.Fr), FR Φ f F → ∃ vs : List Value, args.toList.map (fe F) = .int k a :: vs ∧ RvL Φ l vs := by
      intro Φ F hF
      have := opds_sound hF args.toList
      rw [h2] at this
      simp only [RvL] at this
      obtain ⟨x, r, h3, h4, h5⟩ := this
      rw [h4.iI] at h3
      exact ⟨r, h3, h5⟩
    refine ⟨?_, fun Φ F w dst ty pos after gd hF => ?_⟩
    · exact maxL_h l a e
    · obtain ⟨vs, h3, h5⟩ := key Φ F hF
      obtain ⟨z, rfl, _, hz⟩ := maxL_s (P := P) (w := w) l a vs e h5
      refine St.of_run (v := .int k z) (w' := w) ?_ ⟨rfl, Rv.mi⟩
      have h6 : (args.map (fe F)) = (Value.int k a :: vs).toArray := by apply Array.ext'; simp [h3]
      have h7 : (Builtin.max_ ts ty (Value.int k a :: vs).toArray).run P w = .ok (.int k z) w := hz
      simp [execOp, resolve, invoke, builtin, h6, h7]
  · cases e
/-! reading -/
theorem getB_s {id : Nat} {k : Blk → Res} {n : Nat} (e : getB h id k (.no n) = .ok v h') : ∃ b, id < h.n ∧ get5 id h.t = some b ∧ b.ob = .row ∧ k b = .ok v h' := by
  unfold getB at e
  obtain ⟨h1, e⟩ := recB e
  cases hb : get5 id h.t with
  | none => rw [hb] at e; cases e
  | some b =>
    rw [hb] at e
    obtain ⟨ty, ex, ro, cs, ob⟩ := b
    cases ob <;> first | exact ⟨_, of_blt h1, rfl, rfl, e⟩ | cases e
theorem getM_s {id : Nat} {k : List En → Nat → Res} {n : Nat} (e : getM h id k (.no n) = .ok v h') : ∃ b es c, id < h.n ∧ get5 id h.t = some b ∧ b.ob = .map es c ∧ k es c = .ok v h' := by
  unfold getM at e
  obtain ⟨h1, e⟩ := recB e
  cases hb : get5 id h.t with
  | none => rw [hb] at e; cases e
  | some b =>
    rw [hb] at e
    obtain ⟨ty, ex, ro, cs, ob⟩ := b
    cases ob <;> first | exact ⟨_, _, _, of_blt h1, rfl, rfl, e⟩ | cases e
theorem getG_s {id : Nat} {k : List AV → Res} {n : Nat} (e : getG h id k (.no n) = .ok v h') : ∃ b, id < h.n ∧ get5 id h.t = some b ∧ b.ob = .glb ∧ k b.cs = .ok v h' := by
  unfold getG at e
  obtain ⟨h1, e⟩ := recB e
  cases hb : get5 id h.t with
  | none => rw [hb] at e; cases e
  | some b =>
    rw [hb] at e
    obtain ⟨ty, ex, ro, cs, ob⟩ := b
    cases ob <;> first | exact ⟨_, of_blt h1, rfl, rfl, e⟩ | cases e
theorem getL_s {id : Nat} {k : Bool → Nat → List Tmp → Code → Code → TF AV → Res} {n : Nat} (e : getL h id k (.no n) = .ok v h') : ∃ b busy m ps a bb f, id < h.n ∧ get5 id h.t = some b ∧ b.ob = .lp busy m ps a bb f ∧ k busy m ps a bb f = .ok v h' := by
  unfold getL at e
  obtain ⟨h1, e⟩ := recB e
  cases hb : get5 id h.t with
  | none => rw [hb] at e; cases e
  | some b =>
    rw [hb] at e
    obtain ⟨ty, ex, ro, cs, ob⟩ := b
    cases ob <;> first | exact ⟨_, _, _, _, _, _, _, of_blt h1, rfl, rfl, e⟩ | cases e
theorem getO_s {id : Nat} {k : Ob → Res} {n : Nat} (e : getO h id k (.no n) = .ok v h') : ∃ b, id < h.n ∧ get5 id h.t = some b ∧ k b.ob = .ok v h' := by
  unfold getO at e
  obtain ⟨h1, e⟩ := recB e
  cases hb : get5 id h.t with
  | none => rw [hb] at e; cases e
  | some b => rw [hb] at e; exact ⟨b, of_blt h1, rfl, e⟩
theorem BR.cell {Φ : Phi} {τ : Tau} {w : World} {b : Blk} {e : Ent} {id : Nat} {C : Array Value} {T : TypeId} (r : BR Φ τ w b e id C T) {o : Nat} {a : AV} (ha : b.cs[o]? = some a) : ∃ x, w.cell? ⟨e.g, e.base + o, none⟩ = some x ∧ Rv Φ a x := by
  obtain ⟨x, h1, h2⟩ := r.cr o a ha
  obtain ⟨fr, ho, _⟩ := r.obj
  exact ⟨x, by rw [cell_of_row w e.g (e.base + o) C T fr ho]; exact h1, h2⟩
/-- cells in a line -/
theorem BR.cells {Φ : Phi} {τ : Tau} {w : World} {b : Blk} {e : Ent} {id : Nat} {C : Array Value} {T : TypeId} (r : BR Φ τ w b e id C T) (o n : Nat) (hn : n ≤ (b.cs.drop o).length) :
    ∃ vs : List Value, vs.length = n ∧ RvL Φ ((b.cs.drop o).take n) vs ∧ ∀ j u, vs[j]? = some u → w.cell? ⟨e.g, e.base + o + j, none⟩ = some u := by
  refine ⟨(C.toList.drop (e.base + o)).take n, ?_, ?_, ?_⟩
  · rw [List.length_take, List.length_drop, Array.length_toList, r.size]
    have := r.le
    rw [List.length_drop] at hn
    omega
  · refine RvL.mk ?_ fun i a x hi hx => ?_
    · rw [List.length_take, List.length_take, List.length_drop, Array.length_toList, r.size]
      have := r.le
      rw [List.length_drop] at hn
      rw [List.length_drop]; omega
    · rw [List.getElem?_take] at hi hx
      split at hi <;> rename_i hlt
      · rw [if_pos hlt, List.getElem?_drop] at hx
        rw [List.getElem?_drop] at hi
        obtain ⟨y, h1, h2⟩ := r.cr _ _ hi
        have h3 : C.toList[e.base + o + i]? = some y := by rw [← h1]; simp [Nat.add_assoc]
        rw [h3] at hx; cases hx; exact h2
      · cases hi
  · intro j x hj
    rw [List.getElem?_take] at hj
    split at hj
    · rw [List.getElem?_drop] at hj
      obtain ⟨fr, ho, _⟩ := r.obj
      rw [cell_of_row w e.g (e.base + o + j) C T fr ho]
      simpa using hj
    · cases hj
/-- what a reading operation does -/
def Rd (P : Program) (op : Op) (f : Fr) (v : AV) (h : Hp) : Prop := ∀ (Φ : Phi) (τ : Tau) (F : Wf.Fr) (w : World) (dst : Option Tmp) (ty : TypeId) (pos : String) (after : Array Edge) (gd : Option (Nat × Bool)), FR Φ f F → Rel Φ τ h w →
  St P (fe F) ⟨dst, op, ty, pos, after, gd⟩ w (KP Φ w v) KF
theorem evLoad_s {t : TypeId} {a : Operand} (e : evLoad P t a f h = .ok v h') : h' = h ∧ Rd P (.load t a) f v h := by
  unfold evLoad at e
  split at e
  · rename_i id off ha
    obtain ⟨b, hid, hb, hrow, e⟩ := getB_s e
    split at e
    · rename_i hk
      split at e
      · rename_i x hx
        obtain ⟨rfl, rfl⟩ := ok_inj e
        rw [nth_eq] at hx
        refine ⟨rfl, fun Φ τ F w dst ty pos after gd hF hR => ?_⟩
        have hr := opd_sound hF a
        rw [ha] at hr
        obtain ⟨en, hen, hv⟩ := hr.pI
        obtain ⟨e', C, T, br⟩ := (hR.blk id b hid hb).row hrow
        have := br.ent
        rw [hen] at this; cases this
        obtain ⟨y, hy, hry⟩ := br.cell hx
        exact St.load1 (lkOf_one hk) hv hy ⟨rfl, hry⟩
      · cases e
    · rename_i sz hk
      rcases tkK_eq (dr b.cs off) sz (fun l => Res.ok (.ag l) h) with ⟨e2, hle⟩ | ⟨n, e2⟩
      · rw [e2] at e
        obtain ⟨rfl, rfl⟩ := ok_inj e
        rw [dr_eq] at hle ⊢
        refine ⟨rfl, fun Φ τ F w dst ty pos after gd hF hR => ?_⟩
        have hr := opd_sound hF a
        rw [ha] at hr
        obtain ⟨en, hen, hv⟩ := hr.pI
        obtain ⟨e', C, T, br⟩ := (hR.blk id b hid hb).row hrow
        have := br.ent
        rw [hen] at this; cases this
        obtain ⟨vs, hl, hrv, hc⟩ := br.cells off sz hle
        exact St.loadA (lkOf_agg hk) hv hl hc ⟨rfl, by simp only [Rv]; exact ⟨vs, rfl, hrv⟩⟩
      · rw [e2] at e; cases e
    · cases e
  · rename_i g off ha
    obtain ⟨b, hid, hb, hglb, e⟩ := getG_s e
    split at e
    · rename_i hk
      split at e
      · rename_i x hx
        obtain ⟨rfl, rfl⟩ := ok_inj e
        rw [nth_eq] at hx
        refine ⟨rfl, fun Φ τ F w dst ty pos after gd hF hR => ?_⟩
        have hr := opd_sound hF a
        rw [ha] at hr
        simp only [Rv] at hr
        obtain ⟨e', C, gr⟩ := (hR.blk _ b hid hb).tab hglb
        obtain ⟨T, fr, ho⟩ := gr.obj
        obtain ⟨y, hy, hry⟩ := gr.cr _ _ hx
        rw [Nat.zero_add] at hy
        refine St.load1 (lkOf_one hk) hr ?_ ⟨rfl, hry⟩
        rw [gr.at_] at ho
        rw [cell_of_row w g off C T fr ho]; exact hy
      · cases e
    · rename_i sz hk
      rcases tkK_eq (dr b.cs off) sz (fun l => Res.ok (.ag l) h) with ⟨e2, hle⟩ | ⟨n, e2⟩
      · rw [e2] at e
        obtain ⟨rfl, rfl⟩ := ok_inj e
        rw [dr_eq] at hle ⊢
        refine ⟨rfl, fun Φ τ F w dst ty pos after gd hF hR => ?_⟩
        have hr := opd_sound hF a
        rw [ha] at hr
        simp only [Rv] at hr
        obtain ⟨e', C, gr⟩ := (hR.blk _ b hid hb).tab hglb
        obtain ⟨T, fr, ho⟩ := gr.obj
        rw [gr.at_] at ho
        have hle : sz ≤ (b.cs.drop off).length := hle
        have hC : ∀ i a, ((b.cs.drop off).take sz)[i]? = some a → ∃ y, C[off + i]? = some y ∧ Rv Φ a y := by
          intro i a hi
          rw [List.getElem?_take] at hi
          split at hi
          · rw [List.getElem?_drop] at hi
            obtain ⟨y, h1, h2⟩ := gr.cr _ _ hi
            rw [Nat.zero_add] at h1
            exact ⟨y, h1, h2⟩
          · cases hi
        have hlen : ((C.toList.drop off).take sz).length = sz := by
          rw [List.length_take, List.length_drop, Array.length_toList]
          rw [List.length_drop] at hle
          rcases Nat.eq_zero_or_pos sz with h0 | h0
          · omega
          · obtain ⟨y, h1, _⟩ := hC (sz - 1) _ (List.getElem?_eq_getElem (by rw [List.length_take, List.length_drop]; omega))
            have := (Array.getElem?_eq_some_iff.1 h1).1
            omega
        refine St.loadA (cs := (C.toList.drop off).take sz) (lkOf_agg hk) hr hlen ?_ ⟨rfl, ?_⟩
        · intro j x hj
          rw [List.getElem?_take] at hj
          split at hj
          · rw [List.getElem?_drop] at hj
            rw [cell_of_row w g (off + j) C T fr ho]
            simpa using hj
          · cases hj
        · simp only [Rv]
          refine ⟨_, rfl, RvL.mk ?_ fun i a x hi hx => ?_⟩
          · rw [hlen, List.length_take]; omega
          · obtain ⟨y, h1, h2⟩ := hC i a hi
            rw [List.getElem?_take] at hx
            split at hx
            · rw [List.getElem?_drop] at hx
              have : C.toList[off + i]? = some y := by rw [← h1]; simp
              rw [this] at hx; cases hx; exact h2
            · cases hx
      · rw [e2] at e; cases e
    · cases e
  · cases e
end
end Go.Ev
