/-
  A region's operations one after the other; open regions by what holds after a set of them.
-/
import Derived.Test.YtjadodiecjkmoaaGreatDoorEvK
namespace Go.Ev
set_option linter.unusedVariables false
set_option linter.unusedSimpArgs false
open Go Go.Wf Go.RowKit

noncomputable def wantB (ops : Array Oper) (g : Option (Nat × Bool)) (f : Fr) : Option Bool := match g with
  | none => some true
  | some p => match (ops[p.1]?).bind (·.dst) with
    | some d => match opd f (.tmp d) with
      | .b c => some (c == p.2)
      | .tp [] => some false
      | _ => none
    | none => none
theorem wantK_eq {α : Type} (ops : Array Oper) (g : Option (Nat × Bool)) (f : Fr) (yes no bad : α) : wantK ops g f yes no bad = match wantB ops g f with | some true => yes | some false => no | none => bad := by
  unfold wantK wantB
  cases g with
  | none => rfl
  | some p =>
    simp only
    cases (ops[p.1]?).bind (·.dst) with
    | none => rfl
    | some d =>
      simp only
      cases opd f (.tmp d) with
      | b c => simp only; cases (c == p.2) <;> rfl
      | tp l => cases l <;> rfl
      | _ => rfl
theorem wantB_s {ops : Array Oper} {o : Oper} {f : Fr} {F : Wf.Fr} {Φ : Phi} {b : Bool} (h : wantB ops o.guard f = some b)
    (hF : ∀ p d, o.guard = some p → (ops[p.1]?).bind (·.dst) = some d → Rv Φ (opd f (.tmp d)) (F d)) : Region.wanted o (yieldedF ops F) = b := by
  unfold wantB at h
  unfold Region.wanted
  cases hg : o.guard with
  | none => rw [hg] at h; simp only at h; cases h; rfl
  | some p =>
    rw [hg] at h
    obtain ⟨j, c0⟩ := p
    simp only at h ⊢
    cases hd : (ops[j]?).bind (·.dst) with
    | none => rw [hd] at h; cases h
    | some d =>
      have hr := hF _ d hg hd
      rw [hd] at h
      simp only at h
      split at h
      · rename_i c hc
        rw [hc] at hr
        cases h
        have := hr.bI
        unfold yieldedF
        rw [hd]
        simp only [Option.map_some, this]
        cases c <;> cases c0 <;> rfl
      · rename_i hc
        rw [hc] at hr
        cases h
        have hv : F d = .tuple #[] := by
          simp only [Rv, RvL] at hr
          obtain ⟨vs, h1, rfl⟩ := hr
          exact h1
        unfold yieldedF
        rw [hd]
        simp only [Option.map_some, hv]
        cases c0 <;> rfl
      · cases h
theorem fr_want {f : Fr} {F : Wf.Fr} {Φ : Phi} (h : FR Φ f F) (d : Tmp) : Rv Φ (opd f (.tmp d)) (F d) := opd_sound h (.tmp d)
def okO : Out → Prop
  | .no _ => False
  | _ => True
theorem setO_s {n : Nat} {d : Option Tmp} {v : AV} {f : Fr} {k : Fr → Out} (e : okO (setO n d v f k)) : ∃ f', setO n d v f k = k f' ∧ lo n d ∧ ((d = none ∧ f' = f) ∨ ∃ t, d = some t ∧ t < n ∧ f' = setF t v f) := by
  unfold setO at e ⊢
  cases d with
  | none => exact ⟨f, rfl, trivial, .inl ⟨rfl, rfl⟩⟩
  | some t =>
    simp only at e ⊢
    cases hb : Nat.blt t n with
    | false => rw [hb] at e; exact e.elim
    | true => exact ⟨_, rfl, of_blt hb, .inr ⟨t, rfl, of_blt hb, rfl⟩⟩
theorem FR.updO {n : Nat} (hn : n ≤ 4096) {d : Option Tmp} {v : AV} {x : Value} {f f' : Fr} {F : Wf.Fr} {Φ : Phi} (h : FR Φ f F) (hv : Rv Φ v x) (hd : (d = none ∧ f' = f) ∨ ∃ t, d = some t ∧ t < n ∧ f' = setF t v f) : FR Φ f' (Wf.updO F d x) := by
  rcases hd with ⟨rfl, rfl⟩ | ⟨t, rfl, ht, rfl⟩
  · exact h
  · exact h.set (Nat.lt_of_lt_of_le ht hn) hv
section
variable {P : Program} {call : CallF} {n : Nat}
/-- what comes out of a piece of code -/
def OutQ (Φ : Phi) (τ : Tau) (h : Hp) (w : World) : Out → Wf.Post
  | .nx f' h', .normal, F', w' => ∃ Φ' τ', FR Φ' f' F' ∧ Rel Φ' τ' h' w' ∧ Tw Φ τ h w Φ' τ' h'.n w'
  | .ex i f' h', .exit j, F', w' => i = j ∧ ∃ Φ' τ', FR Φ' f' F' ∧ Rel Φ' τ' h' w' ∧ Tw Φ τ h w Φ' τ' h'.n w'
  | .rt f' h', .ret, F', w' => ∃ Φ' τ', FR Φ' f' F' ∧ Rel Φ' τ' h' w' ∧ Tw Φ τ h w Φ' τ' h'.n w'
  | .pn v f' h', .panic ch, F', w' => ∃ x Φ' τ', ch = [{ v := x, recovered := false }] ∧ Rv Φ' v x ∧ FR Φ' f' F' ∧ Rel Φ' τ' h' w' ∧ Tw Φ τ h w Φ' τ' h'.n w'
  | _, _, _, _ => False
def hpO : Out → Hp → Hp
  | .nx _ h, _ => h
  | .ex _ _ h, _ => h
  | .rt _ h, _ => h
  | .pn _ _ h, _ => h
  | .no _, h => h
theorem hpO_any {o : Out} (e : okO o) (a b : Hp) : hpO o a = hpO o b := by cases o <;> first | rfl | exact e.elim
theorem OutQ.trans {Φ Φ1 : Phi} {τ τ1 : Tau} {h h1 : Hp} {w w1 : World} {o : Out} (t1 : Tw Φ τ h w Φ1 τ1 h1.n w1) (k1 : Grow h h1) (hl : h1.n ≤ big5) (hn : h1.n ≤ (hpO o h1).n) {ex : Exit} {F : Wf.Fr} {w2 : World} (q : OutQ Φ1 τ1 h1 w1 o ex F w2) : OutQ Φ τ h w o ex F w2 := by
  cases o with
  | nx f' h' => cases ex with
    | normal => obtain ⟨Φ', τ', a, b, c⟩ := q; exact ⟨Φ', τ', a, b, t1.trans k1 hn hl c⟩
    | _ => exact q.elim
  | ex i f' h' => cases ex with
    | exit j => obtain ⟨e, Φ', τ', a, b, c⟩ := q; exact ⟨e, Φ', τ', a, b, t1.trans k1 hn hl c⟩
    | _ => exact q.elim
  | rt f' h' => cases ex with
    | ret => obtain ⟨Φ', τ', a, b, c⟩ := q; exact ⟨Φ', τ', a, b, t1.trans k1 hn hl c⟩
    | _ => exact q.elim
  | pn v f' h' => cases ex with
    | panic ch => obtain ⟨x, Φ', τ', e, d, a, b, c⟩ := q; exact ⟨x, Φ', τ', e, d, a, b, t1.trans k1 hn hl c⟩
    | _ => exact q.elim
  | no m => exact q.elim
theorem recR {r : Res} {k kp : AV → Hp → Out} (e : okO (Res.rec k Out.no kp r : Out)) : (∃ v h', r = .ok v h' ∧ (Res.rec k Out.no kp r : Out) = k v h') ∨ ∃ v h', r = .pn v h' ∧ (Res.rec k Out.no kp r : Out) = kp v h' := by
  cases r with
  | ok v h' => exact .inl ⟨v, h', rfl, rfl⟩
  | no m => exact e.elim
  | pn v h' => exact .inr ⟨v, h', rfl, rfl⟩
theorem recR0 {r : Res} {k : AV → Hp → Out} {m : Nat} (e : okO (Res.rec k Out.no (fun _ _ => .no m) r : Out)) : ∃ v h', r = .ok v h' ∧ (Res.rec k Out.no (fun _ _ => .no m) r : Out) = k v h' := by
  rcases recR e with h | ⟨v, h', _, h2⟩
  · exact h
  · rw [h2] at e; exact e.elim
theorem evOps_s (hc : CallS P call) (hn : n ≤ 4096) {ops : Array Oper} : ∀ (l : List Oper) (f : Fr) (h : Hp), okO (evOps P call n ops l f h) →
    Gw h (hpO (evOps P call n ops l f h) h) ∧
    ∀ (Φ : Phi) (τ : Tau) (F : Wf.Fr) (w : World) (Q : Wf.Post), FR Φ f F → Rel Φ τ h w → Fre Φ h.n (hpO (evOps P call n ops l f h) h).n →
      (∀ ex F' w', OutQ Φ τ h w (evOps P call n ops l f h) ex F' w' → Q ex F' w') → Sq P ops n Q l F w := by
  intro l
  induction l with
  | nil => intro f h e; exact ⟨Gw.refl _, fun Φ τ F w Q hF hR _ hQ => hQ .normal F w ⟨Φ, τ, hF, hR, Tw.refl _ _ _ _ _⟩⟩
  | cons o l ih =>
    intro f h e
    have e0 : evOps P call n ops (o :: l) f h = wantK ops o.guard f (Res.rec (fun v h' => setO n o.dst v f fun f' => evOps P call n ops l f' h') Out.no (fun v h' => Bool.rec (.no 61) (.pn v f h') (canPn o.op && loB n o.dst)) (evOp P call o.op f h)) (setO n o.dst (.tp []) f fun f' => evOps P call n ops l f' h) (.no 41) := rfl
    rw [e0, wantK_eq] at e
    rw [e0, wantK_eq]
    cases hw : wantB ops o.guard f with
    | none => rw [hw] at e; exact e.elim
    | some b =>
      rw [hw] at e
      cases b with
      | true =>
        simp only at e ⊢
        rcases recR e with ⟨v, h1, hop, e2⟩ | ⟨v, h1, hop, e2⟩
        · rw [e2] at e ⊢
          obtain ⟨f1, e3, hlo, hd⟩ := setO_s e
          rw [e3] at e ⊢
          obtain ⟨g2, s2⟩ := ih f1 h1 e
          obtain ⟨g1, s1⟩ := evOp_s hc hop
          have g1 : Gw h h1 := g1
          rw [hpO_any e h h1]
          refine ⟨g1.trans g2, fun Φ τ F w Q hF hR hFr hQ => ?_⟩
          have k1 := g1 hR.lim
          have k2 := g2 (k1.lim hR.lim)
          have hw' := wantB_s (Φ := Φ) hw fun p d _ _ => fr_want hF d
          obtain ⟨dst, op, ty, pos, after, gd⟩ := o
          refine ⟨hlo, ?_⟩
          rw [if_pos hw']
          refine (s1 Φ τ F w dst ty pos after gd hF hR fun id h1 h2 => hFr id h1 (Nat.lt_of_lt_of_le h2 k2.le)).mono ?_ fun _ _ h => h.elim
          rintro x w1 ⟨Φ1, τ1, hv, hR1, t1⟩
          refine s2 Φ1 τ1 _ w1 Q ((hF.mono t1.sub).updO hn hv hd) hR1 ?_ ?_
          · intro id q1 q2
            rw [t1.same id (by omega)]
            exact hFr id (Nat.le_trans k1.le q1) q2
          · intro ex F' w' q
            exact hQ ex F' w' (q.trans t1 k1 (k1.lim hR.lim) k2.le)
        · rw [e2] at e ⊢
          cases hp0 : (canPn o.op && loB n o.dst) with
          | false => rw [hp0] at e; exact e.elim
          | true =>
            simp only
            obtain ⟨hp, hp1⟩ := and_t hp0
            obtain ⟨g1, s1⟩ := evOp_p hc hp hop
            have g1 : Gw h h1 := g1
            refine ⟨g1, fun Φ τ F w Q hF hR hFr hQ => ?_⟩
            have hw' := wantB_s (Φ := Φ) hw fun p d _ _ => fr_want hF d
            have hlo : lo n o.dst := by
              cases hd : o.dst with
              | none => trivial
              | some t => rw [hd] at hp1; exact of_blt hp1
            obtain ⟨dst, op, ty, pos, after, gd⟩ := o
            refine ⟨hlo, ?_⟩
            rw [if_pos hw']
            refine (s1 Φ τ F w dst ty pos after gd hF hR hFr).mono (fun _ _ h => h.elim) ?_
            rintro ch w1 ⟨x, Φ1, τ1, rfl, hv, hR1, t1⟩
            exact hQ _ _ _ ⟨x, Φ1, τ1, rfl, hv, hF.mono t1.sub, hR1, t1⟩
      | false =>
        simp only at e ⊢
        obtain ⟨f1, e3, hlo, hd⟩ := setO_s e
        rw [e3] at e ⊢
        obtain ⟨g2, s2⟩ := ih f1 h e
        refine ⟨g2, fun Φ τ F w Q hF hR hFr hQ => ?_⟩
        have hw' := wantB_s (Φ := Φ) hw fun p d _ _ => fr_want hF d
        refine ⟨hlo, ?_⟩
        rw [if_neg (by rw [hw']; simp)]
        exact s2 Φ τ _ w Q (hF.updO hn (by simp only [Rv, RvL]; exact ⟨[], rfl, rfl⟩) hd) hR hFr hQ
end

/-! ### open regions by what holds after a set of operations -/
section
variable {fc : Fence} [Fw fc] {P : Program} {ops : Array Oper} {n : Nat} {D : List Deferred} {Q : Wf.Post} {f0 : Wf.Fr} {w0 : World}
theorem drawI_wp (Inv : Array Bool → Wf.Fr → World → Prop) (back : ∀ (k : Nat) (o : Oper), ops[k]? = some o → ∀ e ∈ o.after, Region.binds .any e = true → e.on < k)
    (hstep : ∀ (L : Array Bool) (i : Nat) (o : Oper) (f : Wf.Fr) (w : World), L.size = ops.size → closedL ops L → ops[i]? = some o → L.getD i true = false → (∀ e ∈ o.after, Region.binds .any e = true → L.getD e.on false = true) → Inv L f w →
      lo n o.dst ∧ OpSt P ops f o w (fun v w' => Inv (L.setIfInBounds i true) (updO f o.dst v) w') (fun _ _ => False))
    (hfin : ∀ L f w, L.size = ops.size → (∀ i, i < ops.size → L.getD i true = true) → Inv L f w → Q .normal f w) :
    ∀ (fuel : Nat) (L : Array Bool) (a : Act) (w : World), unl ops.size L = fuel → L.size = ops.size → closedL ops L → Wf.Good n D a → Inv L (frOf a) w →
      wpAnyIn fc 0 P .any ops (fun e a' w' => Wf.Good n D a' ∧ Q e (frOf a') w') fuel L a w := by
  intro fuel
  have bridge : ∀ (L : Array Bool), L.size = ops.size → ∀ i, i < ops.size → L.getD i false = L.getD i true := by
    intro L hs i hi
    have : L[i]? = some L[i] := by simp [hs, hi]
    simp [Array.getD_eq_getD_getElem?, this]
  induction fuel with
  | zero =>
    intro L a w hu hs hc ha hI
    have hall := unl_zero hu
    refine ⟨?_, ⟨ha, hfin L _ w hs hall hI⟩⟩
    rw [List.eq_nil_iff_forall_not_mem]
    intro i hi
    obtain ⟨h1, h2, _⟩ := ready_mem.1 hi
    rw [hall i h1] at h2; cases h2
  | succ fuel ih =>
    intro L a w hu hs hc ha hI
    refine ⟨?_, ?_⟩
    · intro hnil
      refine ⟨ha, hfin L _ w hs ?_ hI⟩
      intro i hi
      refine Classical.byContradiction fun hne => ?_
      have hex : ∃ i, i < ops.size ∧ L.getD i true = false := ⟨i, hi, by cases hb : L.getD i true with | false => rfl | true => exact absurd hb hne⟩
      have hmin : ∃ i, i < ops.size ∧ L.getD i true = false ∧ ∀ j, j < i → L.getD j true = true := by
        obtain ⟨i, hi, hb⟩ := hex
        clear hne
        induction i using Nat.strongRecOn with
        | _ i ihh =>
          by_cases h : ∃ j, j < i ∧ L.getD j true = false
          · obtain ⟨j, hj, hjb⟩ := h; exact ihh j hj (by omega) hjb
          · refine ⟨i, hi, hb, fun j hj => ?_⟩
            cases hjb : L.getD j true with
            | true => rfl
            | false => exact absurd ⟨j, hj, hjb⟩ h
      obtain ⟨i0, hi0, hb0, hlow⟩ := hmin
      have hr0 : i0 ∈ Region.ready .any ops L := by
        have hok : ops[i0]? = some ops[i0] := by simp [hi0]
        refine ready_mem.2 ⟨hi0, hb0, ops[i0], hok, ?_⟩
        intro e he hbe
        have hlt := back i0 _ hok e he hbe
        rw [bridge L hs _ (by omega)]
        exact hlow _ hlt
      rw [hnil] at hr0; cases hr0
    · intro i hi
      obtain ⟨h1, h2, o, ho, h3⟩ := ready_mem.1 hi
      obtain ⟨hlo, hst⟩ := hstep L i o (frOf a) w hs hc ho h2 h3 hI
      refine wpOp_of (Kv := fun v w' => Inv (L.setIfInBounds i true) (updO (frOf a) o.dst v) w') (Kp := fun _ _ => False) ho ha hst ?_ (fun _ _ h => h.elim)
      intro v w' hK
      refine ih _ _ _ ?_ (by simp [hs]) ?_ (ha.put _ _) (by rw [frOf_put ha _ hlo]; exact hK)
      · have := unl_set hs h1 h2; omega
      · intro k hk hl o' ho' e he hb
        rw [Array.getD_eq_getD_getElem?, Array.getElem?_setIfInBounds]
        by_cases e1 : i = e.on
        · subst e1; simp [hs, h1]
        · simp only [e1, if_false]
          rw [← Array.getD_eq_getD_getElem?]
          by_cases e2 : i = k
          · subst e2; rw [ho] at ho'; cases ho'; exact h3 e he hb
          · rw [Array.getD_eq_getD_getElem?, Array.getElem?_setIfInBounds] at hl
            simp only [e2, if_false] at hl
            rw [← Array.getD_eq_getD_getElem?] at hl
            exact hc k hk hl o' ho' e he hb
theorem W.drawI {id : Nat} (hm : P.follows .mixedOrders = true) (Inv : Array Bool → Wf.Fr → World → Prop) (back : ∀ (k : Nat) (o : Oper), ops[k]? = some o → ∀ e ∈ o.after, Region.binds .any e = true → e.on < k)
    (h0 : Inv (Array.replicate ops.size false) f0 w0.drew)
    (hstep : ∀ (L : Array Bool) (i : Nat) (o : Oper) (f : Wf.Fr) (w : World), L.size = ops.size → closedL ops L → ops[i]? = some o → L.getD i true = false → (∀ e ∈ o.after, Region.binds .any e = true → L.getD e.on false = true) → Inv L f w →
      lo n o.dst ∧ OpSt P ops f o w (fun v w' => Inv (L.setIfInBounds i true) (updO f o.dst v) w') (fun _ _ => False))
    (hfin : ∀ L f w, L.size = ops.size → (∀ i, i < ops.size → L.getD i true = true) → Inv L f w → Q .normal f w) :
    W fc P (Code.region id ops true) n D Q f0 w0 := by
  intro a ha hf
  refine wpIn_region_any hm ?_
  have hz : ∀ i, i < ops.size → (Array.replicate ops.size false).getD i true = false := by
    intro i hi
    simp [Array.getD_eq_getD_getElem?, hi]
  refine drawI_wp Inv back hstep hfin ops.size _ a _ ?_ (by simp) ?_ ha (by rw [hf]; exact h0)
  · unfold unl
    have : (List.range ops.size).countP (fun i => !(Array.replicate ops.size false).getD i true) = (List.range ops.size).length := by
      refine List.countP_eq_length.2 ?_
      intro i hi
      simp [hz i (by simpa using hi)]
    rw [this]; simp
  · intro k hk hl
    rw [hz k hk] at hl; cases hl
end
end Go.Ev
