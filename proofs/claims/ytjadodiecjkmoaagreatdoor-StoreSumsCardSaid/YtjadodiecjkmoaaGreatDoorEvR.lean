/-
  Loops, all code, functions, calls; a closed call.
-/
import Derived.Test.YtjadodiecjkmoaaGreatDoorEvQ
import Derived.Recover
import Derived.RangeFuncLeaves
import Derived.Scope
namespace Go.Ev
set_option linter.unusedVariables false
set_option linter.unusedSimpArgs false
open Go Go.Wf Go.RowKit

section
variable {fc : Fence} {P : Program} {call : CallF} {n : Nat}
theorem iter_g {c : Code} {x : Fr → Hp → Out} (hx : CodeS fc P n c x) : ∀ (m : Nat) (f : Fr) (h : Hp), okO (iter m x f h) → Gw h (hpO (iter m x f h) h) := by
  intro m
  induction m with
  | zero => intro f h e; exact e.elim
  | succ m ih =>
    intro f h e
    have e0 : iter (m + 1) x f h = sq (x f h) (iter m x) := rfl
    rw [e0] at e ⊢
    have hx := hx f h
    revert e hx
    cases hq : x f h with
    | nx f1 h1 =>
      intro e hx
      obtain ⟨g1, _⟩ := hx trivial
      have g1 : Gw h h1 := g1
      have e : okO (iter m x f1 h1) := e
      have g2 := ih f1 h1 e
      have eqq : sq (Out.nx f1 h1) (iter m x) = iter m x f1 h1 := rfl
      rw [eqq]
      have hh : hpO (iter m x f1 h1) h = hpO (iter m x f1 h1) h1 := by cases hy1 : iter m x f1 h1 <;> first | rfl | (rw [hy1] at e; exact e.elim)
      rw [hh]
      exact g1.trans g2
    | ex i f1 h1 => intro e hx; exact (hx trivial).1
    | rt f1 h1 => intro e hx; exact (hx trivial).1
    | pn v f1 h1 => intro e hx; exact (hx trivial).1
    | no q => intro e; exact e.elim
theorem loop_s {c : Code} {x : Fr → Hp → Out} (hx : CodeS fc P n c x) (m : Nat) : CodeS fc P n (.loop c) (iter m x) := by
  intro f h e
  refine ⟨iter_g hx m f h e, fun Φ τ F w D hF hR hFr => ?_⟩
  have hG := iter_g hx m f h e hR.lim
  generalize hout : iter m x f h = out at e hFr hG
  refine W.loopN (fun k F' w' => ∃ f' h' Φ' τ', iter k x f' h' = out ∧ FR Φ' f' F' ∧ Rel Φ' τ' h' w' ∧ Tw Φ τ h w Φ' τ' h'.n w' ∧ Grow h h') m ⟨f, h, Φ, τ, hout, hF, hR, Tw.refl _ _ _ _ _, Grow.refl _⟩ ?_
  rintro k F' w' ⟨f', h', Φ', τ', ho, hF', hR', tw, gr⟩
  have hi : okO (iter k x f' h') := by rw [ho]; exact e
  cases k with
  | zero => exact hi.elim
  | succ k =>
    have e0 : iter (k + 1) x f' h' = sq (x f' h') (iter k x) := rfl
    rw [e0] at ho hi
    have hgr := iter_g hx (k + 1) f' h' (by rw [e0]; exact hi) hR'.lim
    rw [e0, ho] at hgr
    have hnn : (hpO out h').n = (hpO out h).n := by cases out <;> first | rfl | exact e.elim
    have hFr' : Fre Φ' h'.n (hpO out h).n := fun id a b => by
      rw [tw.same id (fun hh => by have := hh.2; omega)]
      exact hFr id (Nat.le_trans gr.le a) b
    have hx' := hx f' h'
    revert ho hi hx'
    cases hq : x f' h' with
    | nx f1 h1 =>
      intro ho hi hx'
      obtain ⟨g1, s1⟩ := hx' trivial
      have ho : iter k x f1 h1 = out := ho
      have k1 : Grow h' h1 := g1 hR'.lim
      have k2 := iter_g hx k f1 h1 (by rw [ho]; exact e) (k1.lim hR'.lim)
      rw [ho] at k2
      have hn1 : (hpO out h1).n = (hpO out h).n := by cases out <;> first | rfl | exact e.elim
      refine (s1 Φ' τ' F' w' D hF' hR' fun id a b => hFr' id a (Nat.lt_of_lt_of_le b (by rw [← hn1]; exact k2.le))).mono ?_
      intro ex F1 w1 q
      cases ex with
      | normal =>
        obtain ⟨Φ1, τ1, a, b, c⟩ := q
        exact ⟨k, Nat.lt_succ_self k, f1, h1, Φ1, τ1, ho, a, b, tw.trans gr k1.le hR'.lim c, gr.trans k1⟩
      | _ => exact q.elim
    | ex i f1 h1 =>
      intro ho hi hx'
      obtain ⟨g1, s1⟩ := hx' trivial
      have ho : Out.ex i f1 h1 = out := ho
      subst ho
      have k1 : Grow h' h1 := g1 hR'.lim
      refine (s1 Φ' τ' F' w' D hF' hR' hFr').mono ?_
      intro ex F1 w1 q
      cases ex with
      | exit j =>
        obtain ⟨rfl, Φ1, τ1, a, b, c⟩ := q
        exact ⟨rfl, Φ1, τ1, a, b, tw.trans gr k1.le hR'.lim c⟩
      | _ => exact q.elim
    | rt f1 h1 =>
      intro ho hi hx'
      obtain ⟨g1, s1⟩ := hx' trivial
      have ho : Out.rt f1 h1 = out := ho
      subst ho
      have k1 : Grow h' h1 := g1 hR'.lim
      refine (s1 Φ' τ' F' w' D hF' hR' hFr').mono ?_
      intro ex F1 w1 q
      cases ex with
      | ret =>
        obtain ⟨Φ1, τ1, a, b, c⟩ := q
        exact ⟨Φ1, τ1, a, b, tw.trans gr k1.le hR'.lim c⟩
      | _ => exact q.elim
    | pn v f1 h1 =>
      intro ho hi hx'
      obtain ⟨g1, s1⟩ := hx' trivial
      have ho : Out.pn v f1 h1 = out := ho
      subst ho
      have k1 : Grow h' h1 := g1 hR'.lim
      refine (s1 Φ' τ' F' w' D hF' hR' hFr').mono ?_
      intro ex F1 w1 q
      cases ex with
      | panic ch =>
        obtain ⟨z, Φ1, τ1, d1, d2, a, b, c⟩ := q
        exact ⟨z, Φ1, τ1, d1, d2, a, b, tw.trans gr k1.le hR'.lim c⟩
      | _ => exact q.elim
    | no q => intro _ hi; exact hi.elim
theorem W.label {l : Nat} {D : List Deferred} {Q : Wf.Post} {F : Wf.Fr} {w : World} (h : Q .normal F w) : W fc P (Code.label l) n D Q F w := fun a ha hf => wpIn_label ⟨ha, by rw [hf]; exact h⟩
theorem stepR_scope {b : Frame} {a : Act} {k : List Item} {cs : List Frame} {w : World} {c : Code} : step P (lone (b.atR a (.code (.scope c) :: k)) cs w) = .next (lone (b.atR a (.code c :: .inScope c :: k)) cs w) :=
  step_lone_go (by simp [stepG, stepG.exec, Frame.atR])
theorem stepR_inScope {b : Frame} {a : Act} {k : List Item} {cs : List Frame} {w : World} {c : Code} : step P (lone (b.atR a (.inScope c :: k)) cs w) = .next (lone (b.atR a k) cs w) :=
  step_lone_go (by simp [stepG, stepG.exec, Frame.atR])
theorem wpIn_scope {Q : Exit → Act → World → Prop} {a : Act} {w : World} {c : Code} {m : Nat} (h : c.wpIn fc m P (Exit.noGoto Q) a w) : (Code.scope c).wpIn fc m P Q a w := by
  intro b k cs hro hb hr
  have h0 : (lone (b.atR a (.code (.scope c) :: k)) cs w).fenced P fc := fenced_calm hb hr rfl
  obtain ⟨e, a₁, w₁, hq, harr⟩ := h b (.inScope c :: k) cs hro hb hr
  cases e with
  | normal => exact ⟨.normal, a₁, w₁, hq, .head h0 stepR_scope (StepsIn.trans harr (.one (fenced_calm hb hr rfl) stepR_inScope))⟩
  | exit id =>
    have hx : exitTo id (.inScope c :: k) = exitTo id k := by simp [exitTo]
    exact ⟨_, a₁, w₁, hq, fun k' hk => .head h0 stepR_scope (harr.1 k' (by rw [hx]; exact hk)),
      fun hr' hk => let ⟨k₁, h1, h2⟩ := harr.2 hr' (by rw [hx]; exact hk); ⟨k₁, h1, .head h0 stepR_scope h2⟩⟩
  | goto l => exact hq.elim
  | ret => exact ⟨_, a₁, w₁, hq, .of_steps (.one h0 stepR_scope) harr⟩
  | panic ch => exact ⟨_, a₁, w₁, hq, .of_steps (.one h0 stepR_scope) harr⟩
  | outgrown => exact ⟨_, a₁, w₁, hq, .of_steps (.one h0 stepR_scope) harr⟩
theorem scope_s {c : Code} {x : Fr → Hp → Out} (hx : CodeS fc P n c x) : CodeS fc P n (.scope c) x := by
  intro f h e
  obtain ⟨g, s⟩ := hx f h e
  refine ⟨g, fun Φ τ F w D hF hR hFr a ha hf => wpIn_scope (wpIn_mono (s Φ τ F w D hF hR hFr a ha hf) ?_)⟩
  rintro ex a' w' ⟨k1, k2⟩
  cases ex with
  | goto l => cases hq : x f h <;> rw [hq] at k2 <;> exact k2.elim
  | _ => exact ⟨k1, k2⟩
theorem code_s [Fw fc] (hc : CallS P call) (hn : n ≤ 4096) (hm : P.follows .mixedOrders = true) (c : Code) : CodeS fc P n c (evCode P call n c) := by
  induction c with
  | skip => intro f h e; exact ⟨Gw.refl _, fun Φ τ F w D hF hR _ => W.skip ⟨Φ, τ, hF, hR, Tw.refl _ _ _ _ _⟩⟩
  | region id ops draw => exact region_s hc hn hm id ops draw
  | seq a b iha ihb => exact sq_s iha ihb
  | cond o a b iha ihb => exact cond_s o iha ihb
  | block id c ih => exact blk_s id ih
  | loop c ih => exact loop_s ih 1000000
  | exit id => intro f h e; exact ⟨Gw.refl _, fun Φ τ F w D hF hR _ => W.exit ⟨rfl, Φ, τ, hF, hR, Tw.refl _ _ _ _ _⟩⟩
  | ret => intro f h e; exact ⟨Gw.refl _, fun Φ τ F w D hF hR _ => W.ret ⟨Φ, τ, hF, hR, Tw.refl _ _ _ _ _⟩⟩
  | rangeFunc o ps a b _ _ => intro f h e; exact e.elim
  | scope c ih => exact scope_s ih
  | label l => intro f h e; exact ⟨Gw.refl _, fun Φ τ F w D hF hR _ => W.label ⟨Φ, τ, hF, hR, Tw.refl _ _ _ _ _⟩⟩
  | goto l => intro f h e; exact e.elim
  | refuse why => intro f h e; exact e.elim
/-! functions -/
theorem frame0_get {Φ : Phi} {t : Nat} (ht : t < 4096) : ∀ (l : List AV) (i : Nat), i + l.length ≤ 4096 → getF t (frame0 l i) = if i ≤ t then (l[t - i]?).getD .u else .u := by
  intro l
  induction l with
  | nil =>
    intro i _
    have : getF t (frame0 [] i) = AV.u := getF_fill t AV.u
    rw [this]; simp
  | cons a l ih =>
    intro i hi
    simp only [List.length_cons] at hi
    have e0 : getF t (frame0 (a :: l) i) = getF t (setF i a (frame0 l (Nat.succ i))) := rfl
    rw [e0, getF_setF _ _ _ _ ht (by omega), ih (i + 1) (by omega)]
    rcases Nat.lt_trichotomy t i with h | h | h
    · rw [if_neg (by omega), if_neg (by omega), if_neg (by omega)]
    · subst h; rw [if_pos rfl, if_pos (Nat.le_refl _), Nat.sub_self]; rfl
    · rw [if_neg (by omega), if_pos (by omega), if_pos (by omega), show t - i = (t - (i + 1)) + 1 by omega]; rfl
theorem frame0_s {Φ : Phi} {l : List AV} {vs : List Value} (h : RvL Φ l vs) (hl : l.length ≤ 4096) : FR Φ (frame0 l 0) (argFr vs) := by
  intro t ht
  rw [frame0_get (Φ := Φ) ht l 0 (by omega), if_pos (Nat.zero_le _), Nat.sub_zero]
  cases hi : l[t]? with
  | none => simp only [Option.getD_none, Rv]
  | some a =>
    obtain ⟨v, hv, hr⟩ := h.at hi
    have : argFr vs t = v := by unfold argFr; rw [List.getD_eq_getElem?_getD, hv]; rfl
    rw [this]; exact hr
theorem recRR {r : Res} {k : AV → Hp → Res} {v : AV} {h : Hp} {m : Nat} (e : (Res.rec k Res.no (fun _ _ => .no m) r : Res) = .ok v h) : ∃ y h', r = .ok y h' ∧ k y h' = .ok v h := by
  cases r with
  | ok y h' => exact ⟨y, h', rfl, e⟩
  | no m => cases e
  | pn v h => cases e
theorem St_load {ρ : Operand → Value} {t : TypeId} {a : Operand} {w : World} {K : Value → World → Prop} (h : St P ρ ⟨none, .load t a, 0, "", #[], none⟩ w K KF) : ∃ u w', (Instr.loadAt t (ρ a)).run P w = .ok u w' ∧ K u w' := by
  unfold St at h
  cases hr : (Instr.loadAt t (ρ a)).run P w with
  | ok u w' =>
    have : (execOp ρ ⟨none, .load t a, 0, "", #[], none⟩).run P w = .ok (.value u) w' := by simp [execOp, hr]
    rw [this] at h
    exact ⟨u, w', rfl, h⟩
  | halt q w' =>
    have : (execOp ρ ⟨none, .load t a, 0, "", #[], none⟩).run P w = .halt q w' := by simp [execOp, hr]
    rw [this] at h
    cases q <;> exact h.elim
theorem resA_s {f : Fr} {h h' : Hp} {r : ResultVar} {k : AV → Res} {v : AV} (e : resA P f h r k = .ok v h') : ∃ a, k a = .ok v h' ∧
    ∀ (Φ : Phi) (τ : Tau) (F : Wf.Fr) (w : World) (tmps : Array Value), FR Φ f F → Rel Φ τ h w → (∀ t, tmps.getD t undef = F t) → ∃ x, Rv Φ a x ∧ (resM tmps r).run P w = .ok x w := by
  unfold resA at e
  cases r with
  | tmp t =>
    refine ⟨_, e, fun Φ τ F w tmps hF hR ht => ⟨F t, opd_sound hF (.tmp t), ?_⟩⟩
    unfold resM
    simp only [Sem.run_pure, ht t]
  | cell p t =>
    obtain ⟨a, h1, e1, e2⟩ := recRR e
    have he := e1
    obtain ⟨rfl, rd⟩ := evLoad_s e1
    refine ⟨a, e2, fun Φ τ F w tmps hF hR ht => ?_⟩
    obtain ⟨u, w', hrun, rfl, hv⟩ := St_load (rd Φ τ F w none 0 "" #[] none hF hR)
    refine ⟨u, hv, ?_⟩
    unfold resM
    simp only [ht p]
    have hp : ∃ ad, F p = .pointer (some ad) := by
      unfold evLoad at he
      split at he
      · rename_i id off hx
        have := opd_sound hF (.tmp p)
        rw [hx] at this
        obtain ⟨en, _, hh⟩ := this.pI
        exact ⟨_, hh⟩
      · rename_i g off hx
        have := opd_sound hF (.tmp p)
        rw [hx] at this
        simp only [Rv] at this
        exact ⟨_, this⟩
      · cases he
    obtain ⟨ad, had⟩ := hp
    have hrun : (Instr.loadAt t (F p)).run P w' = .ok u w' := hrun
    rw [had] at hrun ⊢
    simpa [Instr.loadAt, Instr.sureAddr, asAddr] using hrun
theorem resL_s {f : Fr} {h h' : Hp} {v : AV} : ∀ (l : List ResultVar) (k : List AV → Res), resL P f h l k = .ok v h' → ∃ as : List AV, k as = .ok v h' ∧ as.length = l.length ∧
    ∀ (Φ : Phi) (τ : Tau) (F : Wf.Fr) (w : World) (tmps : Array Value), FR Φ f F → Rel Φ τ h w → (∀ t, tmps.getD t undef = F t) → ∃ xs, RvL Φ as xs ∧ (l.mapM (resM tmps)).run P w = .ok xs w := by
  intro l
  induction l with
  | nil => intro k e; exact ⟨[], e, rfl, fun Φ τ F w tmps _ _ _ => ⟨[], by simp only [RvL], by simp⟩⟩
  | cons r l ih =>
    intro k e
    have e : resA P f h r (fun v => resL P f h l fun vs => k (v :: vs)) = .ok v h' := e
    obtain ⟨a, e1, s1⟩ := resA_s e
    obtain ⟨as, e2, hl, s2⟩ := ih _ e1
    refine ⟨a :: as, e2, by simp [hl], fun Φ τ F w tmps hF hR ht => ?_⟩
    obtain ⟨x, hx, r1⟩ := s1 Φ τ F w tmps hF hR ht
    obtain ⟨xs, hxs, r2⟩ := s2 Φ τ F w tmps hF hR ht
    refine ⟨x :: xs, by simp only [RvL]; exact ⟨x, xs, rfl, hx, hxs⟩, ?_⟩
    simp [List.mapM_cons, r1, r2]
theorem finR_s {fn : Func} {f : Fr} {h h' : Hp} {v : AV} (e : finR P f h fn.results.toList = .ok v h') : h' = h ∧
    ∀ (Φ : Phi) (τ : Tau) (F : Wf.Fr) (w : World), FR Φ f F → Rel Φ τ h w → ∃ x, Rv Φ v x ∧ ∀ tmps : Array Value, (∀ t, tmps.getD t undef = F t) → (results fn tmps).run P w = .ok x w := by
  unfold finR at e
  obtain ⟨as, e1, hl, s⟩ := resL_s _ _ e
  have hres : ∀ (w : World) (tmps : Array Value) (xs : List Value), (fn.results.toList.mapM (resM tmps)).run P w = .ok xs w → (results fn tmps).run P w = .ok (if xs.length = 1 then xs.getD 0 undef else .tuple xs.toArray) w := by
    intro w tmps xs hr
    have e9 : fn.results = fn.results.toList.toArray := by simp
    rw [results_eq, e9, List.mapM_toArray]
    simp only [Sem.run_bind, Sem.run_map, hr]
    simp
    cases xs with
    | nil => rfl
    | cons x xs => cases xs with
      | nil => rfl
      | cons y ys => rfl
  -- the values do not hang on the temporaries
  have det : ∀ (Φ : Phi) (τ : Tau) (F : Wf.Fr) (w : World), FR Φ f F → Rel Φ τ h w → ∃ xs, RvL Φ as xs ∧ ∀ tmps : Array Value, (∀ t, tmps.getD t undef = F t) → (fn.results.toList.mapM (resM tmps)).run P w = .ok xs w := by
    intro Φ τ F w hF hR
    by_cases hex : ∃ tmps : Array Value, ∀ t, tmps.getD t undef = F t
    · obtain ⟨t0, h0⟩ := hex
      obtain ⟨xs, h1, h2⟩ := s Φ τ F w t0 hF hR h0
      refine ⟨xs, h1, fun tmps ht => ?_⟩
      have : resM tmps = resM t0 := by
        funext r
        unfold resM
        cases r <;> simp only [ht, h0]
      rw [this]; exact h2
    · -- no such temporaries: any values will do
      have hsome : ∃ xs, RvL Φ as xs := by
        obtain ⟨xs, h1, _⟩ := s Φ τ (fun t => (Array.ofFn (n := 4096) fun i => F i).getD t undef) w (Array.ofFn (n := 4096) fun i => F i) (fun t ht => by
          have : (Array.ofFn (n := 4096) fun i => F i).getD t undef = F t := by simp [Array.getD_eq_getD_getElem?, ht]
          show Rv Φ (getF t f) ((Array.ofFn (n := 4096) fun i => F i).getD t undef)
          rw [this]; exact hF t ht) hR fun t => rfl
        exact ⟨xs, h1⟩
      obtain ⟨xs, hxs⟩ := hsome
      exact ⟨xs, hxs, fun tmps ht => absurd ⟨tmps, ht⟩ hex⟩
  cases as with
  | nil =>
    obtain ⟨rfl, rfl⟩ := ok_inj e1
    refine ⟨rfl, fun Φ τ F w hF hR => ?_⟩
    obtain ⟨xs, h1, h2⟩ := det Φ τ F w hF hR
    have hx : xs = [] := by simp only [RvL] at h1; exact h1
    subst hx
    refine ⟨.tuple #[], by simp only [Rv]; exact ⟨[], rfl, by simp only [RvL]⟩, fun tmps ht => ?_⟩
    have := hres w tmps [] (h2 tmps ht)
    simpa using this
  | cons a r =>
    cases r with
    | nil =>
      obtain ⟨rfl, rfl⟩ := ok_inj e1
      refine ⟨rfl, fun Φ τ F w hF hR => ?_⟩
      obtain ⟨xs, h1, h2⟩ := det Φ τ F w hF hR
      simp only [RvL] at h1
      obtain ⟨x, r, rfl, hx, rfl⟩ := h1
      refine ⟨x, hx, fun tmps ht => ?_⟩
      have := hres w tmps _ (h2 tmps ht)
      simpa using this
    | cons b r =>
      obtain ⟨rfl, rfl⟩ := ok_inj e1
      refine ⟨rfl, fun Φ τ F w hF hR => ?_⟩
      obtain ⟨xs, h1, h2⟩ := det Φ τ F w hF hR
      have hlen := h1.len
      refine ⟨.tuple xs.toArray, by simp only [Rv]; exact ⟨xs, rfl, h1⟩, fun tmps ht => ?_⟩
      have := hres w tmps _ (h2 tmps ht)
      rw [if_neg (by rw [hlen]; simp)] at this
      exact this
theorem resA_p {f : Fr} {h h' : Hp} {r : ResultVar} {k : AV → Res} {v : AV} (hk : ∀ a, k a ≠ .pn v h') : resA P f h r k ≠ .pn v h' := by
  intro e
  unfold resA at e
  cases r with
  | tmp t => exact hk _ e
  | cell p t =>
    simp only at e
    cases hq : evLoad P t (.tmp p) f h with
    | ok a h1 => rw [hq] at e; exact hk _ e
    | no m => rw [hq] at e; cases e
    | pn a h1 => rw [hq] at e; cases e
theorem resL_p {f : Fr} {h h' : Hp} {v : AV} : ∀ (l : List ResultVar) (k : List AV → Res), (∀ a, k a ≠ .pn v h') → resL P f h l k ≠ .pn v h' := by
  intro l
  induction l with
  | nil => intro k hk; exact hk []
  | cons r l ih => intro k hk; exact resA_p fun a => ih _ fun as => hk (a :: as)
theorem finR_p {f : Fr} {h h' : Hp} {v : AV} {l : List ResultVar} : finR P f h l ≠ .pn v h' := by
  unfold finR
  refine resL_p _ _ fun as => ?_
  cases as with
  | nil => intro e; cases e
  | cons a r => cases r <;> intro e <;> cases e
/-- a function's results -/
theorem finR_r {fn : Func} {f : Fr} {h : Hp} {r : Res} (e : finR P f h fn.results.toList = r) (hr : okR r) : ∃ v, r = .ok v h ∧
    ∀ (Φ : Phi) (τ : Tau) (F : Wf.Fr) (w : World), FR Φ f F → Rel Φ τ h w → ∃ x, Rv Φ v x ∧ ∀ tmps : Array Value, (∀ t, tmps.getD t undef = F t) → (results fn tmps).run P w = .ok x w := by
  cases r with
  | no m => exact hr.elim
  | pn v h' => exact absurd e finR_p
  | ok v h' =>
    obtain ⟨rfl, s⟩ := finR_s e
    exact ⟨v, rfl, s⟩
theorem rest_s (hc : CallS P call) (hm : P.follows .mixedOrders = true) {fn : Func} (hn : fn.ntmps ≤ 4096) {c : Code} {f : Fr} {h : Hp} {r : Res} (e : evRest P call fn.ntmps c fn.results.toList f h = r) (hr : okR r) :
    Gw h (hpR r h) ∧ ∀ (Φ : Phi) (τ : Tau) (F : Wf.Fr) (w : World), FR Φ f F → Rel Φ τ h w → Fre Φ h.n (hpR r h).n → W Fence.wide P c fn.ntmps [] (retQ P fn (RetE Φ τ h w r)) F w := by
  have hS := code_s (fc := Fence.wide) hc hn hm c f h
  unfold evRest at e
  revert e hS
  cases hq : evCode P call fn.ntmps c f h with
  | nx f1 h1 =>
    intro e hS
    obtain ⟨g, s⟩ := hS trivial
    obtain ⟨v, rfl, fr⟩ := finR_r e hr
    refine ⟨g, fun Φ τ F w hF hR hFr => (s Φ τ F w [] hF hR hFr).mono ?_⟩
    intro ex F1 w1 q
    cases ex with
    | normal =>
      obtain ⟨Φ1, τ1, a, b, t⟩ := q
      obtain ⟨x, hx, hrun⟩ := fr Φ1 τ1 F1 w1 a b
      exact ⟨x, hrun, v, h1, rfl, Φ1, τ1, hx, b, t⟩
    | _ => exact q.elim
  | rt f1 h1 =>
    intro e hS
    obtain ⟨g, s⟩ := hS trivial
    obtain ⟨v, rfl, fr⟩ := finR_r e hr
    refine ⟨g, fun Φ τ F w hF hR hFr => (s Φ τ F w [] hF hR hFr).mono ?_⟩
    intro ex F1 w1 q
    cases ex with
    | ret =>
      obtain ⟨Φ1, τ1, a, b, t⟩ := q
      obtain ⟨x, hx, hrun⟩ := fr Φ1 τ1 F1 w1 a b
      exact ⟨x, hrun, v, h1, rfl, Φ1, τ1, hx, b, t⟩
    | _ => exact q.elim
  | pn v f1 h1 =>
    intro e hS
    obtain ⟨g, s⟩ := hS trivial
    have e : Res.pn v h1 = r := e
    subst e
    refine ⟨g, fun Φ τ F w hF hR hFr => (s Φ τ F w [] hF hR hFr).mono ?_⟩
    intro ex F1 w1 q
    cases ex with
    | panic ch =>
      obtain ⟨x, Φ1, τ1, d1, d2, a, b, t⟩ := q
      exact ⟨v, h1, rfl, x, Φ1, τ1, d1, d2, b, t⟩
    | _ => exact q.elim
  | ex i f1 h1 => intro e; have e : Res.no 53 = r := e; subst e; exact hr.elim
  | no m => intro e; have e : Res.no m = r := e; subst e; exact hr.elim
/-! ### deferred calls -/
theorem splitR_s {c : Code} {t u : Tmp} {b : Code} (h : splitR c = some (t, u, b)) : ∃ (id : Nat) (ts : Array TypeId) (y1 y2 : TypeId) (p1 p2 : String) (a1 a2 : Array Edge),
    c = .seq (.region id #[⟨some t, .call ⟨.builtin .recover, #[], ts⟩, y1, p1, a1, none⟩, ⟨some u, .assign (.tmp t), y2, p2, a2, none⟩] false) b := by
  unfold splitR at h
  split at h
  · rename_i id ops b'
    split at h
    · rename_i t' args ts y1 p1 a1 u' v' y2 p2 a2 hops
      split at h
      · rename_i hargs
        cases hb : Nat.beq t' v' with
        | false => rw [hb] at h; cases h
        | true =>
          rw [hb] at h
          have := Nat.eq_of_beq_eq_true hb
          subst this
          simp only [cond_true, Option.some.injEq, Prod.mk.injEq] at h
          obtain ⟨rfl, rfl, rfl⟩ := h
          have ha : args = #[] := by apply Array.ext'; rw [hargs]
          subst ha
          have ho : ops = #[⟨some t', .call ⟨.builtin .recover, #[], ts⟩, y1, p1, a1, none⟩, ⟨some u', .assign (.tmp t'), y2, p2, a2, none⟩] := by apply Array.ext'; rw [hops]
          subst ho
          exact ⟨id, ts, y1, y2, p1, p2, a1, a2, rfl⟩
      · cases h
    · cases h
  · cases h
theorem splitD_s {c a b : Code} {t : Tmp} {k : FuncId} {caps : List Operand} (h : splitD c = some (a, t, k, caps, b)) : ∃ (id : Nat) (ts : Array TypeId) (cp : Array Operand) (y1 y2 : TypeId) (p1 p2 : String) (a1 a2 : Array Edge), cp.toList = caps ∧
    c = .seq a (.seq (.region id #[⟨some t, .makeFunc (.func k) #[] cp, y1, p1, a1, none⟩, ⟨none, .defer ⟨.value (.tmp t), #[], ts⟩, y2, p2, a2, none⟩] false) b) := by
  unfold splitD at h
  split at h
  · rename_i a' id ops b'
    split at h
    · rename_i t' k' first cp y1 p1 a1 u' args ts y2 p2 a2 hops
      split at h
      · rename_i hf hargs
        cases hb : Nat.beq t' u' with
        | false => rw [hb] at h; cases h
        | true =>
          rw [hb] at h
          have := Nat.eq_of_beq_eq_true hb
          subst this
          simp only [cond_true, Option.some.injEq, Prod.mk.injEq] at h
          obtain ⟨rfl, rfl, rfl, rfl, rfl⟩ := h
          have ha : args = #[] := by apply Array.ext'; rw [hargs]
          subst ha
          have hf : first = #[] := by apply Array.ext'; rw [hf]
          subst hf
          have ho : ops = #[⟨some t', .makeFunc (.func k') #[] cp, y1, p1, a1, none⟩, ⟨none, .defer ⟨.value (.tmp t'), #[], ts⟩, y2, p2, a2, none⟩] := by apply Array.ext'; rw [hops]
          subst ho
          exact ⟨id, ts, cp, y1, y2, p1, p2, a1, a2, rfl, rfl⟩
      · cases h
    · cases h
  · cases h
theorem tmps0 {n : Nat} {vs : List Value} (hl : vs.length ≤ n) : Wf.Good n [] { tmps := vs.toArray ++ Array.replicate (n - vs.toArray.size) undef, defers := [] } ∧ frOf { tmps := vs.toArray ++ Array.replicate (n - vs.toArray.size) undef, defers := [] } = argFr vs := by
  refine ⟨⟨by simp; omega, rfl⟩, ?_⟩
  funext t
  simp only [frOf, argFr, Array.getD_eq_getD_getElem?, List.getD_eq_getElem?_getD, Array.getElem?_append]
  by_cases ht : t < vs.length
  · simp [ht]
  · simp only [List.size_toArray, ht, if_false]
    rw [List.getElem?_eq_none (by omega)]
    simp only [Array.getElem?_replicate]
    split <;> rfl
/-- what the deferred call finds: no panic, or one -/
def Mode (Φ : Phi) (p : AV) (u : FrameMode) : Prop := (p = .nif ∧ u = .returning) ∨ ∃ x, u = .panicking [{ v := x, recovered := false }] ∧ Rv Φ p x
theorem def_s (hc : CallS P call) (hm : P.follows .mixedOrders = true) {k : FuncId} {args : List AV} {p : AV} {h : Hp} {q : Hp → Res} {r : Res} (e : evDef P call k args p h q = r) (hr : okR r) :
    ∃ fn c h2, P.funcs[k]? = some fn ∧ (fn.name == "runtime.NumGoroutine") = false ∧ fn.body = some c ∧ q h2 = r ∧ Gw h h2 ∧
    ∀ (Φ : Phi) (τ : Tau) (w : World) (vs : List Value) (u : FrameMode), Mode Φ p u → Rel Φ τ h w → Fre Φ h.n h2.n → RvL Φ args vs →
      CallsD P k vs.toArray u w fun en u' w' => (∃ y, en = .returned y) ∧ settle u' = .returning ∧ ∃ Φ' τ', Rel Φ' τ' h2 w' ∧ Tw Φ τ h w Φ' τ' h2.n w' := by
  unfold evDef at e
  split at e
  · subst e; exact hr.elim
  · rename_i fn hf
    split at e
    · subst e; exact hr.elim
    · rename_i c hb
      split at e
      · subst e; exact hr.elim
      · rename_i s hs
        obtain ⟨t, u0, b⟩ := s
        rw [recBk] at e
        split at e
        · rename_i hcd
          obtain ⟨hcd, h6⟩ := and_t hcd
          obtain ⟨hcd, h5⟩ := and_t hcd
          obtain ⟨hcd, h4⟩ := and_t hcd
          obtain ⟨hcd, h3⟩ := and_t hcd
          obtain ⟨h1, h2⟩ := and_t hcd
          have h1 := Nat.le_of_ble_eq_true h1
          have h2 := Nat.le_of_ble_eq_true h2
          have h3 : t < fn.ntmps := of_blt h3
          have h4 : u0 < fn.ntmps := of_blt h4
          have h6 := not_t h6
          rw [len_eq] at h2
          have hres : fn.results = #[] := by
            unfold nilB at h5
            split at h5
            · rename_i hh; apply Array.ext'; rw [hh]
            · cases h5
          obtain ⟨id, ts, y1, y2, p1, p2, a1, a2, rfl⟩ := splitR_s hs
          have hS := code_s (fc := Fence.wide) hc h1 hm b (setF u0 p (setF t p (frame0 args 0))) h
          -- the end, whichever
          have fin : ∀ {f2 : Fr} {h2' : Hp}, (evCode P call fn.ntmps b (setF u0 p (setF t p (frame0 args 0))) h = .nx f2 h2' ∨ evCode P call fn.ntmps b (setF u0 p (setF t p (frame0 args 0))) h = .rt f2 h2') → q h2' = r →
              ∃ fn' c' h2, P.funcs[k]? = some fn' ∧ (fn'.name == "runtime.NumGoroutine") = false ∧ fn'.body = some c' ∧ q h2 = r ∧ Gw h h2 ∧
              ∀ (Φ : Phi) (τ : Tau) (w : World) (vs : List Value) (u : FrameMode), Mode Φ p u → Rel Φ τ h w → Fre Φ h.n h2.n → RvL Φ args vs →
                CallsD P k vs.toArray u w fun en u' w' => (∃ y, en = .returned y) ∧ settle u' = .returning ∧ ∃ Φ' τ', Rel Φ' τ' h2 w' ∧ Tw Φ τ h w Φ' τ' h2.n w' := by
            intro f2 h2' ho hq
            obtain ⟨g, sS⟩ := hS (by rcases ho with ho | ho <;> rw [ho] <;> trivial)
            have hh : hpO (evCode P call fn.ntmps b (setF u0 p (setF t p (frame0 args 0))) h) h = h2' := by rcases ho with ho | ho <;> rw [ho] <;> rfl
            rw [hh] at g sS
            refine ⟨fn, _, h2', hf, h6, hb, hq, g, fun Φ τ w vs u hu hR hFr hv => ?_⟩
            refine callsD_of_wpS hf hb fun c₀ cs hc0 => ?_
            obtain ⟨hgood, hfr⟩ := tmps0 (n := fn.ntmps) (vs := vs) (by rw [hv.len]; exact h2)
            -- what recover yields
            obtain ⟨x, c1, hx, hset, hrec⟩ : ∃ (x : Value) (c1 : FrameMode), Rv Φ p x ∧ settle c1 = .returning ∧ ((recoverD (c₀ :: cs) = some (x, { c₀ with mode := c1 } :: cs)) ∨ (recoverD (c₀ :: cs) = none ∧ x = .nilIface ∧ c₀ :: cs = { c₀ with mode := c1 } :: cs)) := by
              rcases hu with ⟨rfl, rfl⟩ | ⟨x, rfl, hx⟩
              · refine ⟨.nilIface, .returning, by simp only [Rv], rfl, .inr ⟨?_, rfl, ?_⟩⟩
                · simp [recoverD, hc0]
                · rw [← hc0]
              · exact ⟨x, .panicking [{ v := x, recovered := true }], hx, rfl, .inl (by simp [recoverD, hc0])⟩
            refine wpS_seq (wpS_region ?_)
            have hrange : List.range (#[(⟨some t, .call ⟨.builtin .recover, #[], ts⟩, y1, p1, a1, none⟩ : Oper), ⟨some u0, .assign (.tmp t), y2, p2, a2, none⟩]).size = [0, 1] := rfl
            rw [hrange]
            have hend : ∀ (act : Act), Wf.Good fn.ntmps [] act → frOf act = upd (upd (argFr vs) t x) u0 x → b.wpS P (bodyPostS P fn c₀ cs fun en u' w' => (∃ y, en = .returned y) ∧ settle u' = .returning ∧ ∃ Φ' τ', Rel Φ' τ' h2' w' ∧ Tw Φ τ h w Φ' τ' h2'.n w') act ({ c₀ with mode := c1 } :: cs) w := by
              intro act hact hfa
              have hFR : FR Φ (setF u0 p (setF t p (frame0 args 0))) (upd (upd (argFr vs) t x) u0 x) := ((frame0_s hv (by omega)).set (Nat.lt_of_lt_of_le h3 h1) hx).set (Nat.lt_of_lt_of_le h4 h1) hx
              have hW := (sS Φ τ _ w [] hFR hR hFr).wide hact hfa
              refine wpS_of_wp (wp_mono hW ?_)
              rintro ex act' w' ⟨ga, qa⟩
              have done : ∀ {Φ' : Phi} {τ' : Tau}, Rel Φ' τ' h2' w' → Tw Φ τ h w Φ' τ' h2'.n w' → act'.defers = [] ∧ ∃ u', ({ c₀ with mode := c1 } :: cs : List Frame) = { c₀ with mode := u' } :: cs ∧ ∃ v, (results fn act'.tmps).run P w' = .ok v w' ∧ ((∃ y, Ending.returned v = .returned y) ∧ settle u' = .returning ∧ ∃ Φ' τ', Rel Φ' τ' h2' w' ∧ Tw Φ τ h w Φ' τ' h2'.n w') := by
                intro Φ' τ' k1 k2
                refine ⟨ga.defers, c1, rfl, .tuple #[], ?_, ⟨_, rfl⟩, hset, Φ', τ', k1, k2⟩
                rw [results_eq, hres]
                simp
              rcases ho with ho | ho <;> rw [ho] at qa
              · cases ex with
                | normal => obtain ⟨Φ', τ', _, k1, k2⟩ := qa; exact done k1 k2
                | _ => exact qa.elim
              · cases ex with
                | ret => obtain ⟨Φ', τ', _, k1, k2⟩ := qa; exact done k1 k2
                | _ => exact qa.elim
            have hput : ∀ (act : Act), Wf.Good fn.ntmps [] act → frOf act = argFr vs → Wf.Good fn.ntmps [] ((act.put (some t) x).put (some u0) x) ∧ frOf ((act.put (some t) x).put (some u0) x) = upd (upd (argFr vs) t x) u0 x := by
              intro act hact hfa
              refine ⟨(hact.put _ _).put _ _, ?_⟩
              rw [frOf_put (hact.put _ _) (some u0) (show lo fn.ntmps (some u0) from h4), frOf_put hact (some t) (show lo fn.ntmps (some t) from h3), hfa]; rfl
            have hev : ∀ (act : Act), Wf.Good fn.ntmps [] act → (act.put (some t) x).eval (.tmp t) = x := by
              intro act hact
              rw [eval_eq, frOf_put hact (some t) (show lo fn.ntmps (some t) from h3)]
              show upd (frOf act) t x t = x
              simp [upd]
            obtain ⟨k1, k2⟩ := hput _ hgood hfr
            have k3 := hev _ hgood
            have h0 : (execOp (Act.eval { tmps := vs.toArray ++ Array.replicate (fn.ntmps - vs.toArray.size) undef, defers := [] }) ⟨some t, .call ⟨.builtin .recover, #[], ts⟩, y1, p1, a1, none⟩).run P w = .ok .recover w := by
              simp [execOp, resolve, invoke, builtin]
            have hop0 : (#[(⟨some t, .call ⟨.builtin .recover, #[], ts⟩, y1, p1, a1, none⟩ : Oper), ⟨some u0, .assign (.tmp t), y2, p2, a2, none⟩])[0]? = some ⟨some t, .call ⟨.builtin .recover, #[], ts⟩, y1, p1, a1, none⟩ := rfl
            have hop1 : (#[(⟨some t, .call ⟨.builtin .recover, #[], ts⟩, y1, p1, a1, none⟩ : Oper), ⟨some u0, .assign (.tmp t), y2, p2, a2, none⟩])[1]? = some ⟨some u0, .assign (.tmp t), y2, p2, a2, none⟩ := rfl
            have hw0 : ∀ (z : Nat → Option Bool), Region.wanted (⟨some t, .call ⟨.builtin .recover, #[], ts⟩, y1, p1, a1, none⟩ : Oper) z = true := fun z => rfl
            have hw1 : ∀ (z : Nat → Option Bool), Region.wanted (⟨some u0, .assign (.tmp t), y2, p2, a2, none⟩ : Oper) z = true := fun z => rfl
            have second : ∀ cs', cs' = { c₀ with mode := c1 } :: cs → wpOpsS P #[(⟨some t, .call ⟨.builtin .recover, #[], ts⟩, y1, p1, a1, none⟩ : Oper), ⟨some u0, .assign (.tmp t), y2, p2, a2, none⟩] (Exit.thenS (b.wpS P (bodyPostS P fn c₀ cs fun en u' w' => (∃ y, en = .returned y) ∧ settle u' = .returning ∧ ∃ Φ' τ', Rel Φ' τ' h2' w' ∧ Tw Φ τ h w Φ' τ' h2'.n w')) (bodyPostS P fn c₀ cs fun en u' w' => (∃ y, en = .returned y) ∧ settle u' = .returning ∧ ∃ Φ' τ', Rel Φ' τ' h2' w' ∧ Tw Φ τ h w Φ' τ' h2'.n w')) [1] (Act.put { tmps := vs.toArray ++ Array.replicate (fn.ntmps - vs.toArray.size) undef, defers := [] } (some t) x) cs' w := by
              rintro cs' rfl
              simp only [wpOpsS, hop1, hw1, if_true]
              have h1' : (execOp (Act.put { tmps := vs.toArray ++ Array.replicate (fn.ntmps - vs.toArray.size) undef, defers := [] } (some t) x).eval ⟨some u0, .assign (.tmp t), y2, p2, a2, none⟩).run P w = .ok (.value x) w := by
                simp only [execOp, k3, Sem.run_pure]
              rw [h1']
              exact hend _ k1 k2
            unfold wpOpsS
            simp only [hop0, hw0, if_true, h0]
            rcases hrec with hrec | ⟨hrec, rfl, hcs⟩
            · rw [hrec]; exact second _ rfl
            · rw [hrec]; exact second _ hcs
          revert e
          cases ho : evCode P call fn.ntmps b (setF u0 p (setF t p (frame0 args 0))) h with
          | nx f2 h2' => intro e; exact fin (.inl ho) e
          | rt f2 h2' => intro e; exact fin (.inr ho) e
          | ex i f2 h2' => intro e; have e : Res.no 55 = r := e; subst e; exact hr.elim
          | pn v f2 h2' => intro e; have e : Res.no 55 = r := e; subst e; exact hr.elim
          | no m => intro e; have e : Res.no m = r := e; subst e; exact hr.elim
        · subst e; exact hr.elim
theorem invoke_enter {fn : Func} {c : Code} {k : FuncId} {cs : Array Value} {w : World} (hf : P.funcs[k]? = some fn) (hname : (fn.name == "runtime.NumGoroutine") = false) (hb : fn.body = some c) : (invoke (.fn (.func k) cs) #[]).run P w = .ok (.enter k cs) w := by
  have h1 : fn.name ≠ "runtime.NumGoroutine" := by simpa using hname
  simp [invoke, callFunc, hf, h1, hb]
theorem defer_s (hc : CallS P call) (hm : P.follows .mixedOrders = true) {fn : Func} (hn : fn.ntmps ≤ 4096) {t : Tmp} {k : FuncId} {caps : List Operand} {b : Code} {f : Fr} {h : Hp} {r : Res} (e : evDefer P call fn.ntmps t k caps b fn.results.toList f h = r) (hr : okR r)
    {id : Nat} {ts : Array TypeId} {cp : Array Operand} {y1 y2 : TypeId} {p1 p2 : String} {a1 a2 : Array Edge} (hcp : cp.toList = caps) :
    Gw h (hpR r h) ∧ ∀ (Φ : Phi) (τ : Tau) (a : Act) (w : World), Wf.Good fn.ntmps [] a → FR Φ f (frOf a) → Rel Φ τ h w → Fre Φ h.n (hpR r h).n →
      (Code.seq (.region id #[⟨some t, .makeFunc (.func k) #[] cp, y1, p1, a1, none⟩, ⟨none, .defer ⟨.value (.tmp t), #[], ts⟩, y2, p2, a2, none⟩] false) b).wp P (bodyPostD P fn (RetE Φ τ h w r)) a w := by
  subst hcp
  unfold evDefer at e
  rw [recBk] at e
  split at e
  · rename_i htn
    have htn : t < fn.ntmps := of_blt htn
    have hS := code_s (fc := Fence.wide) hc hn hm b (setF t (.fn k (opds f cp.toList)) f) h
    have main : ∀ {out : Out} {p : AV} {f1 : Fr} {h1 : Hp}, evCode P call fn.ntmps b (setF t (.fn k (opds f cp.toList)) f) h = out → okO out → hpO out h = h1 → evDef P call k (opds f cp.toList) p h1 (fun h => finR P f1 h fn.results.toList) = r →
        (∀ (Φ : Phi) (τ : Tau) (h : Hp) (w : World) (ex : Exit) (F1 : Wf.Fr) (w1 : World), OutQ Φ τ h w out ex F1 w1 → ∃ u Φ1 τ1, ((ex = .normal ∧ u = .returning) ∨ (ex = .ret ∧ u = .returning) ∨ ∃ ch, ex = .panic ch ∧ u = .panicking ch) ∧ Mode Φ1 p u ∧ FR Φ1 f1 F1 ∧ Rel Φ1 τ1 h1 w1 ∧ Tw Φ τ h w Φ1 τ1 h1.n w1) →
        Gw h (hpR r h) ∧ ∀ (Φ : Phi) (τ : Tau) (a : Act) (w : World), Wf.Good fn.ntmps [] a → FR Φ f (frOf a) → Rel Φ τ h w → Fre Φ h.n (hpR r h).n →
          (Code.seq (.region id #[⟨some t, .makeFunc (.func k) #[] cp, y1, p1, a1, none⟩, ⟨none, .defer ⟨.value (.tmp t), #[], ts⟩, y2, p2, a2, none⟩] false) b).wp P (bodyPostD P fn (RetE Φ τ h w r)) a w := by
      intro out p f1 h1 ho hok hh1 he hout
      obtain ⟨g1, s1⟩ := hS (by rw [ho]; exact hok)
      rw [ho, hh1] at g1 s1
      obtain ⟨fn', c', h2, hf', hname', hb', hq, g2, s2⟩ := def_s hc hm he hr
      obtain ⟨v, rfl, fr⟩ := finR_r hq hr
      refine ⟨g1.trans g2, fun Φ τ a w ha hF hR hFr => ?_⟩
      have k1 : Grow h h1 := g1 hR.lim
      have k2 : Grow h1 h2 := g2 (k1.lim hR.lim)
      have hFr : Fre Φ h.n h2.n := hFr
      -- the region
      have hcaps := opds_sound hF cp.toList
      generalize hcv : (cp.toList.map (fe (frOf a))) = cvs at hcaps
      have hce : cp.map a.eval = cvs.toArray := by apply Array.ext'; rw [eval_eq, ← hcv]; simp
      refine wp_seq (wp_region ?_)
      have hrange : List.range (#[(⟨some t, .makeFunc (.func k) #[] cp, y1, p1, a1, none⟩ : Oper), ⟨none, .defer ⟨.value (.tmp t), #[], ts⟩, y2, p2, a2, none⟩]).size = [0, 1] := rfl
      rw [hrange]
      have hop0 : (#[(⟨some t, .makeFunc (.func k) #[] cp, y1, p1, a1, none⟩ : Oper), ⟨none, .defer ⟨.value (.tmp t), #[], ts⟩, y2, p2, a2, none⟩])[0]? = some ⟨some t, .makeFunc (.func k) #[] cp, y1, p1, a1, none⟩ := rfl
      have hop1 : (#[(⟨some t, .makeFunc (.func k) #[] cp, y1, p1, a1, none⟩ : Oper), ⟨none, .defer ⟨.value (.tmp t), #[], ts⟩, y2, p2, a2, none⟩])[1]? = some ⟨none, .defer ⟨.value (.tmp t), #[], ts⟩, y2, p2, a2, none⟩ := rfl
      have hw0 : ∀ (z : Nat → Option Bool), Region.wanted (⟨some t, .makeFunc (.func k) #[] cp, y1, p1, a1, none⟩ : Oper) z = true := fun z => rfl
      have hw1 : ∀ (z : Nat → Option Bool), Region.wanted (⟨none, .defer ⟨.value (.tmp t), #[], ts⟩, y2, p2, a2, none⟩ : Oper) z = true := fun z => rfl
      simp only [wpOps, hop0, hop1, hw0, hw1, if_true]
      left
      unfold Oper.wp
      have r0 : (execOp a.eval ⟨some t, .makeFunc (.func k) #[] cp, y1, p1, a1, none⟩).run P w = .ok (.value (.func (.func k) #[] cvs.toArray)) w := by
        simp [execOp, Instr.makeFunc, hce]
      rw [r0]
      show (_ : Prop) ∨ _
      left
      have hev : (a.put (some t) (.func (.func k) #[] cvs.toArray)).eval (.tmp t) = .func (.func k) #[] cvs.toArray := by
        rw [eval_eq, frOf_put ha (some t) (show lo fn.ntmps (some t) from htn)]
        show upd (frOf a) t _ t = _
        simp [upd]
      have r1 : (execOp (a.put (some t) (.func (.func k) #[] cvs.toArray)).eval ⟨none, .defer ⟨.value (.tmp t), #[], ts⟩, y2, p2, a2, none⟩).run P w = .ok (.defer ⟨.fn (.func k) cvs.toArray, #[]⟩) w := by
        simp [execOp, resolve, Deferred.ofValue, hev]
      rw [r1]
      -- the rest
      show (b.wp P _ _ w)
      have ga : Wf.Good fn.ntmps [⟨.fn (.func k) cvs.toArray, #[]⟩] (({ (a.put (some t) (.func (.func k) #[] cvs.toArray)) with defers := (⟨.fn (.func k) cvs.toArray, #[]⟩ : Deferred) :: (a.put (some t) (.func (.func k) #[] cvs.toArray)).defers } : Act).put none undef) := by
        have := ha.put (some t) (.func (.func k) #[] cvs.toArray)
        exact ⟨this.size, by show _ :: (a.put (some t) _).defers = _; rw [this.defers]⟩
      have gf : frOf (({ (a.put (some t) (.func (.func k) #[] cvs.toArray)) with defers := (⟨.fn (.func k) cvs.toArray, #[]⟩ : Deferred) :: (a.put (some t) (.func (.func k) #[] cvs.toArray)).defers } : Act).put none undef) = upd (frOf a) t (.func (.func k) #[] cvs.toArray) := by
        have := frOf_put ha (some t) (show lo fn.ntmps (some t) from htn) (.func (.func k) #[] cvs.toArray)
        exact this
      have hF1 : FR Φ (setF t (.fn k (opds f cp.toList)) f) (upd (frOf a) t (.func (.func k) #[] cvs.toArray)) := hF.set (Nat.lt_of_lt_of_le htn hn) (by simp only [Rv]; exact ⟨cvs, rfl, hcaps⟩)
      refine wp_mono ((s1 Φ τ _ w [⟨.fn (.func k) cvs.toArray, #[]⟩] hF1 hR (fun id x1 x2 => hFr id x1 (Nat.lt_of_lt_of_le x2 k2.le))).wide ga gf) ?_
      rintro ex a' w1 ⟨gg, qq⟩
      obtain ⟨u, Φ1, τ1, hex, hmode, hFR1, hR1, t1⟩ := hout Φ τ h w ex (frOf a') w1 qq
      have hune : u ≠ .run := by
        rcases hmode with ⟨_, rfl⟩ | ⟨x, rfl, _⟩ <;> intro hq <;> cases hq
      have leaves : Leaves P fn a'.tmps (RetE Φ τ h w (.ok v h2)) a'.defers u w1 := by
        rw [gg.defers]
        refine leaves_cons hune (invoke_enter hf' hname' hb') ((s2 Φ1 τ1 w1 cvs u hmode hR1 ?_ (RvL.mono t1.sub _ _ hcaps)).mono ?_)
        · intro id x1 x2
          rw [t1.same id (fun hh => by have : id < h1.n := hh.2; omega)]
          exact hFr id (Nat.le_trans k1.le x1) x2
        · rintro en u' w2 ⟨⟨y, rfl⟩, hset, Φ2, τ2, hR2, t2⟩
          show Leaves P fn a'.tmps _ [] (settle u') w2
          rw [hset]
          obtain ⟨x, hx, hrun⟩ := fr Φ2 τ2 (frOf a') w2 (hFR1.mono t2.sub) hR2
          exact ⟨x, hrun a'.tmps (fun _ => rfl), v, h2, rfl, Φ2, τ2, hx, hR2, t1.trans k1 k2.le (k1.lim hR.lim) t2⟩
      rcases hex with ⟨rfl, rfl⟩ | ⟨rfl, rfl⟩ | ⟨ch, rfl, rfl⟩
      · exact leaves
      · exact leaves
      · exact leaves
    cases ho : evCode P call fn.ntmps b (setF t (.fn k (opds f cp.toList)) f) h with
    | nx f1 h1 =>
      rw [ho] at e
      refine main (p := .nif) (f1 := f1) ho trivial rfl e ?_
      intro Φ τ h w ex F1 w1 q
      cases ex with
      | normal => obtain ⟨Φ1, τ1, x1, x2, x3⟩ := q; exact ⟨.returning, Φ1, τ1, .inl ⟨rfl, rfl⟩, .inl ⟨rfl, rfl⟩, x1, x2, x3⟩
      | _ => exact q.elim
    | rt f1 h1 =>
      rw [ho] at e
      refine main (p := .nif) (f1 := f1) ho trivial rfl e ?_
      intro Φ τ h w ex F1 w1 q
      cases ex with
      | ret => obtain ⟨Φ1, τ1, x1, x2, x3⟩ := q; exact ⟨.returning, Φ1, τ1, .inr (.inl ⟨rfl, rfl⟩), .inl ⟨rfl, rfl⟩, x1, x2, x3⟩
      | _ => exact q.elim
    | pn v f1 h1 =>
      rw [ho] at e
      refine main (p := v) (f1 := f1) ho trivial rfl e ?_
      intro Φ τ h w ex F1 w1 q
      cases ex with
      | panic ch => obtain ⟨x, Φ1, τ1, rfl, d2, x1, x2, x3⟩ := q; exact ⟨_, Φ1, τ1, .inr (.inr ⟨_, rfl, rfl⟩), .inr ⟨x, rfl, d2⟩, x1, x2, x3⟩
      | _ => exact q.elim
    | ex i f1 h1 => rw [ho] at e; have e : Res.no 53 = r := e; subst e; exact hr.elim
    | no m => rw [ho] at e; have e : Res.no m = r := e; subst e; exact hr.elim
  · subst e; exact hr.elim
/-! ### ranges over functions -/
theorem getL_r {h : Hp} {id : Nat} {k : Bool → Nat → List Tmp → Code → Code → TF AV → Res} {m : Nat} {r : Res} (e : getL h id k (.no m) = r) (hr : okR r) : ∃ b busy n ps a bb f, id < h.n ∧ get5 id h.t = some b ∧ b.ob = .lp busy n ps a bb f ∧ k busy n ps a bb f = r := by
  unfold getL at e
  rw [recBk] at e
  split at e
  · rename_i h1
    cases hb : get5 id h.t with
    | none => rw [hb] at e; subst e; exact hr.elim
    | some b =>
      rw [hb] at e
      obtain ⟨ty, ex, ro, cs, ob⟩ := b
      cases ob <;> first | exact ⟨_, _, _, _, _, _, _, of_blt h1, rfl, rfl, e⟩ | (subst e; exact hr.elim)
  · subst e; exact hr.elim
theorem setPs_r {m : Nat} {r : Res} (hm : m ≤ 4096) (hr : okR r) : ∀ (ps : List Tmp) (l : List AV) (f : Fr) (k : Fr → Res), setPs m ps l f k = r → ∃ f1, k f1 = r ∧ l.length = ps.length ∧
    ∀ (Φ : Phi) (vs : List Value) (tm : Array Value), RvL Φ l vs → tm.size = m → FR Φ f (fun t => tm.getD t undef) →
      ((ps.zip vs).foldl (fun tm p => tm.setIfInBounds p.1 p.2) tm).size = m ∧ FR Φ f1 fun t => ((ps.zip vs).foldl (fun tm p => tm.setIfInBounds p.1 p.2) tm).getD t undef := by
  intro ps
  induction ps with
  | nil =>
    intro l f k e
    cases l with
    | nil => exact ⟨f, e, rfl, fun Φ vs tm _ hs hF => ⟨hs, hF⟩⟩
    | cons a l => have e : Res.no 81 = r := e; subst e; exact hr.elim
  | cons t ps ih =>
    intro l f k e
    cases l with
    | nil => have e : Res.no 81 = r := e; subst e; exact hr.elim
    | cons a l =>
      have e : (Bool.rec (Res.no 81) (setPs m ps l (setF t a f) k) (Nat.blt t m) : Res) = r := e
      rw [recBk] at e
      split at e
      · rename_i ht
        have ht : t < m := of_blt ht
        obtain ⟨f1, e1, hl, s⟩ := ih l (setF t a f) k e
        refine ⟨f1, e1, by simp [hl], fun Φ vs tm hv hs hF => ?_⟩
        simp only [RvL] at hv
        obtain ⟨v, rest, rfl, h1, h2⟩ := hv
        refine s Φ rest (tm.setIfInBounds t v) h2 (by simp [hs]) ?_
        intro x hx
        rw [getF_setF _ _ _ _ hx (Nat.lt_of_lt_of_le ht hm)]
        simp only [Array.getD_eq_getD_getElem?, Array.getElem?_setIfInBounds]
        by_cases e9 : x = t
        · subst e9
          rw [if_pos rfl, if_pos rfl, if_pos (by rw [hs]; exact ht)]
          exact h1
        · rw [if_neg e9, if_neg (fun e => e9 e.symm)]
          have := hF x hx
          simp only [Array.getD_eq_getD_getElem?] at this
          exact this
      · subst e; exact hr.elim
theorem LR.turn {Φ : Phi} {τ : Tau} {h : Hp} {w : World} {id : Nat} {b : Blk} {en : Ent} {l : Loop} (hR : Rel Φ τ h w) (hid : id < h.n) (hb : get5 id h.t = some b) (L : LR Φ τ w b en id l) {busy busy' : Bool} {n : Nat} {ps : List Tmp} {a bb : Code} {f : TF AV}
    (hob : b.ob = .lp busy n ps a bb f) : Rel Φ τ (putB h id (some (lpB busy' n ps a bb f))) (setOb w en.g (.loop { l with state := if busy' then .busy else .ready, pending := none })) ∧
      Tw Φ τ h w Φ τ h.n (setOb w en.g (.loop { l with state := if busy' then .busy else .ready, pending := none })) := by
  have hlt := (Array.getElem?_eq_some_iff.1 L.obj).1
  refine hR.turn (en := en) hid hb L.lab rfl rfl rfl setOb_size (fun g hg => setOb_other hg) (.inr (.inr (.inr ⟨en, { l with state := if busy' then .busy else .ready, pending := none }, L.ent, L.lab, rfl, setOb_at hlt, ?_⟩)))
  obtain ⟨y0, y1, y2, y3, y4, y5, h1, h2, h3, h4, h5, h6, h7, h8, h9⟩ := L.ob
  rw [hob] at h1
  cases h1
  exact ⟨busy', n, ps, a, bb, f, rfl, rfl, rfl, h4, h5, h6, h7, h8, h9⟩
theorem run_getLoop {w : World} {l : Nat} {r : Loop} (h : w.heap[l]? = some (.loop r)) : (Instr.getLoop l).run P w = .ok r w := by
  simp [Instr.getLoop, getObj, Sem.run, h]
theorem round_s (hc : CallS P call) (hm : P.follows .mixedOrders = true) {id : Nat} {args : List AV} {h : Hp} {r : Res} (e : evRound P call id args h = r) (hr : okR r) : ∃ v h', r = .ok v h' ∧ (h.n ≤ big5 → Grow h h') ∧
    ∀ Φ τ w vs en, Rel Φ τ h w → Fre Φ h.n h'.n → RvL Φ args vs → Φ id = some en → ∃ l g tmps as bo, (Instr.yield en.g vs.toArray).run P w = .ok (.round l g tmps as bo) w ∧
      RoundIn Fence.wide 0 P l g tmps as bo w fun e w' => ∃ x, e = .returned x ∧ ∃ Φ' τ', Rv Φ' v x ∧ Rel Φ' τ' h' w' ∧ Tw Φ τ h w Φ' τ' h'.n w' := by
  unfold evRound at e
  obtain ⟨b0, busy, n, ps, a, bb, f, hid, hb0, hob0, e⟩ := getL_r e hr
  rw [recBk] at e
  split at e
  · subst e; exact hr.elim
  · rename_i hbusy
    have hbn : busy = false ∧ n ≤ 4096 := by simpa using hbusy
    obtain ⟨rfl, hn⟩ := hbn
    · obtain ⟨f1, e, hlen, hps⟩ := setPs_r hn hr ps args f _ e
      revert e
      cases ha : evCode P call n a f1 h with
      | nx f2 h2 =>
        intro e
        obtain ⟨b2, busy2, n2, ps2, a2, bb2, g2, hid2, hb2, hob2, e⟩ := getL_r e hr
        rw [recBk] at e
        split at e
        · subst e; exact hr.elim
        · rename_i hbusy2
          have hbusy2 : busy2 = false := by simpa using hbusy2
          subst hbusy2
          revert e
          cases hbo : evCode P call n bb f2 (putB h2 id (some (lpB true n2 ps2 a2 bb2 g2))) with
          | nx f3 h3 =>
            intro e
            obtain ⟨b3, busy3, n3, ps3, a3, bb3, g3, hid3, hb3, hob3, e⟩ := getL_r e hr
            rw [recBk] at e
            split at e
            · rename_i hbusy3
              subst hbusy3
              refine ⟨.b true, putB h3 id (some (lpB false n3 ps3 a3 bb3 g3)), e.symm, ?_, ?_⟩
              · intro hl
                obtain ⟨q1, _⟩ := code_s (fc := Fence.wide) hc hn hm a f1 h (by rw [ha]; trivial)
                rw [ha] at q1
                obtain ⟨q2, _⟩ := code_s (fc := Fence.wide) hc hn hm bb f2 (putB h2 id (some (lpB true n2 ps2 a2 bb2 g2))) (by rw [hbo]; trivial)
                rw [hbo] at q2
                have k1 : Grow h h2 := q1 hl
                have k2 : Grow h2 (putB h2 id (some (lpB true n2 ps2 a2 bb2 g2))) := Grow.put (k1.lim hl) hid2 hb2
                have k3 : Grow _ h3 := q2 (k1.lim hl)
                exact ((k1.trans k2).trans k3).trans (Grow.put (k3.lim (k1.lim hl)) hid3 hb3)
              · intro Φ τ w vs en hR hFr hv hen
                obtain ⟨e0, l0, L0⟩ := (hR.blk id b0 hid hb0).loop hob0
                have := L0.ent
                rw [hen] at this; cases this
                obtain ⟨y0, y1, y2, y3, y4, y5, o1, o2, o3, o4, o5, o6, o7, o8, o9⟩ := L0.ob
                rw [hob0] at o1
                cases o1
                obtain ⟨tsz, tfr⟩ := hps Φ vs l0.tmps hv o7 o9
                refine ⟨en.g, l0.fn, (ps.zip vs).foldl (fun tm p => tm.setIfInBounds p.1 p.2) l0.tmps, a, bb, ?_, ?_⟩
                · have hsz : vs.toArray.size = l0.params.size := by
                    rw [List.size_toArray, hv.len, hlen, ← o4, Array.length_toList]
                  have hz : (l0.params.zip vs.toArray).foldl (fun tmps (t, a) => tmps.setIfInBounds t a) l0.tmps = (ps.zip vs).foldl (fun tm p => tm.setIfInBounds p.1 p.2) l0.tmps := by
                    rw [← Array.foldl_toList, Array.toList_zip, o4]
                  simp only [Instr.yield, Sem.run_bind, run_getLoop L0.obj, Result.andThen, hsz, ne_eq, not_true_eq_false, if_false, Sem.run_pure, hz, o5, o6]
                · refine roundIn_of_wpIn (F := Fence.wide) trivial ?_
                  obtain ⟨q1, s1⟩ := code_s (fc := Fence.wide.inRound en.g) hc hn hm a f1 h (by rw [ha]; trivial)
                  obtain ⟨q2, s2⟩ := code_s (fc := Fence.wide.inRound en.g) hc hn hm bb f2 (putB h2 id (some (lpB true n2 ps2 a2 bb2 g2))) (by rw [hbo]; trivial)
                  rw [ha] at q1 s1
                  rw [hbo] at q2 s2
                  have hlim := hR.lim
                  have k1 : Grow h h2 := q1 hlim
                  have k2 : Grow h2 (putB h2 id (some (lpB true n2 ps2 a2 bb2 g2))) := Grow.put (k1.lim hlim) hid2 hb2
                  have k3 : Grow (putB h2 id (some (lpB true n2 ps2 a2 bb2 g2))) h3 := q2 (k1.lim hlim)
                  have k4 : Grow h3 (putB h3 id (some (lpB false n3 ps3 a3 bb3 g3))) := Grow.put (k3.lim (k1.lim hlim)) hid3 hb3
                  have n23 : h2.n ≤ h3.n := k3.le
                  have hFr : Fre Φ h.n h3.n := hFr
                  refine wpIn_mono (s1 Φ τ _ w [] tfr hR (fun i x1 x2 => hFr i x1 (Nat.lt_of_lt_of_le x2 n23)) { tmps := (ps.zip vs).foldl (fun tm p => tm.setIfInBounds p.1 p.2) l0.tmps, defers := [] } ⟨tsz, rfl⟩ rfl) ?_
                  rintro ex act w1 ⟨ga, qa⟩
                  cases ex with
                  | normal =>
                    obtain ⟨Φ1, τ1, hF1, hR1, t1⟩ := qa
                    obtain ⟨e2, l2, L2⟩ := (hR1.blk id b2 hid2 hb2).loop hob2
                    have := L2.ent
                    rw [t1.sub _ _ hen] at this; cases this
                    obtain ⟨z0, z1, z2, z3, z4, z5, p1, p2, p3, _⟩ := L2.ob
                    rw [hob2] at p1
                    cases p1
                    obtain ⟨r2, u2⟩ := LR.turn (busy' := true) hR1 hid2 hb2 L2 hob2
                    have hbr : (Instr.beginRound en.g).run P w1 = .ok () (setOb w1 en.g (.loop { l2 with state := .busy, pending := none })) := by
                      have hst := run_setOb (P := P) (O := .loop { l2 with state := .busy }) L2.obj
                      have hp : ({ l2 with state := .busy } : Loop) = { l2 with state := .busy, pending := none } := by rw [← p3]
                      simp only [Instr.beginRound, Sem.run_bind, run_getLoop L2.obj, Result.andThen, hst]
                      rw [p2, hp]
                      rfl
                    refine ⟨_, hbr, ?_⟩
                    refine wpIn_mono (s2 Φ1 τ1 _ _ [] hF1 r2 (fun i x1 x2 => by
                      have x1 : h2.n ≤ i := x1
                      rw [t1.same i (fun hh => by have := hh.2; omega)]; exact hFr i (Nat.le_trans k1.le x1) x2) act ga rfl) ?_
                    rintro ex act3 w3 ⟨g3', q3⟩
                    cases ex with
                    | normal =>
                      obtain ⟨Φ3, τ3, hF3, hR3, t3⟩ := q3
                      obtain ⟨e3, l3, L3⟩ := (hR3.blk id b3 hid3 hb3).loop hob3
                      have := L3.ent
                      rw [t3.sub _ _ (t1.sub _ _ hen)] at this; cases this
                      obtain ⟨r3, u3⟩ := LR.turn (busy' := false) hR3 hid3 hb3 L3 hob3
                      refine ⟨.bool true, setOb w3 en.g (.loop { l3 with state := .ready, pending := none }), ?_, _, rfl, Φ3, τ3, Rv.mb, r3, ?_⟩
                      · have hst := run_setOb (P := P) (O := .loop { l3 with state := .ready, pending := none }) L3.obj
                        simp only [Instr.endRound, Sem.run_bind, run_getLoop L3.obj, Result.andThen, Option.isNone_none, if_true, hst, Sem.run_pure]
                      · have c1 := t1.trans k1 (Nat.le_refl h2.n) (k1.lim hlim) u2
                        have c2 := Tw.trans (h' := putB h2 id (some (lpB true n2 ps2 a2 bb2 g2))) c1 (k1.trans k2) n23 (k1.lim hlim) t3
                        exact c2.trans ((k1.trans k2).trans k3) (Nat.le_refl h3.n) (k3.lim (k1.lim hlim)) u3
                    | _ => exact q3.elim
                  | _ => exact qa.elim
            · subst e; exact hr.elim
          | ex i f3 h3 => intro e; have e : Res.no 83 = r := e; subst e; exact hr.elim
          | rt f3 h3 => intro e; have e : Res.no 83 = r := e; subst e; exact hr.elim
          | pn v f3 h3 => intro e; have e : Res.no 83 = r := e; subst e; exact hr.elim
          | no m => intro e; have e : Res.no m = r := e; subst e; exact hr.elim
      | ex i f3 h3 => intro e; have e : Res.no 83 = r := e; subst e; exact hr.elim
      | rt f3 h3 => intro e; have e : Res.no 83 = r := e; subst e; exact hr.elim
      | pn v f3 h3 => intro e; have e : Res.no 83 = r := e; subst e; exact hr.elim
      | no m => intro e; have e : Res.no m = r := e; subst e; exact hr.elim
theorem preC_r {r : Res} (hc : CallS P call) (hm : P.follows .mixedOrders = true) (hn : n ≤ 4096) (hr : okR r) {c : Code} {l : List Code} {f : Fr} {h : Hp} {k : Fr → Hp → Res} (e : evPreC P call n (c :: l) f h k = r) :
    ∃ f1 h1, evPreC P call n l f1 h1 k = r ∧ Gw h h1 ∧ ∀ (Φ : Phi) (τ : Tau) (F : Wf.Fr) (w : World) (D : List Deferred), FR Φ f F → Rel Φ τ h w → Fre Φ h.n h1.n →
      W Fence.wide P c n D (fun ex F1 w1 => ex = .normal ∧ ∃ Φ1 τ1, FR Φ1 f1 F1 ∧ Rel Φ1 τ1 h1 w1 ∧ Tw Φ τ h w Φ1 τ1 h1.n w1) F w := by
  have e : (Out.rec (fun f h => evPreC P call n l f h k) (fun _ _ _ => .no 87) (fun _ _ => .no 87) Res.no (fun _ _ _ => .no 87) (evCode P call n c f h) : Res) = r := e
  have hS := code_s (fc := Fence.wide) hc hn hm c f h
  revert e hS
  cases ho : evCode P call n c f h with
  | nx f1 h1 =>
    intro e hS
    obtain ⟨g, s⟩ := hS trivial
    refine ⟨f1, h1, e, g, fun Φ τ F w D hF hR hFr => (s Φ τ F w D hF hR hFr).mono ?_⟩
    intro ex F1 w1 q
    cases ex with
    | normal => exact ⟨rfl, q⟩
    | _ => exact q.elim
  | rt f1 h1 => intro e; have e : Res.no 87 = r := e; subst e; exact hr.elim
  | ex i f1 h1 => intro e; have e : Res.no 87 = r := e; subst e; exact hr.elim
  | pn v f1 h1 => intro e; have e : Res.no 87 = r := e; subst e; exact hr.elim
  | no m => intro e; have e : Res.no m = r := e; subst e; exact hr.elim
theorem rngOf_s {c u a b : Code} {id : Nat} {g : Operand} {ps : List Tmp} (h : rngOf c = some (u, id, g, ps, a, b)) : ∃ pa : Array Tmp, pa.toList = ps ∧ c = .seq u (.block id (.rangeFunc g pa a b)) := by
  unfold rngOf at h
  split at h
  · simp only [Option.some.injEq, Prod.mk.injEq] at h
    obtain ⟨rfl, rfl, rfl, rfl, rfl, rfl⟩ := h
    exact ⟨_, rfl, rfl⟩
  · cases h
theorem splitF_s (hc : CallS P call) (hm : P.follows .mixedOrders = true) (hn : n ≤ 4096) {r : Res} (hr : okR r) : ∀ (c : Code) (pre : List Code) (u : Code) (id : Nat) (g : Operand) (ps : List Tmp) (a b y : Code), splitF c = some (pre, (u, id, g, ps, a, b), y) →
    ∃ pa : Array Tmp, pa.toList = ps ∧ ∀ (f : Fr) (h : Hp) (k : Fr → Hp → Res), (evPreC P call n pre f h fun f h => evPreC P call n [u] f h k) = r → ∃ f1 h1, k f1 h1 = r ∧ Gw h h1 ∧
      ∀ (Φ : Phi) (τ : Tau) (act : Act) (w : World) (Q : Exit → Act → World → Prop), Wf.Good n [] act → FR Φ f (frOf act) → Rel Φ τ h w → Fre Φ h.n h1.n →
        (∀ act1 Φ1 τ1 w1, Wf.Good n [] act1 → FR Φ1 f1 (frOf act1) → Rel Φ1 τ1 h1 w1 → Tw Φ τ h w Φ1 τ1 h1.n w1 → (Code.block id (.rangeFunc g pa a b)).wpIn Fence.wide 0 P (Exit.then (y.wpIn Fence.wide 0 P Q) Q) act1 w1) →
        c.wpIn Fence.wide 0 P Q act w := by
  intro c
  induction c with
  | seq x z _ ih =>
    intro pre u id g ps a b y hs
    have hs : (match rngOf x with
      | some d => some ([], d, z)
      | none => (Option.rec none (fun p => some (x :: p.1, p.2)) (splitF z) : Option (List Code × (Code × Nat × Operand × List Tmp × Code × Code) × Code))) = some (pre, (u, id, g, ps, a, b), y) := hs
    split at hs
    · rename_i d hd
      simp only [Option.some.injEq, Prod.mk.injEq] at hs
      obtain ⟨rfl, rfl, rfl⟩ := hs
      obtain ⟨pa, hpa, rfl⟩ := rngOf_s hd
      refine ⟨pa, hpa, fun f h k e => ?_⟩
      have e : evPreC P call n [u] f h k = r := e
      obtain ⟨f1, h1, e1, g1, s1⟩ := preC_r hc hm hn hr e
      refine ⟨f1, h1, e1, g1, fun Φ τ act w Q ha hF hR hFr hk => ?_⟩
      refine wpIn_seq (wpIn_seq (wpIn_mono (s1 Φ τ _ w [] hF hR hFr act ha rfl) ?_))
      rintro ex act1 w1 ⟨ga, rfl, Φ1, τ1, x1, x2, x3⟩
      refine wpIn_mono (hk act1 Φ1 τ1 w1 ga x1 x2 x3) ?_
      intro ex act2 w2 q
      exact q
    · cases hz : splitF z with
      | none => rw [hz] at hs; cases hs
      | some p =>
        rw [hz] at hs
        obtain ⟨p1, d, y'⟩ := p
        simp only [Option.some.injEq, Prod.mk.injEq] at hs
        obtain ⟨rfl, rfl, rfl⟩ := hs
        obtain ⟨pa, hpa, s⟩ := ih p1 u id g ps a b y' hz
        refine ⟨pa, hpa, fun f h k e => ?_⟩
        obtain ⟨f1, h1, e1, g1, s1⟩ := preC_r hc hm hn hr e
        obtain ⟨f2, h2, e2, g2, s2⟩ := s f1 h1 k e1
        refine ⟨f2, h2, e2, g1.trans g2, fun Φ τ act w Q ha hF hR hFr hk => ?_⟩
        have k1 := g1 hR.lim
        have k2 := g2 (k1.lim hR.lim)
        refine wpIn_seq (wpIn_mono (s1 Φ τ _ w [] hF hR (fun i x1 x2 => hFr i x1 (Nat.lt_of_lt_of_le x2 k2.le)) act ha rfl) ?_)
        rintro ex act1 w1 ⟨ga, rfl, Φ1, τ1, x1, x2, x3⟩
        refine s2 Φ1 τ1 act1 w1 Q ga x1 x2 (fun i q1 q2 => by rw [x3.same i (fun hh => by have := hh.2; omega)]; exact hFr i (Nat.le_trans k1.le q1) q2) ?_
        intro act2 Φ2 τ2 w2 gb z1 z2 z3
        exact hk act2 Φ2 τ2 w2 gb z1 z2 (x3.trans k1 k2.le (k1.lim hR.lim) z3)
  | _ => intro pre u id g ps a b y hs; cases hs
/-- an object that no block names -/
theorem Rel.aside {Φ : Phi} {τ : Tau} {h : Hp} {w : World} {g : Nat} {O : Obj} (hR : Rel Φ τ h w) (hg : τ g = .out) : Rel Φ τ h (setOb w g O) := by
  refine ⟨hR.lim, fun id b hid hb => ?_, hR.fin⟩
  obtain ⟨e, _, _, hl, k⟩ := (hR.blk id b hid hb).at_
  refine k (Sub.refl _) (setOb_other ?_) rfl
  intro e9
  rw [e9, hg] at hl
  split at hl <;> cases hl
theorem for_s (hc : CallS P call) (hm : P.follows .mixedOrders = true) {fn : Func} (hn : fn.ntmps ≤ 4096) {g : Operand} {pa : Array Tmp} {a b rest : Code} {f : Fr} {h : Hp} {r : Res} (e : evFor P call fn.ntmps g pa.toList a b rest fn.results.toList f h = r) (hr : okR r) {id : Nat} :
    Gw h (hpR r h) ∧ ∀ (Φ : Phi) (τ : Tau) (act : Act) (w : World), Wf.Good fn.ntmps [] act → FR Φ f (frOf act) → Rel Φ τ h w → Fre Φ h.n (hpR r h).n →
      (Code.block id (.rangeFunc g pa a b)).wpIn Fence.wide 0 P (Exit.then (rest.wpIn Fence.wide 0 P (bodyPostM Fence.wide 0 P fn (RetE Φ τ h w r))) (bodyPostM Fence.wide 0 P fn (RetE Φ τ h w r))) act w := by
  unfold evFor at e
  split at e
  · rename_i k cap hg
    unfold newB at e
    rw [recBk] at e
    split at e
    · rename_i hb5
      have hb5 : h.n < big5 := of_blt hb5
      rw [fz_eq] at e
      have e : (Res.rec (fun _ h3 => getL h3 h.n (fun busy _ _ _ _ _ => Bool.rec (evRest P call fn.ntmps rest fn.results.toList f (putB h3 h.n none)) (.no 86) busy) (.no 86)) Res.no (fun _ _ => .no 86) (call.run k (.yv h.n :: cap) ⟨set5 h.n (some (lpB false fn.ntmps pa.toList a b f)) h.t, h.n + 1⟩) : Res) = r := e
      revert e
      cases hcall : call.run k (.yv h.n :: cap) ⟨set5 h.n (some (lpB false fn.ntmps pa.toList a b f)) h.t, h.n + 1⟩ with
      | ok v3 h3 =>
        intro e
        obtain ⟨b3, busy3, n3, ps3, a3, bb3, g3, hid3, hb3, hob3, e⟩ := getL_r e hr
        rw [recBk] at e
        split at e
        · subst e; exact hr.elim
        · rename_i hbusy3
          have hbusy3 : busy3 = false := by simpa using hbusy3
          subst hbusy3
          obtain ⟨⟨fk, hfk, hnk, hbk⟩, gk, sk⟩ := hc.run _ _ _ _ hcall trivial
          have gk : _ → Grow _ h3 := gk
          -- what is behind
          have hS := code_s (fc := Fence.wide) hc hn hm rest f (putB h3 h.n none)
          have tail : ∃ f5 h5, hpR r h = h5 ∨ hpR r h = h5 := ⟨f, hpR r h, .inl rfl⟩
          have main : ∀ (out : Out) (f5 : Fr) (h5 : Hp), evCode P call fn.ntmps rest f (putB h3 h.n none) = out → okO out → hpO out (putB h3 h.n none) = h5 → hpR r h = h5 →
              (∀ (Φ : Phi) (τ : Tau) (h0 : Hp) (w : World) (ex : Exit) (F1 : Wf.Fr) (w1 : World), OutQ Φ τ h0 w out ex F1 w1 → ∃ Φ1 τ1, FR Φ1 f5 F1 ∧ Rel Φ1 τ1 h5 w1 ∧ Tw Φ τ h0 w Φ1 τ1 h5.n w1 ∧
                (((ex = .normal ∨ ex = .ret) ∧ finR P f5 h5 fn.results.toList = r) ∨ ∃ v x, ex = .panic [{ v := x, recovered := false }] ∧ r = .pn v h5 ∧ Rv Φ1 v x)) →
              Gw h (hpR r h) ∧ ∀ (Φ : Phi) (τ : Tau) (act : Act) (w : World), Wf.Good fn.ntmps [] act → FR Φ f (frOf act) → Rel Φ τ h w → Fre Φ h.n (hpR r h).n →
                (Code.block id (.rangeFunc g pa a b)).wpIn Fence.wide 0 P (Exit.then (rest.wpIn Fence.wide 0 P (bodyPostM Fence.wide 0 P fn (RetE Φ τ h w r))) (bodyPostM Fence.wide 0 P fn (RetE Φ τ h w r))) act w := by
            intro out f5 h5 ho hok hh5 hrh hout
            obtain ⟨g5, s5⟩ := hS (by rw [ho]; exact hok)
            rw [ho, hh5] at g5 s5
            have kk : h.n ≤ big5 → Grow h h5 := fun hl => by
              have q1 : Grow h ⟨set5 h.n (some (lpB false fn.ntmps pa.toList a b f)) h.t, h.n + 1⟩ := Grow.new hb5
              have q2 : Grow _ h3 := gk hb5
              have q3 : Grow h3 (putB h3 h.n none) := Grow.put (q2.lim hb5) hid3 hb3
              exact ((q1.trans q2).trans q3).trans (g5 (q2.lim hb5))
            rw [hrh]
            refine ⟨kk, fun Φ τ act w ha hF hR hFr => ?_⟩
            have q1 : Grow h ⟨set5 h.n (some (lpB false fn.ntmps pa.toList a b f)) h.t, h.n + 1⟩ := Grow.new hb5
            have q2 : Grow ⟨set5 h.n (some (lpB false fn.ntmps pa.toList a b f)) h.t, h.n + 1⟩ h3 := gk hb5
            have q3 : Grow h3 (putB h3 h.n none) := Grow.put (q2.lim hb5) hid3 hb3
            have q5 : Grow (putB h3 h.n none) h5 := g5 (q2.lim hb5)
            have n1 : h.n + 1 ≤ h3.n := q2.le
            have n3 : h3.n ≤ h5.n := q5.le
            refine wpIn_block (wpIn_rangeFunc fun fnn _ => ?_)
            -- the record and the block for deferred calls
            have hgv := opd_sound hF g
            rw [hg] at hgv
            obtain ⟨cvs, hgv, hcv⟩ := hgv.fnI
            generalize hw0 : w.alloc (.deferred (some [])) = w0
            have hw0s : w0.heap.size = w.heap.size + 1 := by rw [← hw0]; simp
            have hold0 : ∀ i, i < w.heap.size → w0.heap[i]? = w.heap[i]? := fun i hi => by rw [← hw0]; exact alloc_other hi
            have hnew0 : w0.heap[w.heap.size]? = some (.deferred (some [])) := by rw [← hw0]; exact heap_alloc_new w _
            have R0 : Rel Φ (fun x => if x = w.heap.size then .out else τ x) h w0 := hR.kept (Sub.refl _) fun x hx => ⟨hold0 x hx, if_neg (by omega)⟩
            have T0 : Tw Φ τ h w Φ (fun x => if x = w.heap.size then .out else τ x) h.n w0 := by
              refine ⟨by rw [← hw0]; rfl, by rw [← hw0]; rfl, by rw [← hw0]; rfl, by omega, Sub.refl _, fun _ _ => rfl, fun x hx _ => ⟨hold0 x hx, if_neg (by omega)⟩⟩
            generalize hrec : ({ state := .ready, pending := none, fn := fnn, tmps := act.tmps, params := pa, assign := a, body := b, defers := w.heap.size } : Loop) = rec
            have hf : Φ h.n = none := hFr h.n (Nat.le_refl _) (by omega)
            obtain ⟨τ1, R1, T1⟩ := R0.new (k := 0) (b := lpB false fn.ntmps pa.toList a b f) (O := .loop rec) (w' := w0.alloc (.loop rec)) hb5 hf (by
              intro Φ' τ' w' s he ho9 hl
              refine .inr (.inr (.inr ⟨_, rec, he, hl, rfl, ho9, false, fn.ntmps, pa.toList, a, b, f, rfl, ?_⟩))
              subst hrec
              exact ⟨rfl, rfl, rfl, rfl, rfl, ha.size, hn, hF.mono s⟩) (Wn.alloc w0 _)
            have T01 := T0.trans (Grow.refl h) (show h.n ≤ h.n + 1 by omega) hR.lim T1
            have hrf : fe (frOf act) g = act.eval g := by rw [eval_eq]
            refine ⟨w0.heap.size, [{ target := .collected w.heap.size, args := #[] }], w0.alloc (.loop rec), ⟨.fn (.func k) cvs.toArray, #[.func (.yield w0.heap.size) #[] #[]]⟩, w0.alloc (.loop rec), k, (Value.func (.yield w0.heap.size) #[] #[] :: cvs).toArray, w0.alloc (.loop rec), ?_, ?_, ?_, ?_, ?_, ?_⟩
            · subst hrec
              subst hw0
              simp [Instr.enterLoop, newObj, Sem.run, Fence.wide]
            · simp only [resolve, rangeCall, ← hrf, hgv]
              simp [Deferred.ofValue, Act.eval]
            · intro f' _; trivial
            · have e4 : (#[Value.func (.yield w0.heap.size) #[] #[]] : Array Value) ++ cvs.toArray = (Value.func (.yield w0.heap.size) #[] #[] :: cvs).toArray := by apply Array.ext'; simp
              have h1 : fk.name ≠ "runtime.NumGoroutine" := by simpa using hnk
              obtain ⟨ck, hck⟩ := Option.isSome_iff_exists.1 (show fk.body.isSome = true by cases hh : fk.body with | none => rw [hh] at hbk; cases hbk | some c => rfl)
              simp only [invoke, e4]
              simp [callFunc, hfk, h1, hck]
            · intro hd; cases hd
            · refine callsIn_wide.2 ((sk _ τ1 _ (Value.func (.yield w0.heap.size) #[] #[] :: cvs) R1 ?_ ?_).mono ?_)
              · intro i x1 x2
                have x1 : h.n + 1 ≤ i := x1
                have x2 : i < h3.n := x2
                rw [T01.same i (by omega)]
                exact hFr i (by omega) (by omega)
              · simp only [RvL]
                refine ⟨_, _, rfl, ?_, RvL.mono T01.sub _ _ hcv⟩
                simp only [Rv]
                exact ⟨_, ext_at _ _ _, rfl⟩
              · intro en w3 hq
                cases en with
                | outgrown => exact hq.elim
                | panicked ch => obtain ⟨v9, h9, e9, _⟩ := hq; cases e9
                | returned x3 =>
                  obtain ⟨v9, h9, e9, Φ3, τ3, _, R3, T3⟩ := hq
                  cases e9
                  obtain ⟨e3, l3, L3⟩ := (R3.blk h.n b3 hid3 hb3).loop hob3
                  have he3 : e3 = ⟨w0.heap.size, 0, 0⟩ := by
                    have := L3.ent
                    rw [T3.sub _ _ (ext_at _ _ _)] at this
                    cases this; rfl
                  subst he3
                  obtain ⟨y0, y1, y2, y3, y4, y5, o1, o2, o3, _⟩ := L3.ob
                  rw [hob3] at o1
                  cases o1
                  have hst := run_setOb (P := P) (O := .loop { l3 with state := .exhausted, pending := none }) L3.obj
                  obtain ⟨R4, T4⟩ := R3.lose (w' := setOb w3 w0.heap.size (.loop { l3 with state := .exhausted, pending := none })) hid3 hb3 L3.lab rfl rfl rfl setOb_size (fun g hg => setOb_other hg)
                  refine ⟨none, setOb w3 w0.heap.size (.loop { l3 with state := .exhausted, pending := none }), ?_, ?_⟩
                  · simp only [Instr.endLoop, Sem.run_bind, run_getLoop L3.obj, Result.andThen]
                    rw [o2]
                    simp only [Bool.false_eq_true, if_false]
                    have hne : (LoopState.ready == LoopState.busy) = false := rfl
                    simp only [hne, Bool.false_eq_true, if_false, Sem.run_bind, Sem.run_pure, hst, Result.andThen, o3]
                  · -- behind the loop
                    have C3 : Tw Φ τ h w Φ3 τ3 h3.n w3 := Tw.trans (h' := ⟨set5 h.n (some (lpB false fn.ntmps pa.toList a b f)) h.t, h.n + 1⟩) T01 q1 n1 hb5 T3
                    have C4 : Tw Φ τ h w Φ3 τ3 h3.n (setOb w3 w0.heap.size (.loop { l3 with state := .exhausted, pending := none })) := C3.trans (q1.trans q2) (Nat.le_refl _) (q2.lim hb5) T4
                    -- the block for deferred calls stands
                    have out1 : τ1 w.heap.size = .out ∧ (w0.alloc (.loop rec)).heap[w.heap.size]? = some (.deferred (some [])) := by
                      have := T1.keep w.heap.size (by omega) (fun i e => by simp at e)
                      exact ⟨by rw [this.2]; simp, by rw [this.1]; exact hnew0⟩
                    have hsz1 : w.heap.size < (w0.alloc (.loop rec)).heap.size := by simp; omega
                    have out3 : τ3 w.heap.size = .out ∧ w3.heap[w.heap.size]? = some (.deferred (some [])) := by
                      have := T3.keep w.heap.size hsz1 (fun i e => by rw [out1.1] at e; cases e)
                      exact ⟨this.2.trans out1.1, this.1.trans out1.2⟩
                    have hsz3 : w.heap.size < w3.heap.size := Nat.lt_of_lt_of_le hsz1 T3.size
                    have out4 : (setOb w3 w0.heap.size (.loop { l3 with state := .exhausted, pending := none })).heap[w.heap.size]? = some (.deferred (some [])) := by
                      rw [setOb_other (by omega)]; exact out3.2
                    have ga : Wf.Good fn.ntmps [{ target := .collected w.heap.size, args := #[] }] { act with defers := [{ target := .collected w.heap.size, args := #[] }] ++ act.defers } := ⟨ha.size, by show _ ++ act.defers = _; rw [ha.defers]; rfl⟩
                    have hFa : FR Φ3 f (frOf { act with defers := [{ target := .collected w.heap.size, args := #[] }] ++ act.defers }) := hF.mono C3.sub
                    show (rest.wpIn Fence.wide 0 P _ _ _)
                    refine wpIn_mono (s5 Φ3 τ3 _ _ [{ target := .collected w.heap.size, args := #[] }] hFa R4 (fun i x1 x2 => by
                      have x1 : h3.n ≤ i := x1
                      rw [C3.same i (by omega)]; exact hFr i (by omega) x2) _ ga rfl) ?_
                    rintro ex act5 w5 ⟨g5', q5'⟩
                    obtain ⟨Φ5, τ5, F5, R5, T5, hend⟩ := hout Φ3 τ3 (putB h3 h.n none) _ ex _ w5 q5'
                    have out5 : τ5 w.heap.size = .out ∧ w5.heap[w.heap.size]? = some (.deferred (some [])) := by
                      have := T5.keep w.heap.size (by rw [setOb_size]; exact hsz3) (fun i e => by rw [out3.1] at e; cases e)
                      exact ⟨this.2.trans out3.1, this.1.trans out4⟩
                    have C5 : Tw Φ τ h w Φ5 τ5 h5.n w5 := Tw.trans (h' := putB h3 h.n none) C4 ((q1.trans q2).trans q3) n3 (q2.lim hb5) T5
                    have R6 := R5.aside (O := .deferred none) out5.1
                    have C6 : Tw Φ τ h w Φ5 τ5 h5.n (setOb w5 w.heap.size (.deferred none)) :=
                      ⟨C5.os, C5.tape, C5.output, by rw [setOb_size]; exact C5.size, C5.sub, C5.same, fun x hx hk => by rw [setOb_other (by omega)]; exact C5.keep x hx hk⟩
                    have htake : (Instr.takeDeferred w.heap.size).run P w5 = .ok [] (setOb w5 w.heap.size (.deferred none)) := by
                      have hst5 := run_setOb (P := P) (O := .deferred none) out5.2
                      have hgo : (getObj w.heap.size).run P w5 = .ok (.deferred (some [])) w5 := by simp [getObj, Sem.run, out5.2]
                      simp only [Instr.takeDeferred, Sem.run_bind, hgo, Result.andThen, hst5, Sem.run_pure]
                    rcases hend with ⟨hex, hfin⟩ | ⟨v, x, rfl, rfl, hvx⟩
                    · obtain ⟨v, rfl, fr⟩ := finR_r hfin hr
                      obtain ⟨x, hx, hrun⟩ := fr Φ5 τ5 (frOf act5) _ F5 R6
                      have lv : LeavesInM Fence.wide 0 P fn act5.tmps (RetE Φ τ h w (.ok v h5)) act5.defers .returning w5 := by
                        rw [g5'.defers]
                        refine ⟨(by intro hq; cases hq), .inl ⟨w.heap.size, _, rfl, htake, ?_⟩⟩
                        exact ⟨x, hrun act5.tmps (fun _ => rfl), v, h5, rfl, Φ5, τ5, hx, R6, C6⟩
                      rcases hex with rfl | rfl
                      · exact lv
                      · exact lv
                    · have lv : LeavesInM Fence.wide 0 P fn act5.tmps (RetE Φ τ h w (.pn v h5)) act5.defers (.panicking [{ v := x, recovered := false }]) w5 := by
                        rw [g5'.defers]
                        refine ⟨(by intro hq; cases hq), .inl ⟨w.heap.size, _, rfl, htake, ?_⟩⟩
                        exact ⟨v, h5, rfl, x, Φ5, τ5, rfl, hvx, R6, C6⟩
                      exact lv
          unfold evRest at e
          cases ho : evCode P call fn.ntmps rest f (putB h3 h.n none) with
          | nx f5 h5 =>
            rw [ho] at e
            have e : finR P f5 h5 fn.results.toList = r := e
            obtain ⟨v, hv, _⟩ := finR_r e hr
            refine main _ f5 h5 ho trivial rfl (by rw [hv]; rfl) ?_
            intro Φ τ h0 w ex F1 w1 q
            cases ex with
            | normal => obtain ⟨Φ1, τ1, x1, x2, x3⟩ := q; exact ⟨Φ1, τ1, x1, x2, x3, .inl ⟨.inl rfl, e⟩⟩
            | _ => exact q.elim
          | rt f5 h5 =>
            rw [ho] at e
            have e : finR P f5 h5 fn.results.toList = r := e
            obtain ⟨v, hv, _⟩ := finR_r e hr
            refine main _ f5 h5 ho trivial rfl (by rw [hv]; rfl) ?_
            intro Φ τ h0 w ex F1 w1 q
            cases ex with
            | ret => obtain ⟨Φ1, τ1, x1, x2, x3⟩ := q; exact ⟨Φ1, τ1, x1, x2, x3, .inl ⟨.inr rfl, e⟩⟩
            | _ => exact q.elim
          | pn v f5 h5 =>
            rw [ho] at e
            have e : Res.pn v h5 = r := e
            refine main _ f5 h5 ho trivial rfl (by rw [← e]; rfl) ?_
            intro Φ τ h0 w ex F1 w1 q
            cases ex with
            | panic ch => obtain ⟨x, Φ1, τ1, rfl, d2, x1, x2, x3⟩ := q; exact ⟨Φ1, τ1, x1, x2, x3, .inr ⟨v, x, rfl, e.symm, d2⟩⟩
            | _ => exact q.elim
          | ex i f5 h5 => rw [ho] at e; have e : Res.no 53 = r := e; subst e; exact hr.elim
          | no m => rw [ho] at e; have e : Res.no m = r := e; subst e; exact hr.elim
      | no m => intro e; have e : Res.no m = r := e; subst e; exact hr.elim
      | pn v h3 => intro e; have e : Res.no 86 = r := e; subst e; exact hr.elim
    · subst e; exact hr.elim
  · subst e; exact hr.elim
theorem fun_s (hc : CallS P call) (hm : P.follows .mixedOrders = true) {k : FuncId} {args : List AV} {h : Hp} {r : Res} (e : evFun P call k args h = r) (hr : okR r) :
    (∃ fn, P.funcs[k]? = some fn ∧ (fn.name == "runtime.NumGoroutine") = false ∧ fn.body.isNone = false) ∧ (h.n ≤ big5 → Grow h (hpR r h)) ∧
    ∀ Φ τ w vs, Rel Φ τ h w → Fre Φ h.n (hpR r h).n → RvL Φ args vs → Calls P k vs.toArray w (RetE Φ τ h w r) := by
  unfold evFun at e
  split at e
  · subst e; exact hr.elim
  · rename_i fn hf
    split at e
    · subst e; exact hr.elim
    · rename_i c hb
      rw [recBk] at e
      split at e
      · rename_i hcd
        obtain ⟨hcd, h3⟩ := and_t hcd
        obtain ⟨h1, h2⟩ := and_t hcd
        have h1 := Nat.le_of_ble_eq_true h1
        have h2 := Nat.le_of_ble_eq_true h2
        have h3 := not_t h3
        rw [len_eq] at h2
        unfold evBody at e
        split at e
        · split at e
          · obtain ⟨g, s⟩ := rest_s hc hm h1 e hr
            refine ⟨⟨fn, hf, h3, by rw [hb]; rfl⟩, g, fun Φ τ w vs hR hFr hv => ?_⟩
            exact Calls.ofW hf hb rfl (by rw [hv.len]; exact h2) (s Φ τ _ w (frame0_s hv (by omega)) hR hFr)
          · rename_i s hs
            obtain ⟨pre, ⟨u, id, g, ps, a, b⟩, y⟩ := s
            obtain ⟨pa, rfl, sp⟩ := splitF_s hc hm h1 hr c pre u id g ps a b y hs
            obtain ⟨f1, h1', e1, g1, s1⟩ := sp (frame0 args 0) h _ e
            obtain ⟨g2, s2⟩ := for_s hc hm h1 e1 hr (id := id)
            have hh : hpR r h1' = hpR r h := by cases r <;> first | rfl | exact hr.elim
            rw [hh] at g2 s2
            refine ⟨⟨fn, hf, h3, by rw [hb]; rfl⟩, g1.trans g2, fun Φ τ w vs hR hFr hv => ?_⟩
            have k1 : Grow h h1' := g1 hR.lim
            have k2 := g2 (k1.lim hR.lim)
            obtain ⟨hgood, hfr⟩ := tmps0 (n := fn.ntmps) (vs := vs) (by rw [hv.len]; exact h2)
            refine (callsIn_wide (n := 0)).1 (callsIn_of_wp_marks hf hb trivial ?_ rfl)
            refine s1 Φ τ _ w _ hgood (by rw [hfr]; exact frame0_s hv (by omega)) hR (fun i x1 x2 => hFr i x1 (Nat.lt_of_lt_of_le x2 k2.le)) ?_
            intro act1 Φ1 τ1 w1 ga x1 x2 x3
            have conv : ∀ en w2, RetE Φ1 τ1 h1' w1 r en w2 → RetE Φ τ h w r en w2 := by
              intro en w2 hq
              cases en with
              | returned y =>
                obtain ⟨v, h2', rfl, Φ2, τ2, z1, z2, z3⟩ := hq
                exact ⟨v, h2', rfl, Φ2, τ2, z1, z2, x3.trans k1 k2.le (k1.lim hR.lim) z3⟩
              | panicked ch =>
                obtain ⟨v, h2', rfl, x, Φ2, τ2, z0, z1, z2, z3⟩ := hq
                exact ⟨v, h2', rfl, x, Φ2, τ2, z0, z1, z2, x3.trans k1 k2.le (k1.lim hR.lim) z3⟩
              | outgrown => exact hq
            have lmono : ∀ (tm : Array Value) (ds : List Deferred) (u : FrameMode) (w2 : World), LeavesInM Fence.wide 0 P fn tm (RetE Φ1 τ1 h1' w1 r) ds u w2 → LeavesInM Fence.wide 0 P fn tm (RetE Φ τ h w r) ds u w2 := by
              intro tm ds
              induction ds with
              | nil =>
                intro u w2 hL
                cases u with
                | run => exact hL
                | returning => obtain ⟨v, q1, q2⟩ := hL; exact ⟨v, q1, conv _ _ q2⟩
                | panicking ch => exact conv (.panicked ch) w2 hL
              | cons d ds ih =>
                intro u w2 hL
                obtain ⟨q0, ⟨rr, w', q1, q2, q3⟩ | ⟨q1, fv, cap, ff, aa, q2, q3, q4, q5⟩⟩ := hL
                · exact ⟨q0, .inl ⟨rr, w', q1, q2, ih _ _ q3⟩⟩
                · refine ⟨q0, .inr ⟨q1, fv, cap, ff, aa, q2, q3, q4, q5.mono ?_⟩⟩
                  intro en u' w3 hq
                  cases en with
                  | returned y => exact ih _ _ hq
                  | panicked ch => exact ih _ _ hq
                  | outgrown => exact conv .outgrown w3 hq
            have bmono : ∀ ex a2 w2, bodyPostM Fence.wide 0 P fn (RetE Φ1 τ1 h1' w1 r) ex a2 w2 → bodyPostM Fence.wide 0 P fn (RetE Φ τ h w r) ex a2 w2 := by
              intro ex a2 w2 hq
              cases ex with
              | normal => exact lmono _ _ _ _ hq
              | ret => exact lmono _ _ _ _ hq
              | panic ch => exact lmono _ _ _ _ hq
              | exit i => exact hq
              | goto l => exact hq
              | outgrown => exact conv .outgrown w2 hq
            refine wpIn_mono (s2 Φ1 τ1 act1 w1 ga x1 x2 (fun i q1 q2 => by rw [x3.same i (fun hh => by have := hh.2; omega)]; exact hFr i (Nat.le_trans k1.le q1) q2)) ?_
            intro ex a2 w2 hq
            cases ex with
            | normal => exact wpIn_mono hq bmono
            | ret => exact bmono .ret a2 w2 hq
            | panic ch => exact bmono (.panic ch) a2 w2 hq
            | exit i => exact hq
            | goto l => exact hq
            | outgrown => exact bmono .outgrown a2 w2 hq
        · rename_i s hs
          obtain ⟨a, t, k', caps, b⟩ := s
          obtain ⟨id, ts, cp, y1, y2, p1, p2, a1, a2, hcp, rfl⟩ := splitD_s hs
          have hS := code_s (fc := Fence.wide) hc h1 hm a (frame0 args 0) h
          revert e
          cases ho : evCode P call fn.ntmps a (frame0 args 0) h with
          | nx f1 h1' =>
            intro e
            have e : evDefer P call fn.ntmps t k' caps b fn.results.toList f1 h1' = r := e
            obtain ⟨g1, s1⟩ := hS (by rw [ho]; trivial)
            rw [ho] at g1 s1
            have g1 : Gw h h1' := g1
            obtain ⟨g2, s2⟩ := defer_s hc hm h1 e hr (id := id) (ts := ts) (y1 := y1) (y2 := y2) (p1 := p1) (p2 := p2) (a1 := a1) (a2 := a2) hcp
            have hh : hpR r h1' = hpR r h := by cases r <;> first | rfl | exact hr.elim
            rw [hh] at g2 s2
            refine ⟨⟨fn, hf, h3, by rw [hb]; rfl⟩, g1.trans g2, fun Φ τ w vs hR hFr hv => ?_⟩
            have k1 : Grow h h1' := g1 hR.lim
            have k2 := g2 (k1.lim hR.lim)
            obtain ⟨hgood, hfr⟩ := tmps0 (n := fn.ntmps) (vs := vs) (by rw [hv.len]; exact h2)
            refine calls_of_wp_defers hf hb (wp_seq (wp_mono ((s1 Φ τ _ w [] (frame0_s hv (by omega)) hR (fun id x1 x2 => hFr id x1 (Nat.lt_of_lt_of_le x2 k2.le))).wide hgood hfr) ?_))
            rintro ex a' w1 ⟨gg, qq⟩
            cases ex with
            | normal =>
              obtain ⟨Φ1, τ1, x1, x2, x3⟩ := qq
              refine wp_mono (s2 Φ1 τ1 a' w1 gg x1 x2 ?_) ?_
              · intro id q1 q2
                rw [x3.same id (fun hh => by have : id < h1'.n := hh.2; omega)]
                exact hFr id (Nat.le_trans k1.le q1) q2
              · have conv : ∀ en w2, RetE Φ1 τ1 h1' w1 r en w2 → RetE Φ τ h w r en w2 := by
                  intro en w2 hq
                  cases en with
                  | returned y =>
                    obtain ⟨v, h2', rfl, Φ2, τ2, z1, z2, z3⟩ := hq
                    exact ⟨v, h2', rfl, Φ2, τ2, z1, z2, x3.trans k1 k2.le (k1.lim hR.lim) z3⟩
                  | panicked ch =>
                    obtain ⟨v, h2', rfl, x, Φ2, τ2, z0, z1, z2, z3⟩ := hq
                    exact ⟨v, h2', rfl, x, Φ2, τ2, z0, z1, z2, x3.trans k1 k2.le (k1.lim hR.lim) z3⟩
                  | outgrown => exact hq
                have lmono : ∀ (tm : Array Value) (ds : List Deferred) (u : FrameMode) (w2 : World), Leaves P fn tm (RetE Φ1 τ1 h1' w1 r) ds u w2 → Leaves P fn tm (RetE Φ τ h w r) ds u w2 := by
                  intro tm ds
                  induction ds with
                  | nil =>
                    intro u w2 hL
                    cases u with
                    | run => exact hL
                    | returning => obtain ⟨v, q1, q2⟩ := hL; exact ⟨v, q1, conv _ _ q2⟩
                    | panicking ch => exact conv _ _ hL
                  | cons d ds ih =>
                    intro u w2 hL
                    obtain ⟨q0, fv, cap, ff, aa, q1, q2, q3⟩ := hL
                    refine ⟨q0, fv, cap, ff, aa, q1, q2, q3.mono ?_⟩
                    intro en u' w3 hq
                    cases en with
                    | returned y => exact ih _ _ hq
                    | panicked ch => exact ih _ _ hq
                    | outgrown => exact conv .outgrown w2 hq
                intro ex a2 w2 hq
                cases ex with
                | normal => exact lmono _ _ _ _ hq
                | ret => exact lmono _ _ _ _ hq
                | panic ch => exact lmono _ _ _ _ hq
                | exit i => exact hq
                | goto l => exact hq
                | outgrown => exact conv .outgrown w2 hq
            | _ => exact qq.elim
          | rt f1 h1' => intro e; have e : Res.no 53 = r := e; subst e; exact hr.elim
          | ex i f1 h1' => intro e; have e : Res.no 53 = r := e; subst e; exact hr.elim
          | pn v f1 h1' => intro e; have e : Res.no 53 = r := e; subst e; exact hr.elim
          | no m => intro e; have e : Res.no m = r := e; subst e; exact hr.elim
      · subst e; exact hr.elim
/-- what a function that the machine takes as a whole is held to -/
def PrimS (P : Program) (pr : Prim) : Prop := ∀ k p, pr k = some p → ∀ args h r, p args h = r → okR r →
  (∃ fn, P.funcs[k]? = some fn ∧ (fn.name == "runtime.NumGoroutine") = false ∧ fn.body.isNone = false) ∧ (h.n ≤ big5 → Grow h (hpR r h)) ∧
  ∀ Φ τ w vs, Rel Φ τ h w → Fre Φ h.n (hpR r h).n → RvL Φ args vs → Calls P k vs.toArray w (RetE Φ τ h w r)
def ExS (P : Program) (ex : FuncId → Nat) : Prop := ∀ k, ex k ≠ 0 → ExK P k (ex k)
theorem call_s {pr : Prim} {ex : FuncId → Nat} (hx : ExS P ex) (hp : PrimS P pr) (hm : P.follows .mixedOrders = true) : ∀ m, CallS P (evCallF P pr ex m) := by
  intro m
  induction m with
  | zero => exact ⟨hx, fun k args h r e hr => by have e : Res.no 54 = r := e; subst e; exact hr.elim, fun k args h r e hr => by have e : Res.no 54 = r := e; subst e; exact hr.elim⟩
  | succ m ih =>
    refine ⟨hx, fun k args h r e hr => ?_, fun id args h r e hr => round_s ih hm e hr⟩
    have e0 : (evCallF P pr ex (m + 1)).run k args h = Option.rec (evFun P (evCallF P pr ex m) k args h) (fun p => p args h) (pr k) := rfl
    rw [e0] at e
    cases hk : pr k with
    | none => rw [hk] at e; exact fun_s ih hm e hr
    | some p => rw [hk] at e; exact hp k p hk args h r e hr
/-- A closed call that the machine carries out. -/
theorem closed {pr : Prim} {ex : FuncId → Nat} (hx : ExS P ex) (hp : PrimS P pr) (hm : P.follows .mixedOrders = true) {m k : Nat} {v : AV} {h' : Hp} (e : evCall P pr ex m k [] emp = .ok v h') (w : World) :
    Calls P k #[] w fun en w' => (∃ x Φ, en = .returned x ∧ Rv Φ v x) ∧ Below w.heap.size w w' := by
  obtain ⟨_, _, s⟩ := (call_s hx hp hm m).run k [] emp _ e trivial
  have := s (fun _ => none) (fun _ => .out) w [] ⟨Nat.zero_le _, fun id b hid _ => absurd hid (Nat.not_lt_zero _), fun id _ _ => get5_fill id none⟩ (fun _ _ _ => rfl) (by simp only [RvL])
  refine this.mono ?_
  intro en w' hh
  cases en with
  | returned x =>
    obtain ⟨v2, h2, e9, Φ', τ', hv, _, t⟩ := hh
    cases e9
    exact ⟨⟨x, Φ', rfl, hv⟩, ⟨t.os, t.tape, t.output, t.size, fun g hg => (t.keep g hg fun id e => by cases e).1⟩⟩
  | panicked ch => obtain ⟨v2, h2, e9, _⟩ := hh; cases e9
  | outgrown => exact hh.elim
def tt (r : Res) : Bool := match r with
  | .ok (.b true) _ => true
  | _ => false
theorem closed_true {pr : Prim} {ex : FuncId → Nat} (hx : ExS P ex) (hp : PrimS P pr) (hm : P.follows .mixedOrders = true) {m k : Nat} (e : tt (evCall P pr ex m k [] emp) = true) (w : World) :
    Calls P k #[] w fun en w' => en = .returned (.bool true) ∧ Below w.heap.size w w' := by
  unfold tt at e
  split at e
  · rename_i h' he
    refine (closed hx hp hm he w).mono ?_
    rintro en w' ⟨⟨x, Φ, rfl, hv⟩, hb⟩
    rw [hv.bI]
    exact ⟨rfl, hb⟩
  · cases e
theorem noPrim : PrimS P fun _ => none := fun _ _ h => by cases h
end
end Go.Ev
