/- Part 7 of the texts for the claim. -/
import Derived.Test.YtjiojpmoleilgaaGreatDoorOrder6
namespace Go.Ev
set_option linter.unusedVariables false
set_option linter.unusedSimpArgs false
open Go Go.Wf Go.RowKit
section
variable {fc : Fence} {P : Program} {call : CallF} {n : Nat}
theorem Je1 {c : Code} {x : Fr → Hp → Out} (hx : Vd fc P n c x) : ∀ (m : Nat) (f : Fr) (h : Hp), okO (iter m x f h) → Gw h (hpO (iter m x f h) h) := by
 intro m
 induction m with
 | zero => intro f h e; exact e.elim
 | succ m ih =>
  intro f h e
  have e0 : iter (m + 1) x f h = sq (x f h) (iter m x) := rfl
  rw [e0] at e ⊢
  have hx := hx f h
  revert e hx
  cases hq : x f h with
  | nx f1 h1 =>
   intro e hx
   obtain ⟨g1, _⟩ := hx trivial
   have g1 : Gw h h1 := g1
   have e : okO (iter m x f1 h1) := e
   have g2 := ih f1 h1 e
   have eqq : sq (Out.nx f1 h1) (iter m x) = iter m x f1 h1 := rfl
   rw [eqq]
   have hh : hpO (iter m x f1 h1) h = hpO (iter m x f1 h1) h1 := by cases hy1 : iter m x f1 h1 <;> first | rfl | (rw [hy1] at e; exact e.elim)
   rw [hh]
   exact g1.trans g2
  | ex i f1 h1 => intro e hx; exact (hx trivial).1
  | rt f1 h1 => intro e hx; exact (hx trivial).1
  | pn v f1 h1 => intro e hx; exact (hx trivial).1
  | no q => intro e; exact e.elim
theorem Juh {c : Code} {x : Fr → Hp → Out} (hx : Vd fc P n c x) (m : Nat) : Vd fc P n (.loop c) (iter m x) := by
 intro f h e
 refine ⟨Je1 hx m f h e, fun Φ τ F w D hF hR hFr => ?_⟩
 have hG := Je1 hx m f h e hR.lim
 generalize hout : iter m x f h = out at e hFr hG
 refine W.loopN (fun k F' w' => ∃ f' h' Φ' τ', iter k x f' h' = out ∧ FR Φ' f' F' ∧ Rel Φ' τ' h' w' ∧ Tw Φ τ h w Φ' τ' h'.n w' ∧ Grow h h') m ⟨f, h, Φ, τ, hout, hF, hR, Tw.refl _ _ _ _ _, Grow.refl _⟩ ?_
 rintro k F' w' ⟨f', h', Φ', τ', ho, hF', hR', tw, gr⟩
 have hi : okO (iter k x f' h') := by rw [ho]; exact e
 cases k with
 | zero => exact hi.elim
 | succ k =>
  have e0 : iter (k + 1) x f' h' = sq (x f' h') (iter k x) := rfl
  rw [e0] at ho hi
  have hgr := Je1 hx (k + 1) f' h' (by rw [e0]; exact hi) hR'.lim
  rw [e0, ho] at hgr
  have hnn : (hpO out h').n = (hpO out h).n := by cases out <;> first | rfl | exact e.elim
  have hFr' : Fre Φ' h'.n (hpO out h).n := fun id a b => by
   rw [tw.same id (fun hh => by have := hh.2; omega)]
   exact hFr id (Nat.le_trans gr.le a) b
  have hx' := hx f' h'
  revert ho hi hx'
  cases hq : x f' h' with
  | nx f1 h1 =>
   intro ho hi hx'
   obtain ⟨g1, s1⟩ := hx' trivial
   have ho : iter k x f1 h1 = out := ho
   have k1 : Grow h' h1 := g1 hR'.lim
   have k2 := Je1 hx k f1 h1 (by rw [ho]; exact e) (k1.lim hR'.lim)
   rw [ho] at k2
   have hn1 : (hpO out h1).n = (hpO out h).n := by cases out <;> first | rfl | exact e.elim
   refine (s1 Φ' τ' F' w' D hF' hR' fun id a b => hFr' id a (Nat.lt_of_lt_of_le b (by rw [← hn1]; exact k2.le))).mono ?_
   intro ex F1 w1 q
   cases ex with
   | normal =>
    obtain ⟨Φ1, τ1, a, b, c⟩ := q
    exact ⟨k, Nat.lt_succ_self k, f1, h1, Φ1, τ1, ho, a, b, tw.trans gr k1.le hR'.lim c, gr.trans k1⟩
   | _ => exact q.elim
  | ex i f1 h1 =>
   intro ho hi hx'
   obtain ⟨g1, s1⟩ := hx' trivial
   have ho : Out.ex i f1 h1 = out := ho
   subst ho
   have k1 : Grow h' h1 := g1 hR'.lim
   refine (s1 Φ' τ' F' w' D hF' hR' hFr').mono ?_
   intro ex F1 w1 q
   cases ex with
   | exit j =>
    obtain ⟨rfl, Φ1, τ1, a, b, c⟩ := q
    exact ⟨rfl, Φ1, τ1, a, b, tw.trans gr k1.le hR'.lim c⟩
   | _ => exact q.elim
  | rt f1 h1 =>
   intro ho hi hx'
   obtain ⟨g1, s1⟩ := hx' trivial
   have ho : Out.rt f1 h1 = out := ho
   subst ho
   have k1 : Grow h' h1 := g1 hR'.lim
   refine (s1 Φ' τ' F' w' D hF' hR' hFr').mono ?_
   intro ex F1 w1 q
   cases ex with
   | ret =>
    obtain ⟨Φ1, τ1, a, b, c⟩ := q
    exact ⟨Φ1, τ1, a, b, tw.trans gr k1.le hR'.lim c⟩
   | _ => exact q.elim
  | pn v f1 h1 =>
   intro ho hi hx'
   obtain ⟨g1, s1⟩ := hx' trivial
   have ho : Out.pn v f1 h1 = out := ho
   subst ho
   have k1 : Grow h' h1 := g1 hR'.lim
   refine (s1 Φ' τ' F' w' D hF' hR' hFr').mono ?_
   intro ex F1 w1 q
   cases ex with
   | panic ch =>
    obtain ⟨z, Φ1, τ1, d1, d2, a, b, c⟩ := q
    exact ⟨z, Φ1, τ1, d1, d2, a, b, tw.trans gr k1.le hR'.lim c⟩
   | _ => exact q.elim
  | no q => intro _ hi; exact hi.elim
theorem W.label {l : Nat} {D : List Deferred} {Q : Wf.Post} {F : Wf.Fr} {w : World} (h : Q .normal F w) : W fc P (Code.label l) n D Q F w := fun a ha hf => wpIn_label ⟨ha, by rw [hf]; exact h⟩
theorem Kh {b : Frame} {a : Act} {k : List Item} {cs : List Frame} {w : World} {c : Code} : step P (lone (b.atR a (.code (.scope c) :: k)) cs w) = .next (lone (b.atR a (.code c :: .inScope c :: k)) cs w) :=
 step_lone_go (by simp [stepG, stepG.exec, Frame.atR])
theorem xc {b : Frame} {a : Act} {k : List Item} {cs : List Frame} {w : World} {c : Code} : step P (lone (b.atR a (.inScope c :: k)) cs w) = .next (lone (b.atR a k) cs w) :=
 step_lone_go (by simp [stepG, stepG.exec, Frame.atR])
theorem Jg8 {Q : Exit → Act → World → Prop} {a : Act} {w : World} {c : Code} {m : Nat} (h : c.wpIn fc m P (Exit.noGoto Q) a w) : (Code.scope c).wpIn fc m P Q a w := by
 intro b k cs hro hb hr
 have h0 : (lone (b.atR a (.code (.scope c) :: k)) cs w).fenced P fc := fenced_calm hb hr rfl
 obtain ⟨e, a₁, w₁, hq, harr⟩ := h b (.inScope c :: k) cs hro hb hr
 cases e with
 | normal => exact ⟨.normal, a₁, w₁, hq, .head h0 Kh (StepsIn.trans harr (.one (fenced_calm hb hr rfl) xc))⟩
 | exit id =>
  have hx : exitTo id (.inScope c :: k) = exitTo id k := by simp [exitTo]
  exact ⟨_, a₁, w₁, hq, fun k' hk => .head h0 Kh (harr.1 k' (by rw [hx]; exact hk)),
   fun hr' hk => let ⟨k₁, h1, h2⟩ := harr.2 hr' (by rw [hx]; exact hk); ⟨k₁, h1, .head h0 Kh h2⟩⟩
 | goto l => exact hq.elim
 | ret => exact ⟨_, a₁, w₁, hq, .of_steps (.one h0 Kh) harr⟩
 | panic ch => exact ⟨_, a₁, w₁, hq, .of_steps (.one h0 Kh) harr⟩
 | outgrown => exact ⟨_, a₁, w₁, hq, .of_steps (.one h0 Kh) harr⟩
theorem Jqg {c : Code} {x : Fr → Hp → Out} (hx : Vd fc P n c x) : Vd fc P n (.scope c) x := by
 intro f h e
 obtain ⟨g, s⟩ := hx f h e
 refine ⟨g, fun Φ τ F w D hF hR hFr a ha hf => Jg8 (wpIn_mono (s Φ τ F w D hF hR hFr a ha hf) ?_)⟩
 rintro ex a' w' ⟨k1, k2⟩
 cases ex with
 | goto l => cases hq : x f h <;> rw [hq] at k2 <;> exact k2.elim
 | _ => exact ⟨k1, k2⟩
theorem Je9 [Fw fc] (hc : CallS P call) (hn : n ≤ 4096) (hm : P.follows .mixedOrders = true) (c : Code) : Vd fc P n c (K7 P call n c) := by
 induction c with
 | skip => intro f h e; exact ⟨Gw.refl _, fun Φ τ F w D hF hR _ => W.skip ⟨Φ, τ, hF, hR, Tw.refl _ _ _ _ _⟩⟩
 | region id ops draw => exact Jl1 hc hn hm id ops draw
 | seq a b iha ihb => exact sq_s iha ihb
 | cond o a b iha ihb => exact Jv1 o iha ihb
 | block id c ih => exact blk_s id ih
 | loop c ih => exact Juh ih 1000000
 | exit id => intro f h e; exact ⟨Gw.refl _, fun Φ τ F w D hF hR _ => W.exit ⟨rfl, Φ, τ, hF, hR, Tw.refl _ _ _ _ _⟩⟩
 | ret => intro f h e; exact ⟨Gw.refl _, fun Φ τ F w D hF hR _ => W.ret ⟨Φ, τ, hF, hR, Tw.refl _ _ _ _ _⟩⟩
 | rangeFunc o ps a b _ _ => intro f h e; exact e.elim
 | scope c ih => exact Jqg ih
 | label l => intro f h e; exact ⟨Gw.refl _, fun Φ τ F w D hF hR _ => W.label ⟨Φ, τ, hF, hR, Tw.refl _ _ _ _ _⟩⟩
 | goto l => intro f h e; exact e.elim
 | refuse why => intro f h e; exact e.elim
theorem Jg2 {Φ : Phi} {t : Nat} (ht : t < 4096) : ∀ (l : List AV) (i : Nat), i + l.length ≤ 4096 → getF t (K2 l i) = if i ≤ t then (l[t - i]?).getD .u else .u := by
 intro l
 induction l with
 | nil =>
  intro i _
  have : getF t (K2 [] i) = AV.u := Jbn t AV.u
  rw [this]; simp
 | cons a l ih =>
  intro i hi
  simp only [List.length_cons] at hi
  have e0 : getF t (K2 (a :: l) i) = getF t (setF i a (K2 l (Nat.succ i))) := rfl
  rw [e0, Xj _ _ _ _ ht (by omega), ih (i + 1) (by omega)]
  rcases Nat.lt_trichotomy t i with h | h | h
  ·rw [if_neg (by omega), if_neg (by omega), if_neg (by omega)]
  ·subst h; rw [if_pos rfl, if_pos (Nat.le_refl _), Nat.sub_self]; rfl
  ·rw [if_neg (by omega), if_pos (by omega), if_pos (by omega), show t - i = (t - (i + 1)) + 1 by omega]; rfl
theorem Jar {Φ : Phi} {l : List AV} {vs : List Value} (h : RvL Φ l vs) (hl : l.length ≤ 4096) : FR Φ (K2 l 0) (zu vs) := by
 intro t ht
 rw [Jg2 (Φ := Φ) ht l 0 (by omega), if_pos (Nat.zero_le _), Nat.sub_zero]
 cases hi : l[t]? with
 | none => simp only [Option.getD_none, Rv]
 | some a =>
  obtain ⟨v, hv, hr⟩ := h.at hi
  have : zu vs t = v := by unfold zu; rw [List.getD_eq_getElem?_getD, hv]; rfl
  rw [this]; exact hr
theorem recRR {r : Res} {k : AV → Hp → Res} {v : AV} {h : Hp} {m : Nat} (e : (Res.rec k Res.no (fun _ _ => .no m) r : Res) = .ok v h) : ∃ y h', r = .ok y h' ∧ k y h' = .ok v h := by
 cases r with
 | ok y h' => exact ⟨y, h', rfl, e⟩
 | no m => cases e
 | pn v h => cases e
theorem Jrd {ρ : Operand → Value} {t : TypeId} {a : Operand} {w : World} {K : Value → World → Prop} (h : St P ρ ⟨none, .load t a, 0, "", #[], none⟩ w K KF) : ∃ u w', (Instr.loadAt t (ρ a)).run P w = .ok u w' ∧ K u w' := by
 unfold St at h
 cases hr : (Instr.loadAt t (ρ a)).run P w with
 | ok u w' =>
  have : (execOp ρ ⟨none, .load t a, 0, "", #[], none⟩).run P w = .ok (.value u) w' := by simp [execOp, hr]
  rw [this] at h
  exact ⟨u, w', rfl, h⟩
 | halt q w' =>
  have : (execOp ρ ⟨none, .load t a, 0, "", #[], none⟩).run P w = .halt q w' := by simp [execOp, hr]
  rw [this] at h
  cases q <;> exact h.elim
theorem Jvf {f : Fr} {h h' : Hp} {r : ResultVar} {k : AV → Res} {v : AV} (e : resA P f h r k = .ok v h') : ∃ a, k a = .ok v h' ∧
  ∀ (Φ : Phi) (τ : Tau) (F : Wf.Fr) (w : World) (tmps : Array Value), FR Φ f F → Rel Φ τ h w → (∀ t, tmps.getD t undef = F t) → ∃ x, Rv Φ a x ∧ (resM tmps r).run P w = .ok x w := by
 unfold resA at e
 cases r with
 | tmp t =>
  refine ⟨_, e, fun Φ τ F w tmps hF hR ht => ⟨F t, Jc hF (.tmp t), ?_⟩⟩
  unfold resM
  simp only [Sem.run_pure, ht t]
 | cell p t =>
  obtain ⟨a, h1, e1, e2⟩ := recRR e
  have he := e1
  obtain ⟨rfl, rd⟩ := Jft e1
  refine ⟨a, e2, fun Φ τ F w tmps hF hR ht => ?_⟩
  obtain ⟨u, w', hrun, rfl, hv⟩ := Jrd (rd Φ τ F w none 0 "" #[] none hF hR)
  refine ⟨u, hv, ?_⟩
  unfold resM
  simp only [ht p]
  have hp : ∃ ad, F p = .pointer (some ad) := by
   unfold Qm at he
   split at he
   ·rename_i id off hx
    have := Jc hF (.tmp p)
    rw [hx] at this
    obtain ⟨en, _, hh⟩ := this.pI
    exact ⟨_, hh⟩
   ·rename_i g off hx
    have := Jc hF (.tmp p)
    rw [hx] at this
    simp only [Rv] at this
    exact ⟨_, this⟩
   ·cases he
  obtain ⟨ad, had⟩ := hp
  have hrun : (Instr.loadAt t (F p)).run P w' = .ok u w' := hrun
  rw [had] at hrun ⊢
  simpa [Instr.loadAt, Instr.sureAddr, asAddr] using hrun
theorem Jux {f : Fr} {h h' : Hp} {v : AV} : ∀ (l : List ResultVar) (k : List AV → Res), resL P f h l k = .ok v h' → ∃ as0 : List AV, k as0 = .ok v h' ∧ as0.length = l.length ∧
  ∀ (Φ : Phi) (τ : Tau) (F : Wf.Fr) (w : World) (tmps : Array Value), FR Φ f F → Rel Φ τ h w → (∀ t, tmps.getD t undef = F t) → ∃ xs, RvL Φ as0 xs ∧ (l.mapM (resM tmps)).run P w = .ok xs w := by
 intro l
 induction l with
 | nil => intro k e; exact ⟨[], e, rfl, fun Φ τ F w tmps _ _ _ => ⟨[], by simp only [RvL], by simp⟩⟩
 | cons r l ih =>
  intro k e
  have e : resA P f h r (fun v => resL P f h l fun vs => k (v :: vs)) = .ok v h' := e
  obtain ⟨a, e1, s1⟩ := Jvf e
  obtain ⟨as0, e2, hl, s2⟩ := ih _ e1
  refine ⟨a :: as0, e2, by simp [hl], fun Φ τ F w tmps hF hR ht => ?_⟩
  obtain ⟨x, hx, r1⟩ := s1 Φ τ F w tmps hF hR ht
  obtain ⟨xs, hxs, r2⟩ := s2 Φ τ F w tmps hF hR ht
  refine ⟨x :: xs, by simp only [RvL]; exact ⟨x, xs, rfl, hx, hxs⟩, ?_⟩
  simp [List.mapM_cons, r1, r2]
theorem Jvz {fn : Func} {f : Fr} {h h' : Hp} {v : AV} (e : finR P f h fn.results.toList = .ok v h') : h' = h ∧
  ∀ (Φ : Phi) (τ : Tau) (F : Wf.Fr) (w : World), FR Φ f F → Rel Φ τ h w → ∃ x, Rv Φ v x ∧ ∀ tmps : Array Value, (∀ t, tmps.getD t undef = F t) → (results fn tmps).run P w = .ok x w := by
 unfold finR at e
 obtain ⟨as0, e1, hl, s⟩ := Jux _ _ e
 have hres : ∀ (w : World) (tmps : Array Value) (xs : List Value), (fn.results.toList.mapM (resM tmps)).run P w = .ok xs w → (results fn tmps).run P w = .ok (if xs.length = 1 then xs.getD 0 undef else .tuple xs.toArray) w := by
  intro w tmps xs hr
  have e9 : fn.results = fn.results.toList.toArray := by simp
  rw [Xd, e9, List.mapM_toArray]
  simp only [Sem.run_bind, Sem.run_map, hr]
  simp
  cases xs with
  | nil => rfl
  | cons x xs => cases xs with
   | nil => rfl
   | cons y ys => rfl
 have det : ∀ (Φ : Phi) (τ : Tau) (F : Wf.Fr) (w : World), FR Φ f F → Rel Φ τ h w → ∃ xs, RvL Φ as0 xs ∧ ∀ tmps : Array Value, (∀ t, tmps.getD t undef = F t) → (fn.results.toList.mapM (resM tmps)).run P w = .ok xs w := by
  intro Φ τ F w hF hR
  by_cases hex : ∃ tmps : Array Value, ∀ t, tmps.getD t undef = F t
  ·obtain ⟨t0, h0⟩ := hex
   obtain ⟨xs, h1, h2⟩ := s Φ τ F w t0 hF hR h0
   refine ⟨xs, h1, fun tmps ht => ?_⟩
   have : resM tmps = resM t0 := by
    funext r
    unfold resM
    cases r <;> simp only [ht, h0]
   rw [this]; exact h2
  ·
   have hsome : ∃ xs, RvL Φ as0 xs := by
    obtain ⟨xs, h1, _⟩ := s Φ τ (fun t => (Array.ofFn (n := 4096) fun i => F i).getD t undef) w (Array.ofFn (n := 4096) fun i => F i) (fun t ht => by
     have : (Array.ofFn (n := 4096) fun i => F i).getD t undef = F t := by simp [Array.getD_eq_getD_getElem?, ht]
     show Rv Φ (getF t f) ((Array.ofFn (n := 4096) fun i => F i).getD t undef)
     rw [this]; exact hF t ht) hR fun t => rfl
    exact ⟨xs, h1⟩
   obtain ⟨xs, hxs⟩ := hsome
   exact ⟨xs, hxs, fun tmps ht => absurd ⟨tmps, ht⟩ hex⟩
 cases as0 with
 | nil =>
  obtain ⟨rfl, rfl⟩ := Jx e1
  refine ⟨rfl, fun Φ τ F w hF hR => ?_⟩
  obtain ⟨xs, h1, h2⟩ := det Φ τ F w hF hR
  have hx : xs = [] := by simp only [RvL] at h1; exact h1
  subst hx
  refine ⟨.tuple #[], by simp only [Rv]; exact ⟨[], rfl, by simp only [RvL]⟩, fun tmps ht => ?_⟩
  have := hres w tmps [] (h2 tmps ht)
  simpa using this
 | cons a r =>
  cases r with
  | nil =>
   obtain ⟨rfl, rfl⟩ := Jx e1
   refine ⟨rfl, fun Φ τ F w hF hR => ?_⟩
   obtain ⟨xs, h1, h2⟩ := det Φ τ F w hF hR
   simp only [RvL] at h1
   obtain ⟨x, r, rfl, hx, rfl⟩ := h1
   refine ⟨x, hx, fun tmps ht => ?_⟩
   have := hres w tmps _ (h2 tmps ht)
   simpa using this
  | cons b r =>
   obtain ⟨rfl, rfl⟩ := Jx e1
   refine ⟨rfl, fun Φ τ F w hF hR => ?_⟩
   obtain ⟨xs, h1, h2⟩ := det Φ τ F w hF hR
   have hlen := h1.len
   refine ⟨.tuple xs.toArray, by simp only [Rv]; exact ⟨xs, rfl, h1⟩, fun tmps ht => ?_⟩
   have := hres w tmps _ (h2 tmps ht)
   rw [if_neg (by rw [hlen]; simp)] at this
   exact this
theorem Jud {f : Fr} {h h' : Hp} {r : ResultVar} {k : AV → Res} {v : AV} (hk : ∀ a, k a ≠ .pn v h') : resA P f h r k ≠ .pn v h' := by
 intro e
 unfold resA at e
 cases r with
 | tmp t => exact hk _ e
 | cell p t =>
  simp only at e
  cases hq : Qm P t (.tmp p) f h with
  | ok a h1 => rw [hq] at e; exact hk _ e
  | no m => rw [hq] at e; cases e
  | pn a h1 => rw [hq] at e; cases e
theorem Jve {f : Fr} {h h' : Hp} {v : AV} : ∀ (l : List ResultVar) (k : List AV → Res), (∀ a, k a ≠ .pn v h') → resL P f h l k ≠ .pn v h' := by
 intro l
 induction l with
 | nil => intro k hk; exact hk []
 | cons r l ih => intro k hk; exact Jud fun a => ih _ fun as0 => hk (a :: as0)
theorem Jvm {f : Fr} {h h' : Hp} {v : AV} {l : List ResultVar} : finR P f h l ≠ .pn v h' := by
 unfold finR
 refine Jve _ _ fun as0 => ?_
 cases as0 with
 | nil => intro e; cases e
 | cons a r => cases r <;> intro e <;> cases e
theorem Jjc {fn : Func} {f : Fr} {h : Hp} {r : Res} (e : finR P f h fn.results.toList = r) (hr : okR r) : ∃ v, r = .ok v h ∧
  ∀ (Φ : Phi) (τ : Tau) (F : Wf.Fr) (w : World), FR Φ f F → Rel Φ τ h w → ∃ x, Rv Φ v x ∧ ∀ tmps : Array Value, (∀ t, tmps.getD t undef = F t) → (results fn tmps).run P w = .ok x w := by
 cases r with
 | no m => exact hr.elim
 | pn v h' => exact absurd e Jvm
 | ok v h' =>
  obtain ⟨rfl, s⟩ := Jvz e
  exact ⟨v, rfl, s⟩
theorem Jwj (hc : CallS P call) (hm : P.follows .mixedOrders = true) {fn : Func} (hn : fn.ntmps ≤ 4096) {c : Code} {f : Fr} {h : Hp} {r : Res} (e : Jez P call fn.ntmps c fn.results.toList f h = r) (hr : okR r) :
  Gw h (hpR r h) ∧ ∀ (Φ : Phi) (τ : Tau) (F : Wf.Fr) (w : World), FR Φ f F → Rel Φ τ h w → Fre Φ h.n (hpR r h).n → W Fence.wide P c fn.ntmps [] (retQ P fn (RetE Φ τ h w r)) F w := by
 have hS := Je9 (fc := Fence.wide) hc hn hm c f h
 unfold Jez at e
 revert e hS
 cases hq : K7 P call fn.ntmps c f h with
 | nx f1 h1 =>
  intro e hS
  obtain ⟨g, s⟩ := hS trivial
  obtain ⟨v, rfl, fr⟩ := Jjc e hr
  refine ⟨g, fun Φ τ F w hF hR hFr => (s Φ τ F w [] hF hR hFr).mono ?_⟩
  intro ex F1 w1 q
  cases ex with
  | normal =>
   obtain ⟨Φ1, τ1, a, b, t⟩ := q
   obtain ⟨x, hx, hrun⟩ := fr Φ1 τ1 F1 w1 a b
   exact ⟨x, hrun, v, h1, rfl, Φ1, τ1, hx, b, t⟩
  | _ => exact q.elim
 | rt f1 h1 =>
  intro e hS
  obtain ⟨g, s⟩ := hS trivial
  obtain ⟨v, rfl, fr⟩ := Jjc e hr
  refine ⟨g, fun Φ τ F w hF hR hFr => (s Φ τ F w [] hF hR hFr).mono ?_⟩
  intro ex F1 w1 q
  cases ex with
  | ret =>
   obtain ⟨Φ1, τ1, a, b, t⟩ := q
   obtain ⟨x, hx, hrun⟩ := fr Φ1 τ1 F1 w1 a b
   exact ⟨x, hrun, v, h1, rfl, Φ1, τ1, hx, b, t⟩
  | _ => exact q.elim
 | pn v f1 h1 =>
  intro e hS
  obtain ⟨g, s⟩ := hS trivial
  have e : Res.pn v h1 = r := e
  subst e
  refine ⟨g, fun Φ τ F w hF hR hFr => (s Φ τ F w [] hF hR hFr).mono ?_⟩
  intro ex F1 w1 q
  cases ex with
  | panic ch =>
   obtain ⟨x, Φ1, τ1, d1, d2, a, b, t⟩ := q
   exact ⟨v, h1, rfl, x, Φ1, τ1, d1, d2, b, t⟩
  | _ => exact q.elim
 | ex i f1 h1 => intro e; have e : Res.no 53 = r := e; subst e; exact hr.elim
 | no m => intro e; have e : Res.no m = r := e; subst e; exact hr.elim
theorem Jnh {c : Code} {t u : Tmp} {b : Code} (h : Jkm c = some (t, u, b)) : ∃ (id : Nat) (ts : Array TypeId) (y1 y2 : TypeId) (p1 p2 : String) (a1 a2 : Array Edge),
  c = .seq (.region id #[⟨some t, .call ⟨.builtin .recover, #[], ts⟩, y1, p1, a1, none⟩, ⟨some u, .assign (.tmp t), y2, p2, a2, none⟩] false) b := by
 unfold Jkm at h
 split at h
 ·rename_i id ops b'
  split at h
  ·rename_i t' args ts y1 p1 a1 u' v' y2 p2 a2 hops
   split at h
   ·rename_i hargs
    cases hb : Nat.beq t' v' with
    | false => rw [hb] at h; cases h
    | true =>
     rw [hb] at h
     have := Nat.eq_of_beq_eq_true hb
     subst this
     simp only [cond_true, Option.some.injEq, Prod.mk.injEq] at h
     obtain ⟨rfl, rfl, rfl⟩ := h
     have ha : args = #[] := by apply Array.ext'; rw [hargs]
     subst ha
     have ho : ops = #[⟨some t', .call ⟨.builtin .recover, #[], ts⟩, y1, p1, a1, none⟩, ⟨some u', .assign (.tmp t'), y2, p2, a2, none⟩] := by apply Array.ext'; rw [hops]
     subst ho
     exact ⟨id, ts, y1, y2, p1, p2, a1, a2, rfl⟩
   ·cases h
  ·cases h
 ·cases h
theorem Jlf {c a b : Code} {t : Tmp} {k : FuncId} {caps : List Operand} (h : Jia c = some (a, t, k, caps, b)) : ∃ (id : Nat) (ts : Array TypeId) (cp : Array Operand) (y1 y2 : TypeId) (p1 p2 : String) (a1 a2 : Array Edge), cp.toList = caps ∧
  c = .seq a (.seq (.region id #[⟨some t, .makeFunc (.func k) #[] cp, y1, p1, a1, none⟩, ⟨none, .defer ⟨.value (.tmp t), #[], ts⟩, y2, p2, a2, none⟩] false) b) := by
 unfold Jia at h
 split at h
 ·rename_i a' id ops b'
  split at h
  ·rename_i t' k' first cp y1 p1 a1 u' args ts y2 p2 a2 hops
   split at h
   ·rename_i hf hargs
    cases hb : Nat.beq t' u' with
    | false => rw [hb] at h; cases h
    | true =>
     rw [hb] at h
     have := Nat.eq_of_beq_eq_true hb
     subst this
     simp only [cond_true, Option.some.injEq, Prod.mk.injEq] at h
     obtain ⟨rfl, rfl, rfl, rfl, rfl⟩ := h
     have ha : args = #[] := by apply Array.ext'; rw [hargs]
     subst ha
     have hf : first = #[] := by apply Array.ext'; rw [hf]
     subst hf
     have ho : ops = #[⟨some t', .makeFunc (.func k') #[] cp, y1, p1, a1, none⟩, ⟨none, .defer ⟨.value (.tmp t'), #[], ts⟩, y2, p2, a2, none⟩] := by apply Array.ext'; rw [hops]
     subst ho
     exact ⟨id, ts, cp, y1, y2, p1, p2, a1, a2, rfl, rfl⟩
   ·cases h
  ·cases h
 ·cases h
theorem Jvp {n : Nat} {vs : List Value} (hl : vs.length ≤ n) : Wf.Good n [] { tmps := vs.toArray ++ Array.replicate (n - vs.toArray.size) undef, defers := [] } ∧ frOf { tmps := vs.toArray ++ Array.replicate (n - vs.toArray.size) undef, defers := [] } = zu vs := by
 refine ⟨⟨by simp; omega, rfl⟩, ?_⟩
 funext t
 simp only [frOf, zu, Array.getD_eq_getD_getElem?, List.getD_eq_getElem?_getD, Array.getElem?_append]
 by_cases ht : t < vs.length
 ·simp [ht]
 ·simp only [List.size_toArray, ht, if_false]
  rw [List.getElem?_eq_none (by omega)]
  simp only [Array.getElem?_replicate]
  split <;> rfl
def Mode (Φ : Phi) (p : AV) (u : FrameMode) : Prop := (p = .nif ∧ u = .returning) ∨ ∃ x, u = .panicking [{ v := x, recovered := false }] ∧ Rv Φ p x
theorem def_s (hc : CallS P call) (hm : P.follows .mixedOrders = true) {k : FuncId} {args : List AV} {p : AV} {h : Hp} {q : Hp → Res} {r : Res} (e : Jgy P call k args p h q = r) (hr : okR r) :
  ∃ fn c h2, P.funcs[k]? = some fn ∧ (fn.name == "runtime.NumGoroutine") = false ∧ fn.body = some c ∧ q h2 = r ∧ Gw h h2 ∧
  ∀ (Φ : Phi) (τ : Tau) (w : World) (vs : List Value) (u : FrameMode), Mode Φ p u → Rel Φ τ h w → Fre Φ h.n h2.n → RvL Φ args vs →
   CallsD P k vs.toArray u w fun en u' w' => (∃ y, en = .returned y) ∧ settle u' = .returning ∧ ∃ Φ' τ', Rel Φ' τ' h2 w' ∧ Tw Φ τ h w Φ' τ' h2.n w' := by
 unfold Jgy at e
 split at e
 ·subst e; exact hr.elim
 ·rename_i fn hf
  split at e
  ·subst e; exact hr.elim
  ·rename_i c hb
   split at e
   ·subst e; exact hr.elim
   ·rename_i s hs
    obtain ⟨t, u0, b⟩ := s
    rw [za] at e
    split at e
    ·rename_i hcd
     obtain ⟨hcd, h6⟩ := Zj hcd
     obtain ⟨hcd, h5⟩ := Zj hcd
     obtain ⟨hcd, h4⟩ := Zj hcd
     obtain ⟨hcd, h3⟩ := Zj hcd
     obtain ⟨h1, h2⟩ := Zj hcd
     have h1 := Nat.le_of_ble_eq_true h1
     have h2 := Nat.le_of_ble_eq_true h2
     have h3 : t < fn.ntmps := Yb h3
     have h4 : u0 < fn.ntmps := Yb h4
     have h6 := Jg3 h6
     rw [X2] at h2
     have hres : fn.results = #[] := by
      unfold nilB at h5
      split at h5
      ·rename_i hh; apply Array.ext'; rw [hh]
      ·cases h5
     obtain ⟨id, ts, y1, y2, p1, p2, a1, a2, rfl⟩ := Jnh hs
     have hS := Je9 (fc := Fence.wide) hc h1 hm b (setF u0 p (setF t p (K2 args 0))) h
     have fin : ∀ {f2 : Fr} {h2' : Hp}, (K7 P call fn.ntmps b (setF u0 p (setF t p (K2 args 0))) h = .nx f2 h2' ∨ K7 P call fn.ntmps b (setF u0 p (setF t p (K2 args 0))) h = .rt f2 h2') → q h2' = r →
       ∃ fn' c' h2, P.funcs[k]? = some fn' ∧ (fn'.name == "runtime.NumGoroutine") = false ∧ fn'.body = some c' ∧ q h2 = r ∧ Gw h h2 ∧
       ∀ (Φ : Phi) (τ : Tau) (w : World) (vs : List Value) (u : FrameMode), Mode Φ p u → Rel Φ τ h w → Fre Φ h.n h2.n → RvL Φ args vs →
        CallsD P k vs.toArray u w fun en u' w' => (∃ y, en = .returned y) ∧ settle u' = .returning ∧ ∃ Φ' τ', Rel Φ' τ' h2 w' ∧ Tw Φ τ h w Φ' τ' h2.n w' := by
      intro f2 h2' ho hq
      obtain ⟨g, sS⟩ := hS (by rcases ho with ho | ho <;> rw [ho] <;> trivial)
      have hh : hpO (K7 P call fn.ntmps b (setF u0 p (setF t p (K2 args 0))) h) h = h2' := by rcases ho with ho | ho <;> rw [ho] <;> rfl
      rw [hh] at g sS
      refine ⟨fn, _, h2', hf, h6, hb, hq, g, fun Φ τ w vs u hu hR hFr hv => ?_⟩
      refine callsD_of_wpS hf hb fun c₀ cs hc0 => ?_
      obtain ⟨hgood, hfr⟩ := Jvp (n := fn.ntmps) (vs := vs) (by rw [hv.len]; exact h2)
      obtain ⟨x, c1, hx, hset, hrec⟩ : ∃ (x : Value) (c1 : FrameMode), Rv Φ p x ∧ settle c1 = .returning ∧ ((recoverD (c₀ :: cs) = some (x, { c₀ with mode := c1 } :: cs)) ∨ (recoverD (c₀ :: cs) = none ∧ x = .nilIface ∧ c₀ :: cs = { c₀ with mode := c1 } :: cs)) := by
       rcases hu with ⟨rfl, rfl⟩ | ⟨x, rfl, hx⟩
       ·refine ⟨.nilIface, .returning, by simp only [Rv], rfl, .inr ⟨?_, rfl, ?_⟩⟩
        ·simp [recoverD, hc0]
        ·rw [← hc0]
       ·exact ⟨x, .panicking [{ v := x, recovered := true }], hx, rfl, .inl (by simp [recoverD, hc0])⟩
      refine wpS_seq (wpS_region ?_)
      have hrange : List.range (#[(⟨some t, .call ⟨.builtin .recover, #[], ts⟩, y1, p1, a1, none⟩ : Oper), ⟨some u0, .assign (.tmp t), y2, p2, a2, none⟩]).size = [0, 1] := rfl
      rw [hrange]
      have hend : ∀ (act : Act), Wf.Good fn.ntmps [] act → frOf act = upd (upd (zu vs) t x) u0 x → b.wpS P (bodyPostS P fn c₀ cs fun en u' w' => (∃ y, en = .returned y) ∧ settle u' = .returning ∧ ∃ Φ' τ', Rel Φ' τ' h2' w' ∧ Tw Φ τ h w Φ' τ' h2'.n w') act ({ c₀ with mode := c1 } :: cs) w := by
       intro act hact hfa
       have hFR : FR Φ (setF u0 p (setF t p (K2 args 0))) (upd (upd (zu vs) t x) u0 x) := ((Jar hv (by omega)).set (Nat.lt_of_lt_of_le h3 h1) hx).set (Nat.lt_of_lt_of_le h4 h1) hx
       have hW := (sS Φ τ _ w [] hFR hR hFr).wide hact hfa
       refine wpS_of_wp (wp_mono hW ?_)
       rintro ex act' w' ⟨ga, qa⟩
       have done : ∀ {Φ' : Phi} {τ' : Tau}, Rel Φ' τ' h2' w' → Tw Φ τ h w Φ' τ' h2'.n w' → act'.defers = [] ∧ ∃ u', ({ c₀ with mode := c1 } :: cs : List Frame) = { c₀ with mode := u' } :: cs ∧ ∃ v, (results fn act'.tmps).run P w' = .ok v w' ∧ ((∃ y, Ending.returned v = .returned y) ∧ settle u' = .returning ∧ ∃ Φ' τ', Rel Φ' τ' h2' w' ∧ Tw Φ τ h w Φ' τ' h2'.n w') := by
        intro Φ' τ' k1 k2
        refine ⟨ga.defers, c1, rfl, .tuple #[], ?_, ⟨_, rfl⟩, hset, Φ', τ', k1, k2⟩
        rw [Xd, hres]
        simp
       rcases ho with ho | ho <;> rw [ho] at qa
       ·cases ex with
        | normal => obtain ⟨Φ', τ', _, k1, k2⟩ := qa; exact done k1 k2
        | _ => exact qa.elim
       ·cases ex with
        | ret => obtain ⟨Φ', τ', _, k1, k2⟩ := qa; exact done k1 k2
        | _ => exact qa.elim
      have hput : ∀ (act : Act), Wf.Good fn.ntmps [] act → frOf act = zu vs → Wf.Good fn.ntmps [] ((act.put (some t) x).put (some u0) x) ∧ frOf ((act.put (some t) x).put (some u0) x) = upd (upd (zu vs) t x) u0 x := by
       intro act hact hfa
       refine ⟨(hact.put _ _).put _ _, ?_⟩
       rw [Yl (hact.put _ _) (some u0) (show lo fn.ntmps (some u0) from h4), Yl hact (some t) (show lo fn.ntmps (some t) from h3), hfa]; rfl
      have hev : ∀ (act : Act), Wf.Good fn.ntmps [] act → (act.put (some t) x).eval (.tmp t) = x := by
       intro act hact
       rw [yz, Yl hact (some t) (show lo fn.ntmps (some t) from h3)]
       show upd (frOf act) t x t = x
       simp [upd]
      obtain ⟨k1, k2⟩ := hput _ hgood hfr
      have k3 := hev _ hgood
      have h0 : (execOp (Act.eval { tmps := vs.toArray ++ Array.replicate (fn.ntmps - vs.toArray.size) undef, defers := [] }) ⟨some t, .call ⟨.builtin .recover, #[], ts⟩, y1, p1, a1, none⟩).run P w = .ok .recover w := by
       simp [execOp, resolve, invoke, builtin]
      have hop0 : (#[(⟨some t, .call ⟨.builtin .recover, #[], ts⟩, y1, p1, a1, none⟩ : Oper), ⟨some u0, .assign (.tmp t), y2, p2, a2, none⟩])[0]? = some ⟨some t, .call ⟨.builtin .recover, #[], ts⟩, y1, p1, a1, none⟩ := rfl
      have hop1 : (#[(⟨some t, .call ⟨.builtin .recover, #[], ts⟩, y1, p1, a1, none⟩ : Oper), ⟨some u0, .assign (.tmp t), y2, p2, a2, none⟩])[1]? = some ⟨some u0, .assign (.tmp t), y2, p2, a2, none⟩ := rfl
      have hw0 : ∀ (z : Nat → Option Bool), Region.wanted (⟨some t, .call ⟨.builtin .recover, #[], ts⟩, y1, p1, a1, none⟩ : Oper) z = true := fun z => rfl
      have hw1 : ∀ (z : Nat → Option Bool), Region.wanted (⟨some u0, .assign (.tmp t), y2, p2, a2, none⟩ : Oper) z = true := fun z => rfl
      have second : ∀ cs', cs' = { c₀ with mode := c1 } :: cs → wpOpsS P #[(⟨some t, .call ⟨.builtin .recover, #[], ts⟩, y1, p1, a1, none⟩ : Oper), ⟨some u0, .assign (.tmp t), y2, p2, a2, none⟩] (Exit.thenS (b.wpS P (bodyPostS P fn c₀ cs fun en u' w' => (∃ y, en = .returned y) ∧ settle u' = .returning ∧ ∃ Φ' τ', Rel Φ' τ' h2' w' ∧ Tw Φ τ h w Φ' τ' h2'.n w')) (bodyPostS P fn c₀ cs fun en u' w' => (∃ y, en = .returned y) ∧ settle u' = .returning ∧ ∃ Φ' τ', Rel Φ' τ' h2' w' ∧ Tw Φ τ h w Φ' τ' h2'.n w')) [1] (Act.put { tmps := vs.toArray ++ Array.replicate (fn.ntmps - vs.toArray.size) undef, defers := [] } (some t) x) cs' w := by
       rintro cs' rfl
       simp only [wpOpsS, hop1, hw1, if_true]
       have h1' : (execOp (Act.put { tmps := vs.toArray ++ Array.replicate (fn.ntmps - vs.toArray.size) undef, defers := [] } (some t) x).eval ⟨some u0, .assign (.tmp t), y2, p2, a2, none⟩).run P w = .ok (.value x) w := by
        simp only [execOp, k3, Sem.run_pure]
       rw [h1']
       exact hend _ k1 k2
      unfold wpOpsS
      simp only [hop0, hw0, if_true, h0]
      rcases hrec with hrec | ⟨hrec, rfl, hcs⟩
      ·rw [hrec]; exact second _ rfl
      ·rw [hrec]; exact second _ hcs
     revert e
     cases ho : K7 P call fn.ntmps b (setF u0 p (setF t p (K2 args 0))) h with
     | nx f2 h2' => intro e; exact fin (.inl ho) e
     | rt f2 h2' => intro e; exact fin (.inr ho) e
     | ex i f2 h2' => intro e; have e : Res.no 55 = r := e; subst e; exact hr.elim
     | pn v f2 h2' => intro e; have e : Res.no 55 = r := e; subst e; exact hr.elim
     | no m => intro e; have e : Res.no m = r := e; subst e; exact hr.elim
    ·subst e; exact hr.elim
theorem Jbw {fn : Func} {c : Code} {k : FuncId} {cs : Array Value} {w : World} (hf : P.funcs[k]? = some fn) (hname : (fn.name == "runtime.NumGoroutine") = false) (hb : fn.body = some c) : (invoke (.fn (.func k) cs) #[]).run P w = .ok (.enter k cs) w := by
 have h1 : fn.name ≠ "runtime.NumGoroutine" := by simpa using hname
 simp [invoke, callFunc, hf, h1, hb]
theorem Jsj (hc : CallS P call) (hm : P.follows .mixedOrders = true) {fn : Func} (hn : fn.ntmps ≤ 4096) {t : Tmp} {k : FuncId} {caps : List Operand} {b : Code} {f : Fr} {h : Hp} {r : Res} (e : xh P call fn.ntmps t k caps b fn.results.toList f h = r) (hr : okR r)
  {id : Nat} {ts : Array TypeId} {cp : Array Operand} {y1 y2 : TypeId} {p1 p2 : String} {a1 a2 : Array Edge} (hcp : cp.toList = caps) :
  Gw h (hpR r h) ∧ ∀ (Φ : Phi) (τ : Tau) (a : Act) (w : World), Wf.Good fn.ntmps [] a → FR Φ f (frOf a) → Rel Φ τ h w → Fre Φ h.n (hpR r h).n →
   (Code.seq (.region id #[⟨some t, .makeFunc (.func k) #[] cp, y1, p1, a1, none⟩, ⟨none, .defer ⟨.value (.tmp t), #[], ts⟩, y2, p2, a2, none⟩] false) b).wp P (bodyPostD P fn (RetE Φ τ h w r)) a w := by
 subst hcp
 unfold xh at e
 rw [za] at e
 split at e
 ·rename_i htn
  have htn : t < fn.ntmps := Yb htn
  have hS := Je9 (fc := Fence.wide) hc hn hm b (setF t (.fn k (opds f cp.toList)) f) h
  have main : ∀ {out : Out} {p : AV} {f1 : Fr} {h1 : Hp}, K7 P call fn.ntmps b (setF t (.fn k (opds f cp.toList)) f) h = out → okO out → hpO out h = h1 → Jgy P call k (opds f cp.toList) p h1 (fun h => finR P f1 h fn.results.toList) = r →
    (∀ (Φ : Phi) (τ : Tau) (h : Hp) (w : World) (ex : Exit) (F1 : Wf.Fr) (w1 : World), OutQ Φ τ h w out ex F1 w1 → ∃ u Φ1 τ1, ((ex = .normal ∧ u = .returning) ∨ (ex = .ret ∧ u = .returning) ∨ ∃ ch, ex = .panic ch ∧ u = .panicking ch) ∧ Mode Φ1 p u ∧ FR Φ1 f1 F1 ∧ Rel Φ1 τ1 h1 w1 ∧ Tw Φ τ h w Φ1 τ1 h1.n w1) →
    Gw h (hpR r h) ∧ ∀ (Φ : Phi) (τ : Tau) (a : Act) (w : World), Wf.Good fn.ntmps [] a → FR Φ f (frOf a) → Rel Φ τ h w → Fre Φ h.n (hpR r h).n →
     (Code.seq (.region id #[⟨some t, .makeFunc (.func k) #[] cp, y1, p1, a1, none⟩, ⟨none, .defer ⟨.value (.tmp t), #[], ts⟩, y2, p2, a2, none⟩] false) b).wp P (bodyPostD P fn (RetE Φ τ h w r)) a w := by
   intro out p f1 h1 ho hok hh1 he hout
   obtain ⟨g1, s1⟩ := hS (by rw [ho]; exact hok)
   rw [ho, hh1] at g1 s1
   obtain ⟨fn', c', h2, hf', hname', hb', hq, g2, s2⟩ := def_s hc hm he hr
   obtain ⟨v, rfl, fr⟩ := Jjc hq hr
   refine ⟨g1.trans g2, fun Φ τ a w ha hF hR hFr => ?_⟩
   have k1 : Grow h h1 := g1 hR.lim
   have k2 : Grow h1 h2 := g2 (k1.lim hR.lim)
   have hFr : Fre Φ h.n h2.n := hFr
   have hcaps := Kz hF cp.toList
   generalize hcv : (cp.toList.map (fe (frOf a))) = cvs at hcaps
   have hce : cp.map a.eval = cvs.toArray := by apply Array.ext'; rw [yz, ← hcv]; simp
   refine wp_seq (wp_region ?_)
   have hrange : List.range (#[(⟨some t, .makeFunc (.func k) #[] cp, y1, p1, a1, none⟩ : Oper), ⟨none, .defer ⟨.value (.tmp t), #[], ts⟩, y2, p2, a2, none⟩]).size = [0, 1] := rfl
   rw [hrange]
   have hop0 : (#[(⟨some t, .makeFunc (.func k) #[] cp, y1, p1, a1, none⟩ : Oper), ⟨none, .defer ⟨.value (.tmp t), #[], ts⟩, y2, p2, a2, none⟩])[0]? = some ⟨some t, .makeFunc (.func k) #[] cp, y1, p1, a1, none⟩ := rfl
   have hop1 : (#[(⟨some t, .makeFunc (.func k) #[] cp, y1, p1, a1, none⟩ : Oper), ⟨none, .defer ⟨.value (.tmp t), #[], ts⟩, y2, p2, a2, none⟩])[1]? = some ⟨none, .defer ⟨.value (.tmp t), #[], ts⟩, y2, p2, a2, none⟩ := rfl
   have hw0 : ∀ (z : Nat → Option Bool), Region.wanted (⟨some t, .makeFunc (.func k) #[] cp, y1, p1, a1, none⟩ : Oper) z = true := fun z => rfl
   have hw1 : ∀ (z : Nat → Option Bool), Region.wanted (⟨none, .defer ⟨.value (.tmp t), #[], ts⟩, y2, p2, a2, none⟩ : Oper) z = true := fun z => rfl
   simp only [wpOps, hop0, hop1, hw0, hw1, if_true]
   left
   unfold Oper.wp
   have r0 : (execOp a.eval ⟨some t, .makeFunc (.func k) #[] cp, y1, p1, a1, none⟩).run P w = .ok (.value (.func (.func k) #[] cvs.toArray)) w := by
    simp [execOp, Instr.makeFunc, hce]
   rw [r0]
   show (_ : Prop) ∨ _
   left
   have hev : (a.put (some t) (.func (.func k) #[] cvs.toArray)).eval (.tmp t) = .func (.func k) #[] cvs.toArray := by
    rw [yz, Yl ha (some t) (show lo fn.ntmps (some t) from htn)]
    show upd (frOf a) t _ t = _
    simp [upd]
   have r1 : (execOp (a.put (some t) (.func (.func k) #[] cvs.toArray)).eval ⟨none, .defer ⟨.value (.tmp t), #[], ts⟩, y2, p2, a2, none⟩).run P w = .ok (.defer ⟨.fn (.func k) cvs.toArray, #[]⟩) w := by
    simp [execOp, resolve, Deferred.ofValue, hev]
   rw [r1]
   show (b.wp P _ _ w)
   have ga : Wf.Good fn.ntmps [⟨.fn (.func k) cvs.toArray, #[]⟩] (({ (a.put (some t) (.func (.func k) #[] cvs.toArray)) with defers := (⟨.fn (.func k) cvs.toArray, #[]⟩ : Deferred) :: (a.put (some t) (.func (.func k) #[] cvs.toArray)).defers } : Act).put none undef) := by
    have := ha.put (some t) (.func (.func k) #[] cvs.toArray)
    exact ⟨this.size, by show _ :: (a.put (some t) _).defers = _; rw [this.defers]⟩
   have gf : frOf (({ (a.put (some t) (.func (.func k) #[] cvs.toArray)) with defers := (⟨.fn (.func k) cvs.toArray, #[]⟩ : Deferred) :: (a.put (some t) (.func (.func k) #[] cvs.toArray)).defers } : Act).put none undef) = upd (frOf a) t (.func (.func k) #[] cvs.toArray) := by
    have := Yl ha (some t) (show lo fn.ntmps (some t) from htn) (.func (.func k) #[] cvs.toArray)
    exact this
   have hF1 : FR Φ (setF t (.fn k (opds f cp.toList)) f) (upd (frOf a) t (.func (.func k) #[] cvs.toArray)) := hF.set (Nat.lt_of_lt_of_le htn hn) (by simp only [Rv]; exact ⟨cvs, rfl, hcaps⟩)
   refine wp_mono ((s1 Φ τ _ w [⟨.fn (.func k) cvs.toArray, #[]⟩] hF1 hR (fun id x1 x2 => hFr id x1 (Nat.lt_of_lt_of_le x2 k2.le))).wide ga gf) ?_
   rintro ex a' w1 ⟨gg, qq⟩
   obtain ⟨u, Φ1, τ1, hex, hmode, hFR1, hR1, t1⟩ := hout Φ τ h w ex (frOf a') w1 qq
   have hune : u ≠ .run := by
    rcases hmode with ⟨_, rfl⟩ | ⟨x, rfl, _⟩ <;> intro hq <;> cases hq
   have leaves : Leaves P fn a'.tmps (RetE Φ τ h w (.ok v h2)) a'.defers u w1 := by
    rw [gg.defers]
    refine leaves_cons hune (Jbw hf' hname' hb') ((s2 Φ1 τ1 w1 cvs u hmode hR1 ?_ (RvL.mono t1.sub _ _ hcaps)).mono ?_)
    ·intro id x1 x2
     rw [t1.same id (fun hh => by have : id < h1.n := hh.2; omega)]
     exact hFr id (Nat.le_trans k1.le x1) x2
    ·rintro en u' w2 ⟨⟨y, rfl⟩, hset, Φ2, τ2, hR2, t2⟩
     show Leaves P fn a'.tmps _ [] (settle u') w2
     rw [hset]
     obtain ⟨x, hx, hrun⟩ := fr Φ2 τ2 (frOf a') w2 (hFR1.mono t2.sub) hR2
     exact ⟨x, hrun a'.tmps (fun _ => rfl), v, h2, rfl, Φ2, τ2, hx, hR2, t1.trans k1 k2.le (k1.lim hR.lim) t2⟩
   rcases hex with ⟨rfl, rfl⟩ | ⟨rfl, rfl⟩ | ⟨ch, rfl, rfl⟩
   ·exact leaves
   ·exact leaves
   ·exact leaves
  cases ho : K7 P call fn.ntmps b (setF t (.fn k (opds f cp.toList)) f) h with
  | nx f1 h1 =>
   rw [ho] at e
   refine main (p := .nif) (f1 := f1) ho trivial rfl e ?_
   intro Φ τ h w ex F1 w1 q
   cases ex with
   | normal => obtain ⟨Φ1, τ1, x1, x2, x3⟩ := q; exact ⟨.returning, Φ1, τ1, .inl ⟨rfl, rfl⟩, .inl ⟨rfl, rfl⟩, x1, x2, x3⟩
   | _ => exact q.elim
  | rt f1 h1 =>
   rw [ho] at e
   refine main (p := .nif) (f1 := f1) ho trivial rfl e ?_
   intro Φ τ h w ex F1 w1 q
   cases ex with
   | ret => obtain ⟨Φ1, τ1, x1, x2, x3⟩ := q; exact ⟨.returning, Φ1, τ1, .inr (.inl ⟨rfl, rfl⟩), .inl ⟨rfl, rfl⟩, x1, x2, x3⟩
   | _ => exact q.elim
  | pn v f1 h1 =>
   rw [ho] at e
   refine main (p := v) (f1 := f1) ho trivial rfl e ?_
   intro Φ τ h w ex F1 w1 q
   cases ex with
   | panic ch => obtain ⟨x, Φ1, τ1, rfl, d2, x1, x2, x3⟩ := q; exact ⟨_, Φ1, τ1, .inr (.inr ⟨_, rfl, rfl⟩), .inr ⟨x, rfl, d2⟩, x1, x2, x3⟩
   | _ => exact q.elim
  | ex i f1 h1 => rw [ho] at e; have e : Res.no 53 = r := e; subst e; exact hr.elim
  | no m => rw [ho] at e; have e : Res.no m = r := e; subst e; exact hr.elim
 ·subst e; exact hr.elim
theorem LR.turn {Φ : Phi} {τ : Tau} {h : Hp} {w : World} {id : Nat} {b : Blk} {en : Ent} {l : Loop} (hR : Rel Φ τ h w) (hid : id < h.n) (hb : get5 id h.t = some b) (L : LR Φ τ w b en id l) {busy busy' : Bool} {n : Nat} {ps : List Tmp} {a bb : Code} {f : TF AV}
  (hob : b.ob = .lp busy n ps a bb f) : Rel Φ τ (putB h id (some (lpB busy' n ps a bb f))) (je w en.g (.loop { l with state := if busy' then .busy else .ready, pending := none })) ∧
   Tw Φ τ h w Φ τ h.n (je w en.g (.loop { l with state := if busy' then .busy else .ready, pending := none })) := by
 have hlt := (Array.getElem?_eq_some_iff.1 L.obj).1
 refine hR.turn (en := en) hid hb L.lab rfl rfl rfl kf (fun g hg => z7 hg) (.inr (.inr (.inr ⟨en, { l with state := if busy' then .busy else .ready, pending := none }, L.ent, L.lab, rfl, Jfh hlt, ?_⟩)))
 obtain ⟨y0, y1, y2, y3, y4, y5, h1, h2, h3, h4, h5, h6, h7, h8, h9⟩ := L.ob
 rw [hob] at h1
 cases h1
 exact ⟨busy', n, ps, a, bb, f, rfl, rfl, rfl, h4, h5, h6, h7, h8, h9⟩
theorem Jpo (hc : CallS P call) (hm : P.follows .mixedOrders = true) {id : Nat} {args : List AV} {h : Hp} {r : Res} (e : Jjf P call id args h = r) (hr : okR r) : ∃ v h', r = .ok v h' ∧ (h.n ≤ big5 → Grow h h') ∧
  ∀ Φ τ w vs en, Rel Φ τ h w → Fre Φ h.n h'.n → RvL Φ args vs → Φ id = some en → ∃ l g tmps as0 bo, (Instr.yield en.g vs.toArray).run P w = .ok (.round l g tmps as0 bo) w ∧
   RoundIn Fence.wide 0 P l g tmps as0 bo w fun e w' => ∃ x, e = .returned x ∧ ∃ Φ' τ', Rv Φ' v x ∧ Rel Φ' τ' h' w' ∧ Tw Φ τ h w Φ' τ' h'.n w' := by have e : Res.no 99 = r := e; subst e; exact hr.elim
theorem fun_s (hc : CallS P call) (hm : P.follows .mixedOrders = true) {k : FuncId} {args : List AV} {h : Hp} {r : Res} (e : Jmy P call k args h = r) (hr : okR r) :
  (∃ fn, P.funcs[k]? = some fn ∧ (fn.name == "runtime.NumGoroutine") = false ∧ fn.body.isNone = false) ∧ (h.n ≤ big5 → Grow h (hpR r h)) ∧
  ∀ Φ τ w vs, Rel Φ τ h w → Fre Φ h.n (hpR r h).n → RvL Φ args vs → Calls P k vs.toArray w (RetE Φ τ h w r) := by
 unfold Jmy at e
 split at e
 ·subst e; exact hr.elim
 ·rename_i fn hf
  split at e
  ·subst e; exact hr.elim
  ·rename_i c hb
   rw [za] at e
   split at e
   ·rename_i hcd
    obtain ⟨hcd, h3⟩ := Zj hcd
    obtain ⟨h1, h2⟩ := Zj hcd
    have h1 := Nat.le_of_ble_eq_true h1
    have h2 := Nat.le_of_ble_eq_true h2
    have h3 := Jg3 h3
    rw [X2] at h2
    unfold Joe at e
    split at e
    ·split at e
     ·obtain ⟨g, s⟩ := Jwj hc hm h1 e hr
      refine ⟨⟨fn, hf, h3, by rw [hb]; rfl⟩, g, fun Φ τ w vs hR hFr hv => ?_⟩
      exact Calls.ofW hf hb rfl (by rw [hv.len]; exact h2) (s Φ τ _ w (Jar hv (by omega)) hR hFr)
     ·rename_i s hs
      have hs : (none : Option (List Code × (Code × Nat × Operand × List Tmp × Code × Code) × Code)) = some s := hs
      cases hs
    ·rename_i s hs
     obtain ⟨a, t, k', caps, b⟩ := s
     obtain ⟨id, ts, cp, y1, y2, p1, p2, a1, a2, hcp, rfl⟩ := Jlf hs
     have hS := Je9 (fc := Fence.wide) hc h1 hm a (K2 args 0) h
     revert e
     cases ho : K7 P call fn.ntmps a (K2 args 0) h with
     | nx f1 h1' =>
      intro e
      have e : xh P call fn.ntmps t k' caps b fn.results.toList f1 h1' = r := e
      obtain ⟨g1, s1⟩ := hS (by rw [ho]; trivial)
      rw [ho] at g1 s1
      have g1 : Gw h h1' := g1
      obtain ⟨g2, s2⟩ := Jsj hc hm h1 e hr (id := id) (ts := ts) (y1 := y1) (y2 := y2) (p1 := p1) (p2 := p2) (a1 := a1) (a2 := a2) hcp
      have hh : hpR r h1' = hpR r h := by cases r <;> first | rfl | exact hr.elim
      rw [hh] at g2 s2
      refine ⟨⟨fn, hf, h3, by rw [hb]; rfl⟩, g1.trans g2, fun Φ τ w vs hR hFr hv => ?_⟩
      have k1 : Grow h h1' := g1 hR.lim
      have k2 := g2 (k1.lim hR.lim)
      obtain ⟨hgood, hfr⟩ := Jvp (n := fn.ntmps) (vs := vs) (by rw [hv.len]; exact h2)
      refine calls_of_wp_defers hf hb (wp_seq (wp_mono ((s1 Φ τ _ w [] (Jar hv (by omega)) hR (fun id x1 x2 => hFr id x1 (Nat.lt_of_lt_of_le x2 k2.le))).wide hgood hfr) ?_))
      rintro ex a' w1 ⟨gg, qq⟩
      cases ex with
      | normal =>
       obtain ⟨Φ1, τ1, x1, x2, x3⟩ := qq
       refine wp_mono (s2 Φ1 τ1 a' w1 gg x1 x2 ?_) ?_
       ·intro id q1 q2
        rw [x3.same id (fun hh => by have : id < h1'.n := hh.2; omega)]
        exact hFr id (Nat.le_trans k1.le q1) q2
       ·have conv : ∀ en w2, RetE Φ1 τ1 h1' w1 r en w2 → RetE Φ τ h w r en w2 := by
         intro en w2 hq
         cases en with
         | returned y =>
          obtain ⟨v, h2', rfl, Φ2, τ2, z1, z2, z3⟩ := hq
          exact ⟨v, h2', rfl, Φ2, τ2, z1, z2, x3.trans k1 k2.le (k1.lim hR.lim) z3⟩
         | panicked ch =>
          obtain ⟨v, h2', rfl, x, Φ2, τ2, z0, z1, z2, z3⟩ := hq
          exact ⟨v, h2', rfl, x, Φ2, τ2, z0, z1, z2, x3.trans k1 k2.le (k1.lim hR.lim) z3⟩
         | outgrown => exact hq
        have lmono : ∀ (tm : Array Value) (ds : List Deferred) (u : FrameMode) (w2 : World), Leaves P fn tm (RetE Φ1 τ1 h1' w1 r) ds u w2 → Leaves P fn tm (RetE Φ τ h w r) ds u w2 := by
         intro tm ds
         induction ds with
         | nil =>
          intro u w2 hL
          cases u with
          | run => exact hL
          | returning => obtain ⟨v, q1, q2⟩ := hL; exact ⟨v, q1, conv _ _ q2⟩
          | panicking ch => exact conv _ _ hL
         | cons d ds ih =>
          intro u w2 hL
          obtain ⟨q0, fv, cap, ff, aa, q1, q2, q3⟩ := hL
          refine ⟨q0, fv, cap, ff, aa, q1, q2, q3.mono ?_⟩
          intro en u' w3 hq
          cases en with
          | returned y => exact ih _ _ hq
          | panicked ch => exact ih _ _ hq
          | outgrown => exact conv .outgrown w2 hq
        intro ex a2 w2 hq
        cases ex with
        | normal => exact lmono _ _ _ _ hq
        | ret => exact lmono _ _ _ _ hq
        | panic ch => exact lmono _ _ _ _ hq
        | exit i => exact hq
        | goto l => exact hq
        | outgrown => exact conv .outgrown w2 hq
      | _ => exact qq.elim
     | rt f1 h1' => intro e; have e : Res.no 53 = r := e; subst e; exact hr.elim
     | ex i f1 h1' => intro e; have e : Res.no 53 = r := e; subst e; exact hr.elim
     | pn v f1 h1' => intro e; have e : Res.no 53 = r := e; subst e; exact hr.elim
     | no m => intro e; have e : Res.no m = r := e; subst e; exact hr.elim
   ·subst e; exact hr.elim
def Jm4 (P : Program) (pr : Prim) : Prop := ∀ k p, pr k = some p → ∀ args h r, p args h = r → okR r →
 (∃ fn, P.funcs[k]? = some fn ∧ (fn.name == "runtime.NumGoroutine") = false ∧ fn.body.isNone = false) ∧ (h.n ≤ big5 → Grow h (hpR r h)) ∧
 ∀ Φ τ w vs, Rel Φ τ h w → Fre Φ h.n (hpR r h).n → RvL Φ args vs → Calls P k vs.toArray w (RetE Φ τ h w r)
def ExS (P : Program) (ex : FuncId → Nat) : Prop := ∀ k, ex k ≠ 0 → ExK P k (ex k)
theorem Jur {pr : Prim} {ex : FuncId → Nat} (hx : ExS P ex) (hp : Jm4 P pr) (hm : P.follows .mixedOrders = true) : ∀ m, CallS P (xw P pr ex m) := by
 intro m
 induction m with
 | zero => exact ⟨hx, fun k args h r e hr => by have e : Res.no 54 = r := e; subst e; exact hr.elim, fun k args h r e hr => by have e : Res.no 54 = r := e; subst e; exact hr.elim⟩
 | succ m ih =>
  refine ⟨hx, fun k args h r e hr => ?_, fun id args h r e hr => Jpo ih hm e hr⟩
  have e0 : (xw P pr ex (m + 1)).run k args h = Option.rec (Jmy P (xw P pr ex m) k args h) (fun p => p args h) (pr k) := rfl
  rw [e0] at e
  cases hk : pr k with
  | none => rw [hk] at e; exact fun_s ih hm e hr
  | some p => rw [hk] at e; exact hp k p hk args h r e hr
def tt (r : Res) : Bool := match r with
 | .ok (.b true) _ => true
 | _ => false
theorem Jwd : Jm4 P fun _ => none := fun _ _ h => by cases h
end
end Go.Ev
namespace Go.Ev
set_option linter.unusedVariables false
set_option linter.unusedSimpArgs false
open Go Go.Wf Go.RowKit
def blkG (cs : List AV) : Blk := ⟨0, false, true, cs, .glb⟩
noncomputable def tabs (l : List (Nat × List AV)) : T5 (Option Blk) := List.rec (Jll none) (fun p _ ih => set5 p.1 (some (blkG p.2)) ih) l
noncomputable def hpG (n : Nat) (l : List (Nat × List AV)) : Hp := ⟨tabs l, n⟩
def Jjs (w : World) (n : Nat) (l : List (Nat × List AV)) : Prop := ∀ p ∈ l, p.1 < n ∧ ∃ C T fr, w.heap[p.1]? = some (.cells C T fr) ∧ ∀ Φ, CR Φ C 0 p.2
theorem Jfv {l : List (Nat × List AV)} (hl : ∀ p ∈ l, p.1 < big5) {id : Nat} (hid : id < big5) : (∃ p ∈ l, p.1 = id ∧ get5 id (tabs l) = some (blkG p.2)) ∨ (∀ p ∈ l, p.1 ≠ id) ∧ get5 id (tabs l) = none := by
 induction l with
 | nil => exact .inr ⟨fun _ h => (by cases h), Jkp id none⟩
 | cons p l ih =>
  have e : tabs (p :: l) = set5 p.1 (some (blkG p.2)) (tabs l) := rfl
  rw [e, Zk _ _ _ _ hid (hl p (by simp))]
  by_cases h : id = p.1
  ·rw [if_pos h]; exact .inl ⟨p, by simp, h.symm, rfl⟩
  ·rw [if_neg h]
   rcases ih (fun q hq => hl q (by simp [hq])) with ⟨q, h1, h2, h3⟩ | ⟨h1, h2⟩
   ·exact .inl ⟨q, by simp [h1], h2, h3⟩
   ·refine .inr ⟨?_, h2⟩
    intro q hq
    rcases List.mem_cons.1 hq with rfl | hq
    ·exact fun e => h e.symm
    ·exact h1 q hq
def PhiG (l : List (Nat × List AV)) : Phi := fun id => if id ∈ l.map (·.1) then some ⟨id, 0, 0⟩ else none
def TauG (l : List (Nat × List AV)) : Tau := fun g => if g ∈ l.map (·.1) then .ro else .out
theorem relG {w : World} {n : Nat} {l : List (Nat × List AV)} (hn : n ≤ big5) (h : Jjs w n l) : Rel (PhiG l) (TauG l) (hpG n l) w := by
 have hl : ∀ p ∈ l, p.1 < big5 := fun p hp => Nat.lt_of_lt_of_le (h p hp).1 hn
 refine ⟨hn, ?_, ?_⟩
 ·intro id b hid hb
  have hb : get5 id (tabs l) = some b := hb
  have hid : id < n := hid
  rcases Jfv hl (Nat.lt_of_lt_of_le hid hn) with ⟨p, h1, rfl, h3⟩ | ⟨_, h2⟩
  ·rw [h3] at hb
   cases hb
   obtain ⟨_, C, T, fr, h4, h5⟩ := h p h1
   have hm : p.1 ∈ l.map (·.1) := List.mem_map_of_mem h1
   exact .inr (.inr (.inl ⟨⟨p.1, 0, 0⟩, C, ⟨if_pos hm, rfl, if_pos hm, rfl, rfl, ⟨T, fr, h4⟩, h5 _⟩⟩))
  ·rw [h2] at hb; cases hb
 ·intro id h1 h2
  rcases Jfv hl h2 with ⟨p, h3, rfl, _⟩ | ⟨_, h3⟩
  ·exact absurd (h p h3).1 (Nat.not_lt.2 h1)
  ·exact h3
section
variable {P : Program}
theorem Jsv {pr : Prim} {ex : FuncId → Nat} (hx : ExS P ex) (hp : Jm4 P pr) (hm : P.follows .mixedOrders = true) {m k n : Nat} {l : List (Nat × List AV)} {args : List AV} {v : AV} {h' : Hp} (e : Jkd P pr ex m k args (hpG n l) = .ok v h')
  (w : World) (hn : n ≤ big5) (hw : Jjs w n l) (vs : List Value) (hv : ∀ Φ, RvL Φ args vs) : Calls P k vs.toArray w fun en w' => (∃ x Φ, en = .returned x ∧ Rv Φ v x) ∧ Below w.heap.size w w' := by
 obtain ⟨_, _, s⟩ := (Jur hx hp hm m).run k args (hpG n l) _ e trivial
 have := s (PhiG l) (TauG l) w vs (relG hn hw) (fun id h1 _ => if_neg (fun hh => by
  obtain ⟨p, hp, rfl⟩ := List.mem_map.1 hh
  exact absurd (hw p hp).1 (Nat.not_lt.2 h1))) (hv _)
 refine this.mono ?_
 intro en w' hh
 cases en with
 | returned x =>
  obtain ⟨v2, h2, e9, Φ', τ', hv, _, t⟩ := hh
  cases e9
  refine ⟨⟨x, Φ', rfl, hv⟩, ⟨t.os, t.tape, t.output, t.size, fun g hg => (t.keep g hg fun id e => ?_).1⟩⟩
  have e : TauG l g = .own id := e
  unfold TauG at e
  split at e <;> cases e
 | panicked ch => obtain ⟨v2, h2, e9, _⟩ := hh; cases e9
 | outgrown => exact hh.elim
theorem Ja0 {pr : Prim} {ex : FuncId → Nat} (hx : ExS P ex) (hp : Jm4 P pr) (hm : P.follows .mixedOrders = true) {m k n : Nat} {l : List (Nat × List AV)} (e : tt (Jkd P pr ex m k [] (hpG n l)) = true) (hn : n ≤ big5) (w : World) (hw : Jjs w n l) :
  Calls P k #[] w fun en w' => en = .returned (.bool true) ∧ Below w.heap.size w w' := by
 unfold tt at e
 split at e
 ·rename_i h' he
  refine (Jsv hx hp hm he w hn hw [] (fun _ => by simp only [RvL])).mono ?_
  rintro en w' ⟨⟨x, Φ, rfl, hv⟩, hb⟩
  rw [hv.bI]
  exact ⟨rfl, hb⟩
 ·cases e
end
end Go.Ev
namespace Go.Proofs.YtjiojpmoleilgaaGreatDoor
set_option linter.unusedVariables false
set_option linter.unusedSimpArgs false
open Go Go.Ev Go.Wf
set_option maxRecDepth 100000
def ex52 (k : Nat) : Nat := bif Nat.beq k 237 then 1 else bif Nat.beq k 238 then 2 else 0
theorem Jid : tt (Jkd Tryz.prog (fun _ => none) ex52 200 9 [] (hpG 7 [])) = true := by kernel_rfl
theorem ord52 : Tryz.prog.follows .mixedOrders = true := by kernel_rfl
theorem exS52 : ExS Tryz.prog ex52 := by
 intro k hk
 unfold ex52 at hk
 cases h : Nat.beq k 237 with
 | true =>
  obtain rfl := Nat.eq_of_beq_eq_true h
  exact ⟨_, _, Tryz.func237, by rfl, by rfl, by rfl, by rfl, .inl ⟨rfl, rfl⟩⟩
 | false =>
  rw [h] at hk
  cases h2 : Nat.beq k 238 with
  | true =>
   obtain rfl := Nat.eq_of_beq_eq_true h2
   exact ⟨_, _, Tryz.func238, by rfl, by rfl, by rfl, by rfl, .inr ⟨rfl, rfl, _, rfl⟩⟩
  | false => rw [h2] at hk; exact absurd rfl hk
theorem Kr {w : World} : Calls Tryz.prog 9 #[] w (Ret w fun v _ => v = .bool true) := by
 refine (Ja0 exS52 Jwd ord52 Jid (by decide) w (fun _ h => by cases h)).mono ?_
 rintro en w' ⟨rfl, hb⟩
 exact ⟨rfl, hb⟩
end Go.Proofs.YtjiojpmoleilgaaGreatDoor
namespace Go.Wf
open Go Go.Proofs Go.RowKit Go.Proofs.YtjiojpmoleilgaaGreatDoor
set_option maxRecDepth 100000
set_option linter.unusedVariables false
set_option linter.unusedSimpArgs false
set_option maxHeartbeats 4000000 in
theorem Jc0 {X : Nat → Prop} {w : World} (hX : ∀ b, X b → b < w.heap.size) {v0 : Value} {a : GExpr} (r0 : RV J0 X w v0 a) {v1 : Value} {b : GExpr} (r1 : RV J0 X w v1 b) {v2 : Value} {c : GExpr} (r2 : RV J0 X w v2 c)  : Calls Tryz.prog 6 #[v0, v1, v2] w (Ret w fun v w' => v = (.bool true)) := by
 obtain ⟨a1, c2, a3, c4, a5, c6, a7, c8, rfl, h9⟩ := RV.expr r0
 have h10 := h9.n
 have h11 := h9.num
 have h12 := h9.den
 have h13 := h9.args
 obtain ⟨a14, c15, a16, c17, a18, c19, a20, c21, rfl, h22⟩ := RV.expr r1
 have h23 := h22.n
 have h24 := h22.num
 have h25 := h22.den
 have h26 := h22.args
 obtain ⟨a27, c28, a29, c30, a31, c32, a33, c34, rfl, h35⟩ := RV.expr r2
 have h36 := h35.n
 have h37 := h35.num
 have h38 := h35.den
 have h39 := h35.args
 have C := Cx.start hX
 refine Calls.ofW (args := [(.agg #[(.int .i64 a.op), (.slice a1 a.n.length c2), (.bool a.c.num.neg), (.slice a3 a.c.num.mag.length c4), (.bool a.c.den.neg), (.slice a5 a.c.den.mag.length c6), (str a.name), (.slice a7 a.args.length c8)]), (.agg #[(.int .i64 b.op), (.slice a14 b.n.length c15), (.bool b.c.num.neg), (.slice a16 b.c.num.mag.length c17), (.bool b.c.den.neg), (.slice a18 b.c.den.mag.length c19), (str b.name), (.slice a20 b.args.length c21)]), (.agg #[(.int .i64 c.op), (.slice a27 c.n.length c28), (.bool c.c.num.neg), (.slice a29 c.c.num.mag.length c30), (.bool c.c.den.neg), (.slice a31 c.c.den.mag.length c32), (str c.name), (.slice a33 c.args.length c34)])]) Tryz.func6 rfl rfl (Nat.le_of_ble_eq_true rfl) ?_
 refine Rg (O rfl (St.boxC C rfl ?_))
 intro g40 w41 x42 y43 lt44 C45 s46 o47
 replace h10 := h10.sp s46
 replace h11 := h11.sp s46
 replace h12 := h12.sp s46
 replace h13 := h13.sp s46
 replace h36 := h36.sp s46
 replace h37 := h37.sp s46
 replace h38 := h38.sp s46
 replace h39 := h39.sp s46
 refine O rfl (St.boxC C45 rfl ?_)
 intro g48 w49 x50 y51 lt52 C53 s54 o55
 replace h23 := (h23.sp s46).sp s54
 replace h24 := (h24.sp s46).sp s54
 replace h25 := (h25.sp s46).sp s54
 replace h26 := (h26.sp s46).sp s54
 refine O rfl (St.boxC C53 rfl ?_)
 intro g57 w58 x59 y60 lt61 C62 s63 o64
 replace h10 := (h10.sp s54).sp s63
 replace h11 := (h11.sp s54).sp s63
 replace h12 := (h12.sp s54).sp s63
 replace h13 := (h13.sp s54).sp s63
 replace h36 := (h36.sp s54).sp s63
 replace h37 := (h37.sp s54).sp s63
 replace h38 := (h38.sp s54).sp s63
 replace h39 := (h39.sp s54).sp s63
 replace o47 := (o47.spn s54).spn s63
 refine Oa (Nl (Rh (O rfl (St.loadOA (vs := [(.int .i64 a.op), (.slice a1 a.n.length c2), (.bool a.c.num.neg), (.slice a3 a.c.num.mag.length c4), (.bool a.c.den.neg), (.slice a5 a.c.den.mag.length c6), (str a.name), (.slice a7 a.args.length c8)]) o47 ag31 rfl rfl rfl (O rfl (St.bool (St.callR C62 cb13 rfl rfl (Jdc C62.bd (Js a h9.lo h9.hi h9.name h10 h11 h12 h13)) ?_)))))))
 intro v67 w68 C69 s70 h71
 replace h23 := (h23.sp s63).sp s70
 replace h24 := (h24.sp s63).sp s70
 replace h25 := (h25.sp s63).sp s70
 replace h26 := (h26.sp s63).sp s70
 replace o55 := (o55.spn s63).spn s70
 obtain ⟨b73, e74, hp75⟩ := h71
 refine ⟨b73, e74, fun hb72 => ?_, fun hb72 => ?_⟩
 ·replace hp75 := hp75 hb72
  refine O rfl (St.not rfl (Om (Og rfl rfl (St.loadOA (vs := [(.int .i64 b.op), (.slice a14 b.n.length c15), (.bool b.c.num.neg), (.slice a16 b.c.num.mag.length c17), (.bool b.c.den.neg), (.slice a18 b.c.den.mag.length c19), (str b.name), (.slice a20 b.args.length c21)]) o55 ag31 rfl rfl rfl (Og rfl rfl (St.bool (St.callR C69 cb13 rfl rfl (Jdc C69.bd (Js b h22.lo h22.hi h22.name h23 h24 h25 h26)) ?_)))))))
  intro v76 w77 C78 s79 h80
  replace h10 := (h10.sp s70).sp s79
  replace h11 := (h11.sp s70).sp s79
  replace h12 := (h12.sp s70).sp s79
  replace h13 := (h13.sp s70).sp s79
  replace h23 := h23.sp s79
  replace h24 := h24.sp s79
  replace h25 := h25.sp s79
  replace h26 := h26.sp s79
  replace h36 := (h36.sp s70).sp s79
  replace h37 := (h37.sp s70).sp s79
  replace h38 := (h38.sp s70).sp s79
  replace h39 := (h39.sp s70).sp s79
  replace o47 := (o47.spn s70).spn s79
  replace o55 := o55.spn s79
  replace o64 := (o64.spn s70).spn s79
  obtain ⟨b82, e83, hp84⟩ := h80
  refine ⟨b82, e83, fun hb81 => ?_, fun hb81 => ?_⟩
  ·replace hp84 := hp84 hb81
   refine Og rfl rfl (St.not rfl (OF (Om (Og rfl rfl (St.loadOA (vs := [(.int .i64 c.op), (.slice a27 c.n.length c28), (.bool c.c.num.neg), (.slice a29 c.c.num.mag.length c30), (.bool c.c.den.neg), (.slice a31 c.c.den.mag.length c32), (str c.name), (.slice a33 c.args.length c34)]) o64 ag31 rfl rfl rfl (Og rfl rfl (St.bool (St.callR C78 cb13 rfl rfl (Jdc C78.bd (Js c h35.lo h35.hi h35.name h36 h37 h38 h39)) ?_))))))))
   intro v85 w86 C87 s88 h89
   obtain ⟨b91, e92, hp93⟩ := h89
   refine ⟨b91, e92, fun hb90 => ?_, fun hb90 => ?_⟩
   ·replace hp93 := hp93 hb90
    refine Og rfl rfl (St.not rfl (OF (Nl (W.condF rfl (W.skip (W.seq (W.drawC Zc 5 [[], [], [0, 1], [], []] C87 [fx (.agg #[(.int .i64 a.op), (.slice a1 a.n.length c2), (.bool a.c.num.neg), (.slice a3 a.c.num.mag.length c4), (.bool a.c.den.neg), (.slice a5 a.c.den.mag.length c6), (str a.name), (.slice a7 a.args.length c8)]), fx (.agg #[(.int .i64 b.op), (.slice a14 b.n.length c15), (.bool b.c.num.neg), (.slice a16 b.c.num.mag.length c17), (.bool b.c.den.neg), (.slice a18 b.c.den.mag.length c19), (str b.name), (.slice a20 b.args.length c21)]), fx (.bool (decide (cmpE a b < 0))), fx (.agg #[(.int .i64 b.op), (.slice a14 b.n.length c15), (.bool b.c.num.neg), (.slice a16 b.c.num.mag.length c17), (.bool b.c.den.neg), (.slice a18 b.c.den.mag.length c19), (str b.name), (.slice a20 b.args.length c21)]), fx (.agg #[(.int .i64 a.op), (.slice a1 a.n.length c2), (.bool a.c.num.neg), (.slice a3 a.c.num.mag.length c4), (.bool a.c.den.neg), (.slice a5 a.c.den.mag.length c6), (str a.name), (.slice a7 a.args.length c8)])] (by kernel_rfl) ⟨sx, sx, sx, sx, sx, trivial⟩ fun f100 s101 w102 ⟨C105, S106⟩ k104 => ?_)))))))
    replace h10 := (h10.sp s88).sp S106
    replace h11 := (h11.sp s88).sp S106
    replace h12 := (h12.sp s88).sp S106
    replace h13 := (h13.sp s88).sp S106
    replace h23 := (h23.sp s88).sp S106
    replace h24 := (h24.sp s88).sp S106
    replace h25 := (h25.sp s88).sp S106
    replace h26 := (h26.sp s88).sp S106
    replace h36 := (h36.sp s88).sp S106
    replace h37 := (h37.sp s88).sp S106
    replace h38 := (h38.sp s88).sp S106
    replace h39 := (h39.sp s88).sp S106
    replace o47 := (o47.spn s88).spn S106
    replace o55 := (o55.spn s88).spn S106
    replace o64 := (o64.spn s88).spn S106
    have k104 : Keep [23, 24, 25, 26, 27] _ f100 := k104
    refine ⟨⟨fun _ => ?_, fun _ => ?_, fun ⟨e110, e111, _⟩ => ?_, fun _ => ?_, fun _ => ?_, trivial⟩, fun ⟨e112, e113, e114, e115, e116, _⟩ => ?_⟩
    ·exact Ja k104 aN fun _ => OpSt.op (St.loadOA (vs := [(.int .i64 a.op), (.slice a1 a.n.length c2), (.bool a.c.num.neg), (.slice a3 a.c.num.mag.length c4), (.bool a.c.den.neg), (.slice a5 a.c.den.mag.length c6), (str a.name), (.slice a7 a.args.length c8)]) o47 ag31 rfl rfl rfl ⟨s101, RC.same C105, rfl⟩)
    ·exact Ja k104 aN fun _ => OpSt.op (St.loadOA (vs := [(.int .i64 b.op), (.slice a14 b.n.length c15), (.bool b.c.num.neg), (.slice a16 b.c.num.mag.length c17), (.bool b.c.den.neg), (.slice a18 b.c.den.mag.length c19), (str b.name), (.slice a20 b.args.length c21)]) o55 ag31 rfl rfl rfl ⟨s101, RC.same C105, rfl⟩)
    ·refine Ja k104 (aC e110 (aC e111 aN)) fun _ => OpSt.op (St.callR C105 cb22 rfl rfl (Y9 C105.bd (Js a h9.lo h9.hi h9.name h10 h11 h12 h13) (Js b h22.lo h22.hi h22.name h23 h24 h25 h26) hp75 hp84) ?_)
     intro v117 w118 C119 s120 h121
     exact ⟨s101, ⟨C119, s120⟩, h121⟩
    ·exact Ja k104 aN fun _ => OpSt.op (St.loadOA (vs := [(.int .i64 b.op), (.slice a14 b.n.length c15), (.bool b.c.num.neg), (.slice a16 b.c.num.mag.length c17), (.bool b.c.den.neg), (.slice a18 b.c.den.mag.length c19), (str b.name), (.slice a20 b.args.length c21)]) o55 ag31 rfl rfl rfl ⟨s101, RC.same C105, rfl⟩)
    ·exact Ja k104 aN fun _ => OpSt.op (St.loadOA (vs := [(.int .i64 a.op), (.slice a1 a.n.length c2), (.bool a.c.num.neg), (.slice a3 a.c.num.mag.length c4), (.bool a.c.den.neg), (.slice a5 a.c.den.mag.length c6), (str a.name), (.slice a7 a.args.length c8)]) o47 ag31 rfl rfl rfl ⟨s101, RC.same C105, rfl⟩)
    obtain ⟨f122, rfl⟩ := mixK k104 (aC e112 (aC e113 (aC e114 (aC e115 (aC e116 aN)))))
    refine O rfl (St.bool (St.callR C105 cb22 rfl rfl (Y9 C105.bd (Js b h22.lo h22.hi h22.name h23 h24 h25 h26) (Js a h9.lo h9.hi h9.name h10 h11 h12 h13) hp84 hp75) ?_))
    intro v123 w124 C125 s126 h127
    replace h10 := h10.sp s126
    replace h11 := h11.sp s126
    replace h12 := h12.sp s126
    replace h13 := h13.sp s126
    replace o47 := o47.spn s126
    refine ⟨_, h127, fun hb128 => ?_, fun hb128 => ?_⟩
    ·refine O rfl (St.bool (St.assign ⟨_, rfl, fun hb129 => ?_, fun hb129 => ?_⟩))
     ·refine Oa (Nl (Rh (Om (Om (Og rfl rfl (St.move (OT (Om (Ox rfl rfl rfl (Ox rfl rfl rfl (Ox rfl rfl rfl (OT (Om (Ox rfl rfl rfl (Ox rfl rfl rfl (Ox rfl rfl rfl (Oy rfl rfl (Oy rfl rfl (Ox rfl rfl rfl (Ox rfl rfl rfl ?_))))))))))))))))))))
      exact Ox rfl rfl rfl (Ox rfl rfl rfl (Ox rfl rfl rfl (Ox rfl rfl rfl (OT (Nl (W.condT rfl (Rg (Oa (Nl (W.ret (Jf rfl (resV.t rfl) (Ret.intro (congrArg (Value.bool) ((by have q1 := Ye a b; have q2 := Yd a; have q3 := Yf a b; have q4 := Zx a b c; (try simp at hb128); (try simp at hb129); all_goals omega))) C125.below))))))))))))
     refine Oa (Nl (Rh (Om (Om (Ox rfl rfl rfl (OF (Om (Og rfl rfl (St.loadOA (vs := [(.int .i64 a.op), (.slice a1 a.n.length c2), (.bool a.c.num.neg), (.slice a3 a.c.num.mag.length c4), (.bool a.c.den.neg), (.slice a5 a.c.den.mag.length c6), (str a.name), (.slice a7 a.args.length c8)]) o47 ag31 rfl rfl rfl ?_)))))))))
     refine Og rfl rfl (St.loadOA (vs := [(.int .i64 a.op), (.slice a1 a.n.length c2), (.bool a.c.num.neg), (.slice a3 a.c.num.mag.length c4), (.bool a.c.den.neg), (.slice a5 a.c.den.mag.length c6), (str a.name), (.slice a7 a.args.length c8)]) o47 ag31 rfl rfl rfl (Og rfl rfl (St.bool (St.callR C125 cb22 rfl rfl (Y9 C125.bd (Js a h9.lo h9.hi h9.name h10 h11 h12 h13) (Js a h9.lo h9.hi h9.name h10 h11 h12 h13) hp75 hp75) ?_))))
     intro v130 w131 C132 s133 h134
     replace h10 := h10.sp s133
     replace h11 := h11.sp s133
     replace h12 := h12.sp s133
     replace h13 := h13.sp s133
     replace h23 := (h23.sp s126).sp s133
     replace h24 := (h24.sp s126).sp s133
     replace h25 := (h25.sp s126).sp s133
     replace h26 := (h26.sp s126).sp s133
     replace h36 := (h36.sp s126).sp s133
     replace h37 := (h37.sp s126).sp s133
     replace h38 := (h38.sp s126).sp s133
     replace h39 := (h39.sp s126).sp s133
     replace o47 := o47.spn s133
     replace o55 := (o55.spn s126).spn s133
     replace o64 := (o64.spn s126).spn s133
     refine ⟨_, h134, fun hb135 => ?_, fun hb135 => ?_⟩
     ·exact OF (Om (Ox rfl rfl rfl (Ox rfl rfl rfl (Ox rfl rfl rfl (Oy rfl rfl (Oy rfl rfl (Ox rfl rfl rfl (Ox rfl rfl rfl (Ox rfl rfl rfl (Ox rfl rfl rfl (Ox rfl rfl rfl (Ox rfl rfl rfl (OT (Nl (W.condT rfl (Rg (Oa (Nl (W.ret (Jf rfl (resV.t rfl) (Ret.intro (congrArg (Value.bool) ((by have q1 := Ye a b; have q2 := Yd a; have q3 := Yf a b; have q4 := Zx a b c; (try simp at hb128); (try simp at hb129); (try simp at hb135); all_goals omega))) C132.below)))))))))))))))))))))
     refine OF (Om (Og rfl rfl (St.move (Og rfl rfl (St.not rfl (Og rfl rfl (St.move (Og rfl rfl (St.move (Og rfl rfl (St.not rfl (Og rfl rfl (St.pick (t := true) rfl (Og rfl rfl (St.loadOA (vs := [(.int .i64 a.op), (.slice a1 a.n.length c2), (.bool a.c.num.neg), (.slice a3 a.c.num.mag.length c4), (.bool a.c.den.neg), (.slice a5 a.c.den.mag.length c6), (str a.name), (.slice a7 a.args.length c8)]) o47 ag31 rfl rfl rfl ?_)))))))))))))))
     refine Og rfl rfl (St.loadOA (vs := [(.int .i64 b.op), (.slice a14 b.n.length c15), (.bool b.c.num.neg), (.slice a16 b.c.num.mag.length c17), (.bool b.c.den.neg), (.slice a18 b.c.den.mag.length c19), (str b.name), (.slice a20 b.args.length c21)]) o55 ag31 rfl rfl rfl (Og rfl rfl (St.callR C132 cb24 rfl rfl (Jhz C132.bd (Js a h9.lo h9.hi h9.name h10 h11 h12 h13) (Js b h22.lo h22.hi h22.name h23 h24 h25 h26) hp75 hp84) ?_)))
     intro v136 w137 C138 s139 h140
     replace h10 := h10.sp s139
     replace h11 := h11.sp s139
     replace h12 := h12.sp s139
     replace h13 := h13.sp s139
     replace h23 := h23.sp s139
     replace h24 := h24.sp s139
     replace h25 := h25.sp s139
     replace h26 := h26.sp s139
     replace o47 := o47.spn s139
     replace o55 := o55.spn s139
     subst h140
     refine Og rfl rfl (St.eql rfl rfl rfl (Og rfl rfl (St.bool (St.neqB un4 rfl rfl rfl ⟨_, rfl, fun hb141 => ?_, fun hb141 => ?_⟩))))
     ·exact OF (Nl (W.condT rfl (Rg (Oa (Nl (W.ret (Jf rfl (resV.t rfl) (Ret.intro (congrArg (Value.bool) ((by have q1 := Ye a b; have q2 := Yd a; have q3 := Yf a b; have q4 := Zx a b c; (try simp at hb128); (try simp at hb129); (try simp at hb135); (try simp at hb141); all_goals omega))) C138.below))))))))
     refine OF (Nl (W.condF rfl (W.skip (Rg (O rfl (St.loadOA (vs := [(.int .i64 a.op), (.slice a1 a.n.length c2), (.bool a.c.num.neg), (.slice a3 a.c.num.mag.length c4), (.bool a.c.den.neg), (.slice a5 a.c.den.mag.length c6), (str a.name), (.slice a7 a.args.length c8)]) o47 ag31 rfl rfl rfl (O rfl (St.loadOA (vs := [(.int .i64 b.op), (.slice a14 b.n.length c15), (.bool b.c.num.neg), (.slice a16 b.c.num.mag.length c17), (.bool b.c.den.neg), (.slice a18 b.c.den.mag.length c19), (str b.name), (.slice a20 b.args.length c21)]) o55 ag31 rfl rfl rfl ?_))))))))
     refine O rfl (St.bool (St.callR C138 cb22 rfl rfl (Y9 C138.bd (Js a h9.lo h9.hi h9.name h10 h11 h12 h13) (Js b h22.lo h22.hi h22.name h23 h24 h25 h26) hp75 hp84) ?_))
     intro v142 w143 C144 s145 h146
     replace h23 := h23.sp s145
     replace h24 := h24.sp s145
     replace h25 := h25.sp s145
     replace h26 := h26.sp s145
     replace h36 := (h36.sp s139).sp s145
     replace h37 := (h37.sp s139).sp s145
     replace h38 := (h38.sp s139).sp s145
     replace h39 := (h39.sp s139).sp s145
     replace o55 := o55.spn s145
     replace o64 := (o64.spn s139).spn s145
     refine ⟨_, h146, fun hb147 => ?_, fun hb147 => ?_⟩
     ·refine Om (Og rfl rfl (St.loadOA (vs := [(.int .i64 b.op), (.slice a14 b.n.length c15), (.bool b.c.num.neg), (.slice a16 b.c.num.mag.length c17), (.bool b.c.den.neg), (.slice a18 b.c.den.mag.length c19), (str b.name), (.slice a20 b.args.length c21)]) o55 ag31 rfl rfl rfl (Og rfl rfl (St.loadOA (vs := [(.int .i64 c.op), (.slice a27 c.n.length c28), (.bool c.c.num.neg), (.slice a29 c.c.num.mag.length c30), (.bool c.c.den.neg), (.slice a31 c.c.den.mag.length c32), (str c.name), (.slice a33 c.args.length c34)]) o64 ag31 rfl rfl rfl ?_))))
      refine Og rfl rfl (St.bool (St.callR C144 cb22 rfl rfl (Y9 C144.bd (Js b h22.lo h22.hi h22.name h23 h24 h25 h26) (Js c h35.lo h35.hi h35.name h36 h37 h38 h39) hp84 hp93) ?_))
      intro v148 w149 C150 s151 h152
      replace h10 := (h10.sp s145).sp s151
      replace h11 := (h11.sp s145).sp s151
      replace h12 := (h12.sp s145).sp s151
      replace h13 := (h13.sp s145).sp s151
      replace h36 := h36.sp s151
      replace h37 := h37.sp s151
      replace h38 := h38.sp s151
      replace h39 := h39.sp s151
      replace o47 := (o47.spn s145).spn s151
      replace o64 := o64.spn s151
      refine ⟨_, h152, fun hb153 => ?_, fun hb153 => ?_⟩
      ·refine OT (Om (Og rfl rfl (St.loadOA (vs := [(.int .i64 a.op), (.slice a1 a.n.length c2), (.bool a.c.num.neg), (.slice a3 a.c.num.mag.length c4), (.bool a.c.den.neg), (.slice a5 a.c.den.mag.length c6), (str a.name), (.slice a7 a.args.length c8)]) o47 ag31 rfl rfl rfl (Og rfl rfl (St.loadOA (vs := [(.int .i64 c.op), (.slice a27 c.n.length c28), (.bool c.c.num.neg), (.slice a29 c.c.num.mag.length c30), (.bool c.c.den.neg), (.slice a31 c.c.den.mag.length c32), (str c.name), (.slice a33 c.args.length c34)]) o64 ag31 rfl rfl rfl ?_)))))
       refine Og rfl rfl (St.bool (St.callR C150 cb22 rfl rfl (Y9 C150.bd (Js a h9.lo h9.hi h9.name h10 h11 h12 h13) (Js c h35.lo h35.hi h35.name h36 h37 h38 h39) hp75 hp93) ?_))
       intro v154 w155 C156 s157 h158
       refine ⟨_, h158, fun hb159 => ?_, fun hb159 => ?_⟩
       ·refine Og rfl rfl (St.not rfl (OT (O rfl (St.not rfl (Om (Og rfl rfl (St.callR C156 cb9 rfl rfl (Kr ) ?_)))))))
        intro v160 w161 C162 s163 h164
        subst h164
        refine OT (Oa (Nl (W.ret (Jf rfl (resV.t rfl) (Ret.intro ?_ C162.below)))))
        rfl
       exact Og rfl rfl (St.not rfl (OT (O rfl (St.not rfl (Om (Ox rfl rfl rfl (OF (Oa (Nl (W.ret (Jf rfl (resV.t rfl) (Ret.intro (congrArg (Value.bool) ((by have q1 := Ye a b; have q2 := Yd a; have q3 := Yf a b; have q4 := Zx a b c; (try simp at hb128); (try simp at hb129); (try simp at hb135); (try simp at hb141); (try simp at hb147); (try simp at hb153); (try simp at hb159); all_goals omega))) C156.below))))))))))))
      refine OT (Om (Ox rfl rfl rfl (Ox rfl rfl rfl (Ox rfl rfl rfl (Ox rfl rfl rfl (OF (O rfl (St.not rfl (Om (Og rfl rfl (St.callR C150 cb9 rfl rfl (Kr ) ?_)))))))))))
      intro v165 w166 C167 s168 h169
      subst h169
      refine OT (Oa (Nl (W.ret (Jf rfl (resV.t rfl) (Ret.intro ?_ C167.below)))))
      rfl
     refine Om (Ox rfl rfl rfl (Ox rfl rfl rfl (Ox rfl rfl rfl (OF (Om (Ox rfl rfl rfl (Ox rfl rfl rfl (Ox rfl rfl rfl (Ox rfl rfl rfl (OF (O rfl (St.not rfl (Om (Og rfl rfl (St.callR C144 cb9 rfl rfl (Kr ) ?_)))))))))))))))
     intro v170 w171 C172 s173 h174
     subst h174
     refine OT (Oa (Nl (W.ret (Jf rfl (resV.t rfl) (Ret.intro ?_ C172.below)))))
     rfl
    refine O rfl (St.bool (St.assign ⟨_, rfl, fun hb175 => ?_, fun hb175 => ?_⟩))
    ·refine Oa (Nl (Rh (Om (Om (Og rfl rfl (St.move (OT (Om (Og rfl rfl (St.loadOA (vs := [(.int .i64 a.op), (.slice a1 a.n.length c2), (.bool a.c.num.neg), (.slice a3 a.c.num.mag.length c4), (.bool a.c.den.neg), (.slice a5 a.c.den.mag.length c6), (str a.name), (.slice a7 a.args.length c8)]) o47 ag31 rfl rfl rfl ?_))))))))))
     refine Og rfl rfl (St.loadOA (vs := [(.int .i64 a.op), (.slice a1 a.n.length c2), (.bool a.c.num.neg), (.slice a3 a.c.num.mag.length c4), (.bool a.c.den.neg), (.slice a5 a.c.den.mag.length c6), (str a.name), (.slice a7 a.args.length c8)]) o47 ag31 rfl rfl rfl (Og rfl rfl (St.bool (St.callR C125 cb22 rfl rfl (Y9 C125.bd (Js a h9.lo h9.hi h9.name h10 h11 h12 h13) (Js a h9.lo h9.hi h9.name h10 h11 h12 h13) hp75 hp75) ?_))))
     intro v176 w177 C178 s179 h180
     replace h10 := h10.sp s179
     replace h11 := h11.sp s179
     replace h12 := h12.sp s179
     replace h13 := h13.sp s179
     replace h23 := (h23.sp s126).sp s179
     replace h24 := (h24.sp s126).sp s179
     replace h25 := (h25.sp s126).sp s179
     replace h26 := (h26.sp s126).sp s179
     replace h36 := (h36.sp s126).sp s179
     replace h37 := (h37.sp s126).sp s179
     replace h38 := (h38.sp s126).sp s179
     replace h39 := (h39.sp s126).sp s179
     replace o47 := o47.spn s179
     replace o55 := (o55.spn s126).spn s179
     replace o64 := (o64.spn s126).spn s179
     refine ⟨_, h180, fun hb181 => ?_, fun hb181 => ?_⟩
     ·exact OF (Om (Ox rfl rfl rfl (Ox rfl rfl rfl (Ox rfl rfl rfl (Oy rfl rfl (Oy rfl rfl (Ox rfl rfl rfl (Ox rfl rfl rfl (Ox rfl rfl rfl (Ox rfl rfl rfl (Ox rfl rfl rfl (Ox rfl rfl rfl (OT (Nl (W.condT rfl (Rg (Oa (Nl (W.ret (Jf rfl (resV.t rfl) (Ret.intro (congrArg (Value.bool) ((by have q1 := Ye a b; have q2 := Yd a; have q3 := Yf a b; have q4 := Zx a b c; (try simp at hb128); (try simp at hb175); (try simp at hb181); all_goals omega))) C178.below)))))))))))))))))))))
     refine OF (Om (Og rfl rfl (St.move (Og rfl rfl (St.not rfl (Og rfl rfl (St.move (Ox rfl rfl rfl (Ox rfl rfl rfl (Og rfl rfl (St.pick (t := false) rfl (Og rfl rfl (St.loadOA (vs := [(.int .i64 a.op), (.slice a1 a.n.length c2), (.bool a.c.num.neg), (.slice a3 a.c.num.mag.length c4), (.bool a.c.den.neg), (.slice a5 a.c.den.mag.length c6), (str a.name), (.slice a7 a.args.length c8)]) o47 ag31 rfl rfl rfl ?_)))))))))))))
     refine Og rfl rfl (St.loadOA (vs := [(.int .i64 b.op), (.slice a14 b.n.length c15), (.bool b.c.num.neg), (.slice a16 b.c.num.mag.length c17), (.bool b.c.den.neg), (.slice a18 b.c.den.mag.length c19), (str b.name), (.slice a20 b.args.length c21)]) o55 ag31 rfl rfl rfl (Og rfl rfl (St.callR C178 cb24 rfl rfl (Jhz C178.bd (Js a h9.lo h9.hi h9.name h10 h11 h12 h13) (Js b h22.lo h22.hi h22.name h23 h24 h25 h26) hp75 hp84) ?_)))
     intro v182 w183 C184 s185 h186
     replace h10 := h10.sp s185
     replace h11 := h11.sp s185
     replace h12 := h12.sp s185
     replace h13 := h13.sp s185
     replace h23 := h23.sp s185
     replace h24 := h24.sp s185
     replace h25 := h25.sp s185
     replace h26 := h26.sp s185
     replace o47 := o47.spn s185
     replace o55 := o55.spn s185
     subst h186
     refine Og rfl rfl (St.eql rfl rfl rfl (Og rfl rfl (St.bool (St.neqB un4 rfl rfl rfl ⟨_, rfl, fun hb187 => ?_, fun hb187 => ?_⟩))))
     ·exact OF (Nl (W.condT rfl (Rg (Oa (Nl (W.ret (Jf rfl (resV.t rfl) (Ret.intro (congrArg (Value.bool) ((by have q1 := Ye a b; have q2 := Yd a; have q3 := Yf a b; have q4 := Zx a b c; (try simp at hb128); (try simp at hb175); (try simp at hb181); (try simp at hb187); all_goals omega))) C184.below))))))))
     refine OF (Nl (W.condF rfl (W.skip (Rg (O rfl (St.loadOA (vs := [(.int .i64 a.op), (.slice a1 a.n.length c2), (.bool a.c.num.neg), (.slice a3 a.c.num.mag.length c4), (.bool a.c.den.neg), (.slice a5 a.c.den.mag.length c6), (str a.name), (.slice a7 a.args.length c8)]) o47 ag31 rfl rfl rfl (O rfl (St.loadOA (vs := [(.int .i64 b.op), (.slice a14 b.n.length c15), (.bool b.c.num.neg), (.slice a16 b.c.num.mag.length c17), (.bool b.c.den.neg), (.slice a18 b.c.den.mag.length c19), (str b.name), (.slice a20 b.args.length c21)]) o55 ag31 rfl rfl rfl ?_))))))))
     refine O rfl (St.bool (St.callR C184 cb22 rfl rfl (Y9 C184.bd (Js a h9.lo h9.hi h9.name h10 h11 h12 h13) (Js b h22.lo h22.hi h22.name h23 h24 h25 h26) hp75 hp84) ?_))
     intro v188 w189 C190 s191 h192
     replace h23 := h23.sp s191
     replace h24 := h24.sp s191
     replace h25 := h25.sp s191
     replace h26 := h26.sp s191
     replace h36 := (h36.sp s185).sp s191
     replace h37 := (h37.sp s185).sp s191
     replace h38 := (h38.sp s185).sp s191
     replace h39 := (h39.sp s185).sp s191
     replace o55 := o55.spn s191
     replace o64 := (o64.spn s185).spn s191
     refine ⟨_, h192, fun hb193 => ?_, fun hb193 => ?_⟩
     ·refine Om (Og rfl rfl (St.loadOA (vs := [(.int .i64 b.op), (.slice a14 b.n.length c15), (.bool b.c.num.neg), (.slice a16 b.c.num.mag.length c17), (.bool b.c.den.neg), (.slice a18 b.c.den.mag.length c19), (str b.name), (.slice a20 b.args.length c21)]) o55 ag31 rfl rfl rfl (Og rfl rfl (St.loadOA (vs := [(.int .i64 c.op), (.slice a27 c.n.length c28), (.bool c.c.num.neg), (.slice a29 c.c.num.mag.length c30), (.bool c.c.den.neg), (.slice a31 c.c.den.mag.length c32), (str c.name), (.slice a33 c.args.length c34)]) o64 ag31 rfl rfl rfl ?_))))
      refine Og rfl rfl (St.bool (St.callR C190 cb22 rfl rfl (Y9 C190.bd (Js b h22.lo h22.hi h22.name h23 h24 h25 h26) (Js c h35.lo h35.hi h35.name h36 h37 h38 h39) hp84 hp93) ?_))
      intro v194 w195 C196 s197 h198
      replace h10 := (h10.sp s191).sp s197
      replace h11 := (h11.sp s191).sp s197
      replace h12 := (h12.sp s191).sp s197
      replace h13 := (h13.sp s191).sp s197
      replace h36 := h36.sp s197
      replace h37 := h37.sp s197
      replace h38 := h38.sp s197
      replace h39 := h39.sp s197
      replace o47 := (o47.spn s191).spn s197
      replace o64 := o64.spn s197
      refine ⟨_, h198, fun hb199 => ?_, fun hb199 => ?_⟩
      ·refine OT (Om (Og rfl rfl (St.loadOA (vs := [(.int .i64 a.op), (.slice a1 a.n.length c2), (.bool a.c.num.neg), (.slice a3 a.c.num.mag.length c4), (.bool a.c.den.neg), (.slice a5 a.c.den.mag.length c6), (str a.name), (.slice a7 a.args.length c8)]) o47 ag31 rfl rfl rfl (Og rfl rfl (St.loadOA (vs := [(.int .i64 c.op), (.slice a27 c.n.length c28), (.bool c.c.num.neg), (.slice a29 c.c.num.mag.length c30), (.bool c.c.den.neg), (.slice a31 c.c.den.mag.length c32), (str c.name), (.slice a33 c.args.length c34)]) o64 ag31 rfl rfl rfl ?_)))))
       refine Og rfl rfl (St.bool (St.callR C196 cb22 rfl rfl (Y9 C196.bd (Js a h9.lo h9.hi h9.name h10 h11 h12 h13) (Js c h35.lo h35.hi h35.name h36 h37 h38 h39) hp75 hp93) ?_))
       intro v200 w201 C202 s203 h204
       refine ⟨_, h204, fun hb205 => ?_, fun hb205 => ?_⟩
       ·refine Og rfl rfl (St.not rfl (OT (O rfl (St.not rfl (Om (Og rfl rfl (St.callR C202 cb9 rfl rfl (Kr ) ?_)))))))
        intro v206 w207 C208 s209 h210
        subst h210
        refine OT (Oa (Nl (W.ret (Jf rfl (resV.t rfl) (Ret.intro ?_ C208.below)))))
        rfl
       exact Og rfl rfl (St.not rfl (OT (O rfl (St.not rfl (Om (Ox rfl rfl rfl (OF (Oa (Nl (W.ret (Jf rfl (resV.t rfl) (Ret.intro (congrArg (Value.bool) ((by have q1 := Ye a b; have q2 := Yd a; have q3 := Yf a b; have q4 := Zx a b c; (try simp at hb128); (try simp at hb175); (try simp at hb181); (try simp at hb187); (try simp at hb193); (try simp at hb199); (try simp at hb205); all_goals omega))) C202.below))))))))))))
      refine OT (Om (Ox rfl rfl rfl (Ox rfl rfl rfl (Ox rfl rfl rfl (Ox rfl rfl rfl (OF (O rfl (St.not rfl (Om (Og rfl rfl (St.callR C196 cb9 rfl rfl (Kr ) ?_)))))))))))
      intro v211 w212 C213 s214 h215
      subst h215
      refine OT (Oa (Nl (W.ret (Jf rfl (resV.t rfl) (Ret.intro ?_ C213.below)))))
      rfl
     refine Om (Ox rfl rfl rfl (Ox rfl rfl rfl (Ox rfl rfl rfl (OF (Om (Ox rfl rfl rfl (Ox rfl rfl rfl (Ox rfl rfl rfl (Ox rfl rfl rfl (OF (O rfl (St.not rfl (Om (Og rfl rfl (St.callR C190 cb9 rfl rfl (Kr ) ?_)))))))))))))))
     intro v216 w217 C218 s219 h220
     subst h220
     refine OT (Oa (Nl (W.ret (Jf rfl (resV.t rfl) (Ret.intro ?_ C218.below)))))
     rfl
    refine Oa (Nl (Rh (Om (Om (Ox rfl rfl rfl (OF (Om (Og rfl rfl (St.loadOA (vs := [(.int .i64 a.op), (.slice a1 a.n.length c2), (.bool a.c.num.neg), (.slice a3 a.c.num.mag.length c4), (.bool a.c.den.neg), (.slice a5 a.c.den.mag.length c6), (str a.name), (.slice a7 a.args.length c8)]) o47 ag31 rfl rfl rfl ?_)))))))))
    refine Og rfl rfl (St.loadOA (vs := [(.int .i64 a.op), (.slice a1 a.n.length c2), (.bool a.c.num.neg), (.slice a3 a.c.num.mag.length c4), (.bool a.c.den.neg), (.slice a5 a.c.den.mag.length c6), (str a.name), (.slice a7 a.args.length c8)]) o47 ag31 rfl rfl rfl (Og rfl rfl (St.bool (St.callR C125 cb22 rfl rfl (Y9 C125.bd (Js a h9.lo h9.hi h9.name h10 h11 h12 h13) (Js a h9.lo h9.hi h9.name h10 h11 h12 h13) hp75 hp75) ?_))))
    intro v221 w222 C223 s224 h225
    replace h10 := h10.sp s224
    replace h11 := h11.sp s224
    replace h12 := h12.sp s224
    replace h13 := h13.sp s224
    replace h23 := (h23.sp s126).sp s224
    replace h24 := (h24.sp s126).sp s224
    replace h25 := (h25.sp s126).sp s224
    replace h26 := (h26.sp s126).sp s224
    replace h36 := (h36.sp s126).sp s224
    replace h37 := (h37.sp s126).sp s224
    replace h38 := (h38.sp s126).sp s224
    replace h39 := (h39.sp s126).sp s224
    replace o47 := o47.spn s224
    replace o55 := (o55.spn s126).spn s224
    replace o64 := (o64.spn s126).spn s224
    refine ⟨_, h225, fun hb226 => ?_, fun hb226 => ?_⟩
    ·exact OF (Om (Ox rfl rfl rfl (Ox rfl rfl rfl (Ox rfl rfl rfl (Oy rfl rfl (Oy rfl rfl (Ox rfl rfl rfl (Ox rfl rfl rfl (Ox rfl rfl rfl (Ox rfl rfl rfl (Ox rfl rfl rfl (Ox rfl rfl rfl (OT (Nl (W.condT rfl (Rg (Oa (Nl (W.ret (Jf rfl (resV.t rfl) (Ret.intro (congrArg (Value.bool) ((by have q1 := Ye a b; have q2 := Yd a; have q3 := Yf a b; have q4 := Zx a b c; (try simp at hb128); (try simp at hb175); (try simp at hb226); all_goals omega))) C223.below)))))))))))))))))))))
    refine OF (Om (Og rfl rfl (St.move (Og rfl rfl (St.not rfl (Og rfl rfl (St.move (Og rfl rfl (St.move (Og rfl rfl (St.not rfl (Og rfl rfl (St.pick (t := true) rfl (Og rfl rfl (St.loadOA (vs := [(.int .i64 a.op), (.slice a1 a.n.length c2), (.bool a.c.num.neg), (.slice a3 a.c.num.mag.length c4), (.bool a.c.den.neg), (.slice a5 a.c.den.mag.length c6), (str a.name), (.slice a7 a.args.length c8)]) o47 ag31 rfl rfl rfl ?_)))))))))))))))
    refine Og rfl rfl (St.loadOA (vs := [(.int .i64 b.op), (.slice a14 b.n.length c15), (.bool b.c.num.neg), (.slice a16 b.c.num.mag.length c17), (.bool b.c.den.neg), (.slice a18 b.c.den.mag.length c19), (str b.name), (.slice a20 b.args.length c21)]) o55 ag31 rfl rfl rfl (Og rfl rfl (St.callR C223 cb24 rfl rfl (Jhz C223.bd (Js a h9.lo h9.hi h9.name h10 h11 h12 h13) (Js b h22.lo h22.hi h22.name h23 h24 h25 h26) hp75 hp84) ?_)))
    intro v227 w228 C229 s230 h231
    replace h10 := h10.sp s230
    replace h11 := h11.sp s230
    replace h12 := h12.sp s230
    replace h13 := h13.sp s230
    replace h23 := h23.sp s230
    replace h24 := h24.sp s230
    replace h25 := h25.sp s230
    replace h26 := h26.sp s230
    replace o47 := o47.spn s230
    replace o55 := o55.spn s230
    subst h231
    refine Og rfl rfl (St.eql rfl rfl rfl (Og rfl rfl (St.bool (St.neqB un4 rfl rfl rfl ⟨_, rfl, fun hb232 => ?_, fun hb232 => ?_⟩))))
    ·exact OF (Nl (W.condT rfl (Rg (Oa (Nl (W.ret (Jf rfl (resV.t rfl) (Ret.intro (congrArg (Value.bool) ((by have q1 := Ye a b; have q2 := Yd a; have q3 := Yf a b; have q4 := Zx a b c; (try simp at hb128); (try simp at hb175); (try simp at hb226); (try simp at hb232); all_goals omega))) C229.below))))))))
    refine OF (Nl (W.condF rfl (W.skip (Rg (O rfl (St.loadOA (vs := [(.int .i64 a.op), (.slice a1 a.n.length c2), (.bool a.c.num.neg), (.slice a3 a.c.num.mag.length c4), (.bool a.c.den.neg), (.slice a5 a.c.den.mag.length c6), (str a.name), (.slice a7 a.args.length c8)]) o47 ag31 rfl rfl rfl (O rfl (St.loadOA (vs := [(.int .i64 b.op), (.slice a14 b.n.length c15), (.bool b.c.num.neg), (.slice a16 b.c.num.mag.length c17), (.bool b.c.den.neg), (.slice a18 b.c.den.mag.length c19), (str b.name), (.slice a20 b.args.length c21)]) o55 ag31 rfl rfl rfl ?_))))))))
    refine O rfl (St.bool (St.callR C229 cb22 rfl rfl (Y9 C229.bd (Js a h9.lo h9.hi h9.name h10 h11 h12 h13) (Js b h22.lo h22.hi h22.name h23 h24 h25 h26) hp75 hp84) ?_))
    intro v233 w234 C235 s236 h237
    replace h23 := h23.sp s236
    replace h24 := h24.sp s236
    replace h25 := h25.sp s236
    replace h26 := h26.sp s236
    replace h36 := (h36.sp s230).sp s236
    replace h37 := (h37.sp s230).sp s236
    replace h38 := (h38.sp s230).sp s236
    replace h39 := (h39.sp s230).sp s236
    replace o55 := o55.spn s236
    replace o64 := (o64.spn s230).spn s236
    refine ⟨_, h237, fun hb238 => ?_, fun hb238 => ?_⟩
    ·refine Om (Og rfl rfl (St.loadOA (vs := [(.int .i64 b.op), (.slice a14 b.n.length c15), (.bool b.c.num.neg), (.slice a16 b.c.num.mag.length c17), (.bool b.c.den.neg), (.slice a18 b.c.den.mag.length c19), (str b.name), (.slice a20 b.args.length c21)]) o55 ag31 rfl rfl rfl (Og rfl rfl (St.loadOA (vs := [(.int .i64 c.op), (.slice a27 c.n.length c28), (.bool c.c.num.neg), (.slice a29 c.c.num.mag.length c30), (.bool c.c.den.neg), (.slice a31 c.c.den.mag.length c32), (str c.name), (.slice a33 c.args.length c34)]) o64 ag31 rfl rfl rfl ?_))))
     refine Og rfl rfl (St.bool (St.callR C235 cb22 rfl rfl (Y9 C235.bd (Js b h22.lo h22.hi h22.name h23 h24 h25 h26) (Js c h35.lo h35.hi h35.name h36 h37 h38 h39) hp84 hp93) ?_))
     intro v239 w240 C241 s242 h243
     replace h10 := (h10.sp s236).sp s242
     replace h11 := (h11.sp s236).sp s242
     replace h12 := (h12.sp s236).sp s242
     replace h13 := (h13.sp s236).sp s242
     replace h36 := h36.sp s242
     replace h37 := h37.sp s242
     replace h38 := h38.sp s242
     replace h39 := h39.sp s242
     replace o47 := (o47.spn s236).spn s242
     replace o64 := o64.spn s242
     refine ⟨_, h243, fun hb244 => ?_, fun hb244 => ?_⟩
     ·refine OT (Om (Og rfl rfl (St.loadOA (vs := [(.int .i64 a.op), (.slice a1 a.n.length c2), (.bool a.c.num.neg), (.slice a3 a.c.num.mag.length c4), (.bool a.c.den.neg), (.slice a5 a.c.den.mag.length c6), (str a.name), (.slice a7 a.args.length c8)]) o47 ag31 rfl rfl rfl (Og rfl rfl (St.loadOA (vs := [(.int .i64 c.op), (.slice a27 c.n.length c28), (.bool c.c.num.neg), (.slice a29 c.c.num.mag.length c30), (.bool c.c.den.neg), (.slice a31 c.c.den.mag.length c32), (str c.name), (.slice a33 c.args.length c34)]) o64 ag31 rfl rfl rfl ?_)))))
      refine Og rfl rfl (St.bool (St.callR C241 cb22 rfl rfl (Y9 C241.bd (Js a h9.lo h9.hi h9.name h10 h11 h12 h13) (Js c h35.lo h35.hi h35.name h36 h37 h38 h39) hp75 hp93) ?_))
      intro v245 w246 C247 s248 h249
      refine ⟨_, h249, fun hb250 => ?_, fun hb250 => ?_⟩
      ·refine Og rfl rfl (St.not rfl (OT (O rfl (St.not rfl (Om (Og rfl rfl (St.callR C247 cb9 rfl rfl (Kr ) ?_)))))))
       intro v251 w252 C253 s254 h255
       subst h255
       refine OT (Oa (Nl (W.ret (Jf rfl (resV.t rfl) (Ret.intro ?_ C253.below)))))
       rfl
      exact Og rfl rfl (St.not rfl (OT (O rfl (St.not rfl (Om (Ox rfl rfl rfl (OF (Oa (Nl (W.ret (Jf rfl (resV.t rfl) (Ret.intro (congrArg (Value.bool) ((by have q1 := Ye a b; have q2 := Yd a; have q3 := Yf a b; have q4 := Zx a b c; (try simp at hb128); (try simp at hb175); (try simp at hb226); (try simp at hb232); (try simp at hb238); (try simp at hb244); (try simp at hb250); all_goals omega))) C247.below))))))))))))
     refine OT (Om (Ox rfl rfl rfl (Ox rfl rfl rfl (Ox rfl rfl rfl (Ox rfl rfl rfl (OF (O rfl (St.not rfl (Om (Og rfl rfl (St.callR C241 cb9 rfl rfl (Kr ) ?_)))))))))))
     intro v256 w257 C258 s259 h260
     subst h260
     refine OT (Oa (Nl (W.ret (Jf rfl (resV.t rfl) (Ret.intro ?_ C258.below)))))
     rfl
    refine Om (Ox rfl rfl rfl (Ox rfl rfl rfl (Ox rfl rfl rfl (OF (Om (Ox rfl rfl rfl (Ox rfl rfl rfl (Ox rfl rfl rfl (Ox rfl rfl rfl (OF (O rfl (St.not rfl (Om (Og rfl rfl (St.callR C235 cb9 rfl rfl (Kr ) ?_)))))))))))))))
    intro v261 w262 C263 s264 h265
    subst h265
    refine OT (Oa (Nl (W.ret (Jf rfl (resV.t rfl) (Ret.intro ?_ C263.below)))))
    rfl
   refine Og rfl rfl (St.not rfl (OF (Nl (W.condT rfl (Rg (O rfl (St.callR C87 cb9 rfl rfl (Kr ) ?_)))))))
   intro v266 w267 C268 s269 h270
   subst h270
   refine Oa (Nl (W.ret (Jf rfl (resV.t rfl) (Ret.intro ?_ C268.below))))
   rfl
  refine Og rfl rfl (St.not rfl (OF (Om (Ox rfl rfl rfl (Ox rfl rfl rfl (Ox rfl rfl rfl (OT (Nl (W.condT rfl (Rg (O rfl (St.callR C78 cb9 rfl rfl (Kr ) ?_))))))))))))
  intro v271 w272 C273 s274 h275
  subst h275
  refine Oa (Nl (W.ret (Jf rfl (resV.t rfl) (Ret.intro ?_ C273.below))))
  rfl
 refine O rfl (St.not rfl (Om (Ox rfl rfl rfl (Ox rfl rfl rfl (Ox rfl rfl rfl (OT (Om (Ox rfl rfl rfl (Ox rfl rfl rfl (Ox rfl rfl rfl (OT (Nl (W.condT rfl (Rg (O rfl (St.callR C69 cb9 rfl rfl (Kr ) ?_))))))))))))))))
 intro v276 w277 C278 s279 h280
 subst h280
 refine Oa (Nl (W.ret (Jf rfl (resV.t rfl) (Ret.intro ?_ C278.below))))
 rfl
end Go.Wf
namespace Go.Proofs.YtjiojpmoleilgaaGreatDoor
set_option linter.unusedVariables false
set_option linter.unusedSimpArgs false
open Go Go.Proofs Go.Wf Go.RowKit Go.ChangeShapes Go.WideShapes
set_option maxRecDepth 100000
theorem Jsq : Tryz.prog.inits.idxOf? 6 = none := by kernel_rfl
def wE : Value := .agg #[.int .i64 0, .slice none 0 0, .bool false, .slice none 0 0, .bool false, .slice none 0 0, .string ⟨#[]⟩, .slice none 0 0]
def zw : Array Value := #[wE, wE, wE]
theorem wOk6 (os : Os) : Input.okWideB Tryz.prog ((World.laidAll Tryz.prog os jn).forCall (fun _ _ => 0) ⟨#[], zw, []⟩) 6 ⟨#[], zw, []⟩ = true := by kernel_rfl
theorem wPre6 (os : Os) (H : Type) (enc : TypeId × Value → H) : Rows.exprOrderSpec.preB enc Tryz.prog Tryz.f6 [] false ((World.laidAll Tryz.prog os jn).forCall (fun _ _ => 0) ⟨#[], zw, []⟩).memory zw 8 = true := by kernel_rfl
theorem Jp7 (os : Os) (H : Type) (enc : TypeId × Value → H) : Rows.exprOrderSpec.sizedB enc Tryz.prog Tryz.f6 false ((World.laidAll Tryz.prog os jn).forCall (fun _ _ => 0) ⟨#[], zw, []⟩).memory zw 8 = true := by kernel_rfl
theorem Jsf (os : Os) (started : os.Started) (H : Type) (enc : TypeId × Value → H) :
  ReturnsInHanded {} Tryz.checked os 6 .any (fun w args => (Rows.exprOrderSpec.pre enc Tryz.prog Tryz.f6 [] false w args ∧ laidMetH Tryz.prog jn w) ∧ sizedMet enc Tryz.prog Tryz.f6 (OpenSpec.ofChange Rows.exprOrderSpec) false w args)
   (Rows.exprOrderSpec.post enc Tryz.prog Tryz.f6 false true false false) := by
 refine returnsInHanded_of_change_and (C := Tryz.checked) (X := fun w _ => laidMetH Tryz.prog jn w) (fun _ _ _ hh h => h.of_heap hh) own52 started Jsq Tryz.func6
  (ChangeSpec.witness_shaped (enc := enc) (C := Tryz.checked) (os := os) (X := fun w _ => laidMetH Tryz.prog jn w) false (World.laidAll Tryz.prog os jn) zw 8 (World.laidAll_os _ _ _)
   (World.shaped_of_ZipB (wZip os _) (wRest os _)) (wOk6 os) (wPre6 os H enc) (Jp7 os H enc)
   (by rw [MakeChecks.laidMetH_plain _ _ _ Jwa]; exact laidMet_laidAll _ (wFits os) (Jqi os))) ?_
 intro W base args ds gs before hval0 hW _ _ hL _
 have hval : ∀ (j : Nat) t v, Tryz.f6.params[j]? = some t → args[j]? = some v → Value.okWide Tryz.prog W .any base t v := hval0
 have hW' := hW
 obtain ⟨p, q, hA0, hV, rfl, _, _⟩ := hW
 have hA : DataW.TrodAll enc Tryz.prog W 0 (fun _ => true) true Tryz.f6.params.toList args.toList ds p := hA0
 rw [Tryz.params6] at hA hval
 obtain ⟨v0, v1, v2, d0, d1, d2, p0, p1, p2, rfl, rfl, rfl, h0, h1, h2⟩ := trodAll_three hA
 obtain ⟨rfl, rfl⟩ := trodVars_none hV
 obtain ⟨a, ha⟩ := Jj6 (hval 0 31 v0 rfl rfl) h0
 obtain ⟨b, hb⟩ := Jj6 (hval 1 31 v1 rfl rfl) h1
 obtain ⟨c, hc⟩ := Jj6 (hval 2 31 v2 rfl rfl) h2
 have hlt : ∀ x ∈ p0 ++ p1 ++ p2, x.block < W.heap.size := fun x hx => hW'.lt x (by simpa using hx)
 have call := Jc0 (X := NX) (fun _ h => h.elim) ha hb hc
 refine call.mono fun e W' hr => ?_
 cases e with
 | returned v =>
  obtain ⟨rfl, hb⟩ := hr
  exact ⟨_, rfl, _, _, _, [], p0 ++ (p1 ++ p2), [], hW', trodAll_mk1 (shut_bool und4 _),
   trodAll_mk3 (Below.trod yp Jhv lt31 h0 hb (fun x hx => hlt x (by simp [hx]))) (Below.trod yp Jhv lt31 h1 hb (fun x hx => hlt x (by simp [hx]))) (Below.trod yp Jhv lt31 h2 hb (fun x hx => hlt x (by simp [hx]))), rfl, hb.frame _, fun h => by cases h⟩
 | panicked ch => exact hr.elim
 | outgrown => exact hr.elim
theorem Jn6 : Tryz.prog.funcNamed "halfplane/halfplanelaw52.ExprOrder" = some 6 := by kernel_rfl
theorem inst6 : Tryz.f6.isInstance Tryz.prog Rows.exprOrderRow.origin Rows.exprOrderRow.targs := of_decide_eq_true (by kernel_rfl)
theorem vy : Rows.ExprOrderSaid :=
 OpenClaim.holds_of_wide 6 Tryz.f6 rfl rfl rfl rfl rfl rfl rfl ⟨rfl, rfl, rfl, rfl, rfl⟩ rfl rfl rfl rfl rfl Jn6 Tryz.func6 Jvg
  inst6 (by unfold Func.isWrapper; first | (rw [if_pos (by decide +kernel)]; kernel_rfl) | (rw [if_neg (by decide +kernel)]; exact ⟨rfl, rfl⟩))
  (fun os started H enc _ => Jsf os started H enc)
end Go.Proofs.YtjiojpmoleilgaaGreatDoor
