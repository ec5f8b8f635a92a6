/-
  Every operation; an operation looks at its operands' slots alone.
-/
import Derived.Test.YtjadodiecjkmoaaGreatDoorEvV
namespace Go.Ev
set_option linter.unusedVariables false
set_option linter.unusedSimpArgs false
open Go Go.Wf Go.RowKit

def hpR : Res → Hp → Hp
  | .ok _ h, _ => h
  | .pn _ h, _ => h
  | .no _, h => h
def okR : Res → Prop
  | .no _ => False
  | _ => True
/-- what a call machine is held to -/
def RetE (Φ : Phi) (τ : Tau) (h : Hp) (w : World) (r : Res) : Ending → World → Prop
  | .returned x, w' => ∃ v h', r = .ok v h' ∧ ∃ Φ' τ', Rv Φ' v x ∧ Rel Φ' τ' h' w' ∧ Tw Φ τ h w Φ' τ' h'.n w'
  | .panicked ch, w' => ∃ v h', r = .pn v h' ∧ ∃ x Φ' τ', ch = [{ v := x, recovered := false }] ∧ Rv Φ' v x ∧ Rel Φ' τ' h' w' ∧ Tw Φ τ h w Φ' τ' h'.n w'
  | .outgrown, _ => False
structure CallS (P : Program) (call : CallF) : Prop where
  ex : ∀ k, call.ex k ≠ 0 → ExK P k (call.ex k)
  run : ∀ k args h r, call.run k args h = r → okR r →
    (∃ fn, P.funcs[k]? = some fn ∧ (fn.name == "runtime.NumGoroutine") = false ∧ fn.body.isNone = false) ∧ (h.n ≤ big5 → Grow h (hpR r h)) ∧
    ∀ Φ τ w vs, Rel Φ τ h w → Fre Φ h.n (hpR r h).n → RvL Φ args vs → Calls P k vs.toArray w (RetE Φ τ h w r)
  rd : ∀ id args h r, call.rd id args h = r → okR r → ∃ v h', r = .ok v h' ∧ (h.n ≤ big5 → Grow h h') ∧
    ∀ Φ τ w vs e, Rel Φ τ h w → Fre Φ h.n h'.n → RvL Φ args vs → Φ id = some e → ∃ l g tmps as bo, (Instr.yield e.g vs.toArray).run P w = .ok (.round l g tmps as bo) w ∧
      RoundIn Fence.wide 0 P l g tmps as bo w fun en w' => ∃ x, en = .returned x ∧ ∃ Φ' τ', Rv Φ' v x ∧ Rel Φ' τ' h' w' ∧ Tw Φ τ h w Φ' τ' h'.n w'
/-- what an operation is held to -/
def OpS (P : Program) (op : Op) (f : Fr) (h : Hp) (v : AV) (h' : Hp) : Prop := (h.n ≤ big5 → Grow h h') ∧
  ∀ (Φ : Phi) (τ : Tau) (F : Wf.Fr) (w : World) (dst : Option Tmp) (ty : TypeId) (pos : String) (after : Array Edge) (gd : Option (Nat × Bool)), FR Φ f F → Rel Φ τ h w → Fre Φ h.n h'.n →
    St P (fe F) ⟨dst, op, ty, pos, after, gd⟩ w (fun x w' => ∃ Φ' τ', Rv Φ' v x ∧ Rel Φ' τ' h' w' ∧ Tw Φ τ h w Φ' τ' h'.n w') KF
/-- .. where it panics -/
def OpP (P : Program) (op : Op) (f : Fr) (h : Hp) (v : AV) (h' : Hp) : Prop := (h.n ≤ big5 → Grow h h') ∧
  ∀ (Φ : Phi) (τ : Tau) (F : Wf.Fr) (w : World) (dst : Option Tmp) (ty : TypeId) (pos : String) (after : Array Edge) (gd : Option (Nat × Bool)), FR Φ f F → Rel Φ τ h w → Fre Φ h.n h'.n →
    St P (fe F) ⟨dst, op, ty, pos, after, gd⟩ w (fun _ _ => False) (fun ch w' => ∃ x Φ' τ', ch = [{ v := x, recovered := false }] ∧ Rv Φ' v x ∧ Rel Φ' τ' h' w' ∧ Tw Φ τ h w Φ' τ' h'.n w')
section
variable {P : Program} {call : CallF} {op : Op} {f f' : Fr} {v : AV} {h h' : Hp}
theorem Pu.opS (p : h' = h ∧ Pu P op f v) : OpS P op f h v h' := by
  obtain ⟨rfl, p⟩ := p
  refine ⟨fun _ => Grow.refl _, fun Φ τ F w dst ty pos after gd hF hR _ => (p Φ F w dst ty pos after gd hF).mono ?_ fun _ _ h => h⟩
  rintro x w' ⟨rfl, hv⟩
  exact ⟨Φ, τ, hv, hR, Tw.refl _ _ _ _ _⟩
theorem Rd.opS (p : h' = h ∧ Rd P op f v h) : OpS P op f h v h' := by
  obtain ⟨rfl, p⟩ := p
  refine ⟨fun _ => Grow.refl _, fun Φ τ F w dst ty pos after gd hF hR _ => (p Φ τ F w dst ty pos after gd hF hR).mono ?_ fun _ _ h => h⟩
  rintro x w' ⟨rfl, hv⟩
  exact ⟨Φ, τ, hv, hR, Tw.refl _ _ _ _ _⟩
theorem Qt.opS (p : Qt P op f v h h') : OpS P op f h v h' := ⟨fun _ => p.mv.1, p.mv.2⟩
theorem bifK {α : Type} {b : Bool} {x y z : α} (h : (bif b then x else y) = z) : (b = true ∧ x = z) ∨ (b = false ∧ y = z) := by cases b <;> simp at h <;> simp [h]
theorem cvKd_of {s d : TypeId} {x : Operand} {k : Kd} (hk : kdOf P (.convert s d x) = k) : (k = .pure ∧ cvKd P s d = 0) ∨ (k = .read ∧ cvKd P s d = 1) ∨ (k = .quiet ∧ cvKd P s d = 2) ∨ (k = .move ∧ 3 ≤ cvKd P s d) := by
  have hk : (match cvKd P s d with | 0 => Kd.pure | 1 => .read | 2 => .quiet | _ => .move) = k := hk
  match hc : cvKd P s d with
  | 0 => rw [hc] at hk; exact .inl ⟨hk.symm, rfl⟩
  | 1 => rw [hc] at hk; exact .inr (.inl ⟨hk.symm, rfl⟩)
  | 2 => rw [hc] at hk; exact .inr (.inr (.inl ⟨hk.symm, rfl⟩))
  | n + 3 => rw [hc] at hk; exact .inr (.inr (.inr ⟨hk.symm, by omega⟩))
theorem evConv_at {s d : TypeId} {x : Operand} {r : Res} (e : evConv P s d x f h = r) : (cvKd P s d = 0 → evConvP P s d x f h = r) ∧ (cvKd P s d = 1 → evConvR P s d x f h = r) ∧ (cvKd P s d = 2 → evConvQ P s d x f h = r) ∧ (3 ≤ cvKd P s d → r = .no 17) := by
  unfold evConv at e
  refine ⟨fun hc => ?_, fun hc => ?_, fun hc => ?_, fun hc => ?_⟩
  · rw [hc] at e; exact e
  · rw [hc] at e; exact e
  · rw [hc] at e; exact e
  · split at e
    · omega
    · omega
    · omega
    · exact e.symm
theorem evOp_pure (hk : kdOf P op = .pure) (e : evOp P call op f h = .ok v h') : h' = h ∧ Pu P op f v := by
  rw [evOp_eq] at e
  cases op with
  | move x => exact ⟨(evMove_s (P := P) e).1, (evMove_s e).2.1⟩
  | assign x => exact ⟨(evMove_s (P := P) e).1, (evMove_s e).2.2⟩
  | pick c a b => exact evPick_s e
  | build t ps => exact evBuild_s e
  | nilCheck x => exact evNilCheck_s e
  | binOp o t x y yt => exact evBin_s e
  | unOp o t x => exact evUn_s e
  | convert s d x =>
    rcases cvKd_of hk with ⟨_, hc⟩ | ⟨h1, _⟩ | ⟨h1, _⟩ | ⟨h1, _⟩
    · exact evConvP_s ((evConv_at (r := .ok v h') e).1 hc)
    · cases h1
    · cases h1
    · cases h1
  | slice t x lo hi mx =>
    have hk : (bif isArr P t then Kd.read else Kd.pure) = .pure := hk
    rcases bifK hk with ⟨_, h1⟩ | ⟨h1, _⟩
    · cases h1
    · exact (evSlice_s e).1 h1
  | fieldAddr s x i => exact evFieldAddr_s e
  | field s x i => exact evField_s e
  | index t x i => exact evIndex_s e
  | indexAddr t x i => exact evIndexAddr_s e
  | extract x i => exact evExtract_s e
  | makeFunc fn a b => exact evMakeFunc_s e
  | makeInterface t x => exact evMakeInterface_s e
  | typeAssert x xt at_ ok => exact evTypeAssert_s e
  | call c =>
    obtain ⟨ce, args, ts⟩ := c
    cases ce with
    | value x => cases hk
    | invoke r m => cases hk
    | builtin b =>
      cases b <;> first | (cases hk; done) | exact evMin_s e | exact evMax_s e | skip
      have hk : (bif mapTs P ts.toList then Kd.read else Kd.pure) = .pure := hk
      rcases bifK hk with ⟨_, h1⟩ | ⟨h1, _⟩
      · cases h1
      · have e : evLenA P ts.toList (opds f args.toList) h = .ok v h' := e
        unfold evLenA at e
        rw [h1] at e
        exact evLen_s e
  | _ => first | (cases hk; done) | cases e
theorem evOp_read (hk : kdOf P op = .read) (e : evOp P call op f h = .ok v h') : h' = h ∧ Rd P op f v h := by
  rw [evOp_eq] at e
  cases op with
  | load t a => exact evLoad_s e
  | lookup t x i ok => exact evLookup_s e
  | convert s d x =>
    rcases cvKd_of hk with ⟨h1, _⟩ | ⟨_, hc⟩ | ⟨h1, _⟩ | ⟨h1, _⟩
    · cases h1
    · exact evConvR_s ((evConv_at (r := .ok v h') e).2.1 hc)
    · cases h1
    · cases h1
  | slice t x lo hi mx =>
    have hk : (bif isArr P t then Kd.read else Kd.pure) = .read := hk
    rcases bifK hk with ⟨h1, _⟩ | ⟨_, h1⟩
    · exact (evSlice_s e).2 h1
    · cases h1
  | call c =>
    obtain ⟨ce, args, ts⟩ := c
    cases ce with
    | value x => cases hk
    | invoke r m => cases hk
    | builtin b =>
      cases b <;> first | (cases hk; done) | skip
      have hk : (bif mapTs P ts.toList then Kd.read else Kd.pure) = .read := hk
      rcases bifK hk with ⟨h1, _⟩ | ⟨_, h1⟩
      · have e : evLenA P ts.toList (opds f args.toList) h = .ok v h' := e
        unfold evLenA at e
        rw [h1] at e
        unfold mapTs at h1
        split at h1
        · rename_i t hts
          exact evLenM_s h1 (by apply Array.ext'; rw [hts]) e
        · cases h1
      · cases h1
  | _ => first | (cases hk; done) | cases e
theorem evOp_quiet (hk : kdOf P op = .quiet) (e : evOp P call op f h = .ok v h') : Qt P op f v h h' := by
  rw [evOp_eq] at e
  cases op with
  | alloc t => exact evAlloc_s e
  | box t x => exact evBox_s e
  | buildSlice t n ps => exact evBuildSlice_s e
  | makeSlice t l c => exact evMakeSlice_s e
  | makeMap t r => exact evMakeMap_s e
  | slice t x lo hi mx =>
    have hk : (bif isArr P t then Kd.read else Kd.pure) = .quiet := hk
    rcases bifK hk with ⟨_, h1⟩ | ⟨_, h1⟩ <;> cases h1
  | convert s d x =>
    rcases cvKd_of hk with ⟨h1, _⟩ | ⟨h1, _⟩ | ⟨_, hc⟩ | ⟨h1, _⟩
    · cases h1
    · cases h1
    · exact evConvQ_s ((evConv_at (r := .ok v h') e).2.2.1 hc)
    · cases h1
  | call c =>
    obtain ⟨ce, args, ts⟩ := c
    cases ce with
    | value x => cases hk
    | invoke r m => cases hk
    | builtin b =>
      cases b <;> first | (cases hk; done) | skip
      have hk : (bif mapTs P ts.toList then Kd.read else Kd.pure) = .quiet := hk
      rcases bifK hk with ⟨_, h1⟩ | ⟨_, h1⟩ <;> cases h1
  | _ => first | (cases hk; done) | cases e
theorem appL_eq (l m : List AV) : appL l m = l ++ m := by
  induction l with
  | nil => rfl
  | cons a l ih => exact congrArg (a :: ·) ih
theorem MvB.opS (p : MvB P op f v h h') : OpS P op f h v h' := p
/-- a call of a value -/
theorem evCallV {x : Operand} {args : Array Operand} {ts : Array TypeId} {r : Res} (hc : CallS P call) (e : evOpS P call (.call { callee := .value x, args := args, argTypes := ts }) f h = r) (hr : okR r) :
    (∃ v h', r = .ok v h' ∧ OpS P (.call { callee := .value x, args := args, argTypes := ts }) f h v h') ∨ ∃ v h', r = .pn v h' ∧ OpP P (.call { callee := .value x, args := args, argTypes := ts }) f h v h' := by
  have e2 : (match opd f x with | .fn k cap => (Nat.rec (call.run k (appL (opds f args.toList) cap) h) (fun m _ => evExt P k (Nat.succ m) (appL (opds f args.toList) cap) h) (call.ex k) : Res) | .yv id => call.rd id (opds f args.toList) h | _ => .no 37) = r := e
  clear e
  split at e2
  · rename_i k cap hx
    cases hm : call.ex k with
    | zero =>
      rw [hm] at e2
      have e2 : call.run k (appL (opds f args.toList) cap) h = r := e2
      obtain ⟨⟨fn, hf, hn, hb⟩, hg, hs⟩ := hc.run _ _ _ _ e2 hr
      have ha : ∀ {Φ : Phi} {F : Wf.Fr}, FR Φ f F → ∃ cv : List Value, fe F x = .func (.func k) #[] cv.toArray ∧ RvL Φ (appL (opds f args.toList) cap) (args.toList.map (fe F) ++ cv) := by
        intro Φ F hF
        have hr := opd_sound hF x
        rw [hx] at hr
        obtain ⟨cv, hv, hcv⟩ := hr.fnI
        have hap := (opds_sound hF args.toList).app hcv
        rw [← appL_eq] at hap
        exact ⟨cv, hv, hap⟩
      cases r with
      | no m => exact hr.elim
      | ok v h' =>
        refine .inl ⟨v, h', rfl, hg, fun Φ τ F w dst ty pos after gd hF hR hFr => ?_⟩
        obtain ⟨cv, hv, hap⟩ := ha hF
        refine St.callV hv hf hn hb rfl ((hs Φ τ w _ hR hFr hap).mono ?_)
        intro en w' hh
        cases en with
        | returned y => obtain ⟨v2, h2, e9, hh⟩ := hh; cases e9; exact hh
        | panicked ch => obtain ⟨v2, h2, e9, hh⟩ := hh; cases e9
        | outgrown => exact hh
      | pn v h' =>
        refine .inr ⟨v, h', rfl, hg, fun Φ τ F w dst ty pos after gd hF hR hFr => ?_⟩
        obtain ⟨cv, hv, hap⟩ := ha hF
        refine St.callV hv hf hn hb rfl ((hs Φ τ w _ hR hFr hap).mono ?_)
        intro en w' hh
        cases en with
        | returned y => obtain ⟨v2, h2, e9, hh⟩ := hh; cases e9
        | panicked ch => obtain ⟨v2, h2, e9, hh⟩ := hh; cases e9; exact hh
        | outgrown => exact hh
    | succ m =>
      rw [hm] at e2
      have e2 : evExt P k (m + 1) (appL (opds f args.toList) cap) h = r := e2
      have hX := hc.ex k (by rw [hm]; omega)
      rw [hm] at hX
      cases r with
      | no m => exact hr.elim
      | pn v h' => exact absurd e2 evExt_p
      | ok v h' =>
        obtain ⟨g, s⟩ := evExt_s hX e2
        refine .inl ⟨v, h', rfl, g, fun Φ τ F w dst ty pos after gd hF hR hFr => ?_⟩
        have hr := opd_sound hF x
        rw [hx] at hr
        obtain ⟨cv, hv, hcv⟩ := hr.fnI
        have hap := (opds_sound hF args.toList).app hcv
        rw [← appL_eq] at hap
        obtain ⟨y, w', q1, q2⟩ := s Φ τ w _ hR hFr hap
        unfold St
        have hrun : (execOp (fe F) ⟨dst, .call { callee := .value x, args := args, argTypes := ts }, ty, pos, after, gd⟩).run P w = .ok (.value y) w' := by
          have e3 : execOp (fe F) ⟨dst, .call { callee := .value x, args := args, argTypes := ts }, ty, pos, after, gd⟩ = (do let d ← Deferred.ofValue (fe F x) (args.map (fe F)); invoke d.target d.args) := rfl
          rw [e3, hv]
          have e4 : args.map (fe F) ++ cv.toArray = (args.toList.map (fe F) ++ cv).toArray := by apply Array.ext'; simp
          simp only [Deferred.ofValue, Sem.run_bind, Sem.run_pure, Result.andThen, invoke]
          simp only [Array.empty_append, e4]
          exact q1
        rw [hrun]
        exact q2
  · rename_i id hx
    obtain ⟨v, h', rfl, g, s⟩ := hc.rd _ _ _ _ e2 hr
    refine .inl ⟨v, h', rfl, g, fun Φ τ F w dst ty pos after gd hF hR hFr => ?_⟩
    have hrx := opd_sound hF x
    rw [hx] at hrx
    simp only [Rv] at hrx
    obtain ⟨en, hen, hv⟩ := hrx
    obtain ⟨l, gf, tmps, as, bo, q1, q2⟩ := s Φ τ w _ en hR hFr (opds_sound hF args.toList) hen
    unfold St
    have hrun : (execOp (fe F) ⟨dst, .call { callee := .value x, args := args, argTypes := ts }, ty, pos, after, gd⟩).run P w = .ok (.round l gf tmps as bo) w := by
      have e3 : execOp (fe F) ⟨dst, .call { callee := .value x, args := args, argTypes := ts }, ty, pos, after, gd⟩ = (do let d ← Deferred.ofValue (fe F x) (args.map (fe F)); invoke d.target d.args) := rfl
      rw [e3, hv]
      have e4 : args.map (fe F) = (args.toList.map (fe F)).toArray := by apply Array.ext'; simp
      simp only [Deferred.ofValue, Sem.run_bind, Sem.run_pure, Result.andThen, invoke]
      simp only [Array.empty_append, e4]
      exact q1
    rw [hrun]
    refine RoundIn.mono q2 ?_
    rintro e w' ⟨y, rfl, hh⟩
    exact hh
  · subst e2; exact hr.elim
theorem evOp_s (hc : CallS P call) (e : evOp P call op f h = .ok v h') : OpS P op f h v h' := by
  cases hk : kdOf P op with
  | pure => exact Pu.opS (evOp_pure hk e)
  | read => exact Rd.opS (evOp_read hk e)
  | quiet => exact (evOp_quiet hk e).opS
  | move =>
    rw [evOp_eq] at e
    cases op with
    | store t a x =>
      obtain ⟨g, s⟩ := evStore_s e
      refine ⟨g, fun Φ τ F w dst ty pos after gd hF hR _ => (s Φ τ F w dst ty pos after gd hF hR).mono ?_ fun _ _ h => h⟩
      rintro x w' ⟨h1, h2, h3⟩
      exact ⟨Φ, τ, h1, h2, h3⟩
    | mapUpdate t m k x => exact evMapUpdate_s e
    | insert t m k x => exact evInsert_s e
    | range t x => exact evRange_s e
    | next it st => exact evNext_s e
    | call c =>
      obtain ⟨ce, args, ts⟩ := c
      cases ce with
      | invoke r m => cases e
      | builtin b =>
        cases b <;> first | (cases hk; done) | exact evAppend_s e | exact evCopy_s e | exact evCap_s e | exact evUSData_s e | exact evUStr_s e | (cases e; done) | skip
        have hk : (bif mapTs P ts.toList then Kd.read else Kd.pure) = .move := hk
        rcases bifK hk with ⟨_, h1⟩ | ⟨_, h1⟩ <;> cases h1
      | value x =>
        rcases evCallV hc e trivial with ⟨v2, h2, e9, s⟩ | ⟨v2, h2, e9, s⟩
        · cases e9; exact s
        · cases e9
    | convert s d x =>
      rcases cvKd_of hk with ⟨h1, _⟩ | ⟨h1, _⟩ | ⟨h1, _⟩ | ⟨_, hc⟩
      · cases h1
      · cases h1
      · cases h1
      · have := (evConv_at (r := .ok v h') e).2.2.2 hc
        cases this
    | slice t x lo hi mx =>
      have hk : (bif isArr P t then Kd.read else Kd.pure) = .move := hk
      rcases bifK hk with ⟨_, h1⟩ | ⟨_, h1⟩ <;> cases h1
    | panic x =>
      have e : evPanic x f h = .ok v h' := e
      unfold evPanic at e
      split at e <;> cases e
    | _ => first | (cases hk; done) | cases e
theorem evOp_p (hc : CallS P call) (hp : canPn op = true) (e : evOp P call op f h = .pn v h') : OpP P op f h v h' := by
  rw [evOp_eq] at e
  cases op with
  | panic x =>
    have e : evPanic x f h = .pn v h' := e
    unfold evPanic at e
    split at e
    · rename_i t a hx
      cases e
      refine ⟨fun _ => Grow.refl _, fun Φ τ F w dst ty pos after gd hF hR hFr => ?_⟩
      have hr := opd_sound hF x
      rw [hx] at hr
      have hr' := hr
      simp only [Rv] at hr
      obtain ⟨y, hy, _⟩ := hr
      unfold St
      have hrun : (execOp (fe F) ⟨dst, .panic x, ty, pos, after, gd⟩).run P w = .halt (.panic (fe F x)) w := by
        have e3 : execOp (fe F) ⟨dst, .panic x, ty, pos, after, gd⟩ = (do pure (.value (← Instr.panic (fe F x)))) := rfl
        rw [e3, hy]
        rfl
      rw [hrun]
      exact ⟨_, Φ, τ, rfl, hr', hR, Tw.refl _ _ _ _ _⟩
    · cases e
  | call c =>
    obtain ⟨ce, args, ts⟩ := c
    cases ce with
    | invoke r m => cases hp
    | builtin b => cases hp
    | value x =>
      rcases evCallV hc e trivial with ⟨v2, h2, e9, s⟩ | ⟨v2, h2, e9, s⟩
      · cases e9
      · cases e9; exact s
  | _ => cases hp

/-! the operands' slots -/
theorem mem_opTmps {l : List Operand} {t : Tmp} (h : Operand.tmp t ∈ l) : t ∈ opTmps l := by
  induction l with
  | nil => cases h
  | cons o l ih =>
    cases h with
    | head => exact List.mem_cons_self
    | tail _ h =>
      have := ih h
      cases o with
      | tmp s => exact List.mem_cons_of_mem _ this
      | const _ => exact this
      | global _ => exact this
      | func _ => exact this
def Agr (f f' : Fr) (l : List Operand) : Prop := ∀ t, Operand.tmp t ∈ l → t < 4096 → getF t f = getF t f'
theorem Agr.opd {l : List Operand} {o : Operand} (a : Agr f f' l) (ho : o ∈ l) : Ev.opd f o = Ev.opd f' o := by
  cases o with
  | tmp t =>
    show (Bool.rec AV.u (getF t f) (Nat.ble (Nat.succ t) 4096) : AV) = Bool.rec AV.u (getF t f') (Nat.ble (Nat.succ t) 4096)
    cases e : Nat.ble (Nat.succ t) 4096 with
    | false => rfl
    | true => exact a t ho (Nat.le_of_ble_eq_true e)
  | const v => rfl
  | global g => rfl
  | func k => rfl
theorem Agr.opds {l m : List Operand} (a : Agr f f' l) (hm : ∀ o ∈ m, o ∈ l) : Ev.opds f m = Ev.opds f' m := by
  induction m with
  | nil => rfl
  | cons o m ih =>
    show Ev.opd f o :: Ev.opds f m = Ev.opd f' o :: Ev.opds f' m
    rw [a.opd (hm o (by simp)), ih fun o ho => hm o (by simp [ho])]
theorem Agr.fill {l : List Operand} {place : Nat → Option (Nat × Nat)} {m : List (Nat × Operand)} (a : Agr f f' l) (hm : ∀ p ∈ m, p.2 ∈ l) : fillA place f m = fillA place f' m := by
  induction m with
  | nil => rfl
  | cons p m ih =>
    have h1 := a.opd (hm p (by simp))
    have h2 := ih fun q hq => hm q (by simp [hq])
    funext cs k
    unfold fillA at h2 ⊢
    simp only
    rw [h1, h2]
theorem Agr.bnd {α : Type} {l : List Operand} {o : Option Operand} {d : Nat} {k : Nat → α} {no : α} (a : Agr f f' l) (ho : ∀ x, o = some x → x ∈ l) : Ev.bnd f o d k no = Ev.bnd f' o d k no := by
  unfold Ev.bnd
  cases o with
  | none => rfl
  | some x => simp only; rw [a.opd (ho x rfl)]
theorem evOp_agr (a : Agr f f' op.operands.toList) : evOp P call op f h = evOp P call op f' h := by
  rw [evOp_eq]
  cases op with
  | move x => show Res.ok (opd f x) h = Res.ok (opd f' x) h; rw [a.opd (by simp [Op.operands])]
  | assign x => show Res.ok (opd f x) h = Res.ok (opd f' x) h; rw [a.opd (by simp [Op.operands])]
  | pick c x y =>
    show evPick c x y f h = evPick c x y f' h
    unfold evPick
    rw [a.opd (o := c) (by simp [Op.operands]), a.opd (o := x) (by simp [Op.operands]), a.opd (o := y) (by simp [Op.operands])]
  | alloc t => rfl
  | box t x =>
    show evBox t x f h = evBox t x f' h
    unfold evBox
    rw [a.opd (o := x) (by simp [Op.operands])]
  | build t ps =>
    show evBuild P t ps f h = evBuild P t ps f' h
    unfold evBuild
    simp only [show ∀ pl, fillA pl f ps.toList = fillA pl f' ps.toList from fun pl => a.fill fun p hp => by simp [Op.operands]; exact ⟨p.1, by simpa using hp⟩]
  | buildSlice t n ps =>
    show evBuildSlice P t n ps f h = evBuildSlice P t n ps f' h
    unfold evBuildSlice
    simp only [show ∀ pl, fillA pl f ps.toList = fillA pl f' ps.toList from fun pl => a.fill fun p hp => by simp [Op.operands]; exact ⟨p.1, by simpa using hp⟩]
  | load t x =>
    show evLoad P t x f h = evLoad P t x f' h
    unfold evLoad
    rw [a.opd (o := x) (by simp [Op.operands])]
  | store t x y =>
    show evStore P t x y f h = evStore P t x y f' h
    unfold evStore
    rw [a.opd (o := x) (by simp [Op.operands]), a.opd (o := y) (by simp [Op.operands])]
  | nilCheck x =>
    show evNilCheck x f h = evNilCheck x f' h
    unfold evNilCheck
    rw [a.opd (o := x) (by simp [Op.operands])]
  | binOp o t x y yt =>
    show evBin P o t x y f h = evBin P o t x y f' h
    unfold evBin
    rw [a.opd (o := x) (by simp [Op.operands]), a.opd (o := y) (by simp [Op.operands])]
  | unOp o t x =>
    show evUn o x f h = evUn o x f' h
    unfold evUn
    rw [a.opd (o := x) (by simp [Op.operands])]
  | convert s d x =>
    show evConv P s d x f h = evConv P s d x f' h
    unfold evConv evConvP evConvR evConvQ
    rw [a.opd (o := x) (by simp [Op.operands])]
  | makeFunc fn x y =>
    show evMakeFunc fn x y f h = evMakeFunc fn x y f' h
    unfold evMakeFunc
    rw [a.opds (m := y.toList) fun o ho => by simp [Op.operands]; exact .inr (by simpa using ho)]
  | makeSlice t x y =>
    show evMakeSlice P t x y f h = evMakeSlice P t x y f' h
    unfold evMakeSlice
    rw [a.opd (o := x) (by simp [Op.operands]), a.opd (o := y) (by simp [Op.operands])]
  | slice t x lo hi mx =>
    show evSlice P t x lo hi mx f h = evSlice P t x lo hi mx f' h
    have h1 : ∀ {α : Type} {d : Nat} {k : Nat → α} {no : α}, bnd f lo d k no = bnd f' lo d k no := a.bnd fun x hx => by simp [Op.operands, hx]
    have h2 : ∀ {α : Type} {d : Nat} {k : Nat → α} {no : α}, bnd f hi d k no = bnd f' hi d k no := a.bnd fun x hx => by simp [Op.operands, hx]
    unfold evSlice evSliceP evSliceA
    rw [a.opd (o := x) (by simp [Op.operands])]
    simp only [h1, h2]
  | fieldAddr s x i =>
    show evFieldAddr P s x i f h = evFieldAddr P s x i f' h
    unfold evFieldAddr
    rw [a.opd (o := x) (by simp [Op.operands])]
  | indexAddr t x i =>
    show evIndexAddr P t x i f h = evIndexAddr P t x i f' h
    unfold evIndexAddr
    rw [a.opd (o := x) (by simp [Op.operands]), a.opd (o := i) (by simp [Op.operands])]
  | index t x i =>
    show evIndex P t x i f h = evIndex P t x i f' h
    unfold evIndex
    rw [a.opd (o := x) (by simp [Op.operands]), a.opd (o := i) (by simp [Op.operands])]
  | field s x i =>
    show evField P s x i f h = evField P s x i f' h
    unfold evField
    rw [a.opd (o := x) (by simp [Op.operands])]
  | makeInterface t x =>
    show evMakeInterface P t x f h = evMakeInterface P t x f' h
    unfold evMakeInterface
    rw [a.opd (o := x) (by simp [Op.operands])]
  | typeAssert x xt at_ ok =>
    show evTypeAssert P x at_ ok f h = evTypeAssert P x at_ ok f' h
    unfold evTypeAssert
    rw [a.opd (o := x) (by simp [Op.operands])]
  | panic x =>
    show evPanic x f h = evPanic x f' h
    unfold evPanic
    rw [a.opd (o := x) (by simp [Op.operands])]
  | range t x =>
    show evRange P t x f h = evRange P t x f' h
    unfold evRange
    rw [a.opd (o := x) (by simp [Op.operands])]
  | next x st =>
    show evNext x st f h = evNext x st f' h
    unfold evNext
    rw [a.opd (o := x) (by simp [Op.operands])]
  | lookup t x i ok =>
    show evLookup P t x i ok f h = evLookup P t x i ok f' h
    unfold evLookup
    rw [a.opd (o := x) (by simp [Op.operands]), a.opd (o := i) (by simp [Op.operands])]
  | mapUpdate t x y z =>
    show evMapUpdate P t x y z f h = evMapUpdate P t x y z f' h
    unfold evMapUpdate
    rw [a.opd (o := x) (by simp [Op.operands]), a.opd (o := y) (by simp [Op.operands]), a.opd (o := z) (by simp [Op.operands])]
  | insert t x y z =>
    show evMapUpdate P t x y z f h = evMapUpdate P t x y z f' h
    unfold evMapUpdate
    rw [a.opd (o := x) (by simp [Op.operands]), a.opd (o := y) (by simp [Op.operands]), a.opd (o := z) (by simp [Op.operands])]
  | makeMap t r =>
    show evMakeMap P t r f h = evMakeMap P t r f' h
    unfold evMakeMap
    cases r with
    | none => rfl
    | some x => simp only; rw [a.opd (o := x) (by simp [Op.operands])]
  | extract x i =>
    show evExtract x i f h = evExtract x i f' h
    unfold evExtract
    rw [a.opd (o := x) (by simp [Op.operands])]
  | call c =>
    show evCallOp P call c f h = evCallOp P call c f' h
    have h1 : opds f c.args.toList = opds f' c.args.toList := a.opds fun o ho => by simp only [Op.operands, Call.operands, Array.toList_append]; exact List.mem_append_right _ ho
    unfold evCallOp
    cases hce : c.callee with
    | builtin b => simp only; rw [h1]
    | invoke r m => rfl
    | value x =>
      simp only
      rw [h1, a.opd (o := x) (by simp [Op.operands, Call.operands, hce])]
  | _ => rfl
end
end Go.Ev
