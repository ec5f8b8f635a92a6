/-
  The frame of the walks: a function's slots as a function from numbers to values, and the rules by which a function's code is gone through. It speaks of no program.
-/
import Derived.WalkKit
import Derived.OrdersIn
import Derived.Scope
namespace Go.Wf
set_option linter.unusedVariables false
set_option linter.unusedSimpArgs false
open Go

abbrev Fr := Nat → Value
def fe (f : Fr) : Operand → Value
  | .tmp t => f t
  | .const v => v
  | .global g => .pointer (some ⟨g, 0, none⟩)
  | .func k => .func (.func k) #[] #[]
def upd (f : Fr) (d : Nat) (v : Value) : Fr := fun t => if t = d then v else f t
def updO (f : Fr) (o : Option Tmp) (v : Value) : Fr := match o with | some d => upd f d v | none => f
def frOf (a : Act) : Fr := fun t => a.tmps.getD t undef
def lo (n : Nat) (o : Option Tmp) : Prop := match o with | some d => d < n | none => True

structure Good (n : Nat) (D : List Deferred) (a : Act) : Prop where
  size : a.tmps.size = n
  defers : a.defers = D

theorem eval_eq (a : Act) : a.eval = fe (frOf a) := by
  funext x; cases x <;> rfl

theorem frOf_put {n : Nat} {D : List Deferred} {a : Act} (h : Good n D a) (o : Option Tmp) (ho : lo n o) (v : Value) : frOf (a.put o v) = updO (frOf a) o v := by
  cases o with
  | none => rfl
  | some d =>
    have hd : d < a.tmps.size := by rw [h.size]; exact ho
    funext t
    simp only [frOf, Act.put, updO, upd, Array.getD_eq_getD_getElem?, Array.getElem?_setIfInBounds]
    by_cases e : t = d
    · subst e; simp [hd]
    · have e' : ¬ d = t := fun h => e h.symm
      simp [e, e']

theorem Good.put {n : Nat} {D : List Deferred} {a : Act} (h : Good n D a) (o : Option Tmp) (v : Value) : Good n D (a.put o v) := by
  cases o with
  | none => exact h
  | some d => exact ⟨by simp [Act.put, h.size], h.defers⟩

abbrev Post := Exit → Fr → World → Prop
/-- a fence that shuts nothing out: a call's frame, or a round's -/
class Fw (fc : Fence) : Prop where
  fn : ∀ f, fc.fn f
  depth : fc.depth = none
  calls : ∀ {n : Nat} {P : Program} {f : FuncId} {args : Array Value} {w : World} {R : Ending → World → Prop}, Calls P f args w R → CallsIn fc n P f args w R
  round : ∀ {n : Nat} {P : Program} {l : Nat} {f : FuncId} {tmps : Array Value} {a b : Code} {w : World} {R : Ending → World → Prop}, RoundIn Fence.wide n P l f tmps a b w R → RoundIn fc n P l f tmps a b w R
instance : Fw Fence.wide := ⟨fun _ => trivial, rfl, fun h => callsIn_wide.2 h, fun h => h⟩
instance (l : Nat) : Fw (Fence.wide.inRound l) := ⟨fun _ => trivial, rfl, fun h => (callsIn_wide.2 h : CallsIn Fence.wide _ _ _ _ _ _), fun h => h⟩
def W (fc : Fence) (P : Program) (c : Code) (n : Nat) (D : List Deferred) (Q : Post) (f : Fr) (w : World) : Prop :=
  ∀ a, Good n D a → frOf a = f → c.wpIn fc 0 P (fun e a' w' => Good n D a' ∧ Q e (frOf a') w') a w
theorem W.wide {P : Program} {c : Code} {n : Nat} {D : List Deferred} {Q : Post} {f : Fr} {w : World} (h : W Fence.wide P c n D Q f w) {a : Act} (ha : Good n D a) (hf : frOf a = f) : c.wp P (fun e a' w' => Good n D a' ∧ Q e (frOf a') w') a w := wpIn_wide.1 (h a ha hf)

def ThenQ (K : Fr → World → Prop) (Q : Post) : Post
  | .normal, f, w => K f w
  | e, f, w => Q e f w
def BlockQ (id : Nat) (Q : Post) : Post
  | .exit id', f, w => if id' = id then Q .normal f w else Q (.exit id') f w
  | e, f, w => Q e f w

section
variable {fc : Fence} {P : Program} {n : Nat} {D : List Deferred} {Q : Post} {f : Fr} {w : World}

theorem W.mono {c : Code} {Q' : Post} (h : W fc P c n D Q f w) (hq : ∀ e f w, Q e f w → Q' e f w) : W fc P c n D Q' f w :=
  fun a ha hf => wpIn_mono (h a ha hf) fun _ _ _ ⟨g, q⟩ => ⟨g, hq _ _ _ q⟩

theorem W.seq {x y : Code} (h : W fc P x n D (ThenQ (W fc P y n D Q) Q) f w) : W fc P (Code.seq x y) n D Q f w := by
  intro a ha hf
  refine wpIn_seq (wpIn_mono (h a ha hf) ?_)
  rintro e a' w' ⟨g, q⟩
  cases e with
  | normal => exact q a' g rfl
  | exit id => exact ⟨g, q⟩
  | goto l => exact ⟨g, q⟩
  | ret => exact ⟨g, q⟩
  | panic ch => exact ⟨g, q⟩
  | outgrown => exact ⟨g, q⟩

theorem W.skip (h : Q .normal f w) : W fc P Code.skip n D Q f w := fun a ha hf => wpIn_skip ⟨ha, by rw [hf]; exact h⟩
theorem W.ret (h : Q .ret f w) : W fc P Code.ret n D Q f w := fun a ha hf => wpIn_ret ⟨ha, by rw [hf]; exact h⟩
theorem W.exit {id : Nat} (h : Q (.exit id) f w) : W fc P (Code.exit id) n D Q f w := fun a ha hf => wpIn_exit ⟨ha, by rw [hf]; exact h⟩
theorem W.block {id : Nat} {c : Code} (h : W fc P c n D (BlockQ id Q) f w) : W fc P (Code.block id c) n D Q f w := by
  intro a ha hf
  refine wpIn_block (wpIn_mono (h a ha hf) ?_)
  rintro e a' w' ⟨g, q⟩
  cases e with
  | exit id' =>
    simp only [BlockQ] at q
    simp only [Exit.inBlock]
    split at q <;> rename_i hid
    · simp only [hid, if_true]; exact ⟨g, q⟩
    · simp only [hid, if_false]; exact ⟨g, q⟩
  | normal => exact ⟨g, q⟩
  | goto l => exact ⟨g, q⟩
  | ret => exact ⟨g, q⟩
  | panic ch => exact ⟨g, q⟩
  | outgrown => exact ⟨g, q⟩
theorem W.cond {c : Operand} {x y : Code} {t : Bool} (hc : fe f c = .bool t) (ht : t = true → W fc P x n D Q f w) (hf : t = false → W fc P y n D Q f w) :
    W fc P (Code.cond c x y) n D Q f w := by
  intro a ha he
  refine wpIn_cond_split (t := t) (by rw [eval_eq, he]; exact hc) (fun e => ht e a ha he) (fun e => hf e a ha he)
theorem W.condT {c : Operand} {x y : Code} (hc : fe f c = .bool true) (h : W fc P x n D Q f w) : W fc P (Code.cond c x y) n D Q f w :=
  W.cond hc (fun _ => h) (fun e => by cases e)
theorem W.condF {c : Operand} {x y : Code} (hc : fe f c = .bool false) (h : W fc P y n D Q f w) : W fc P (Code.cond c x y) n D Q f w :=
  W.cond hc (fun e => by cases e) (fun _ => h)

/-- A loop: the relation on slots and world at every round's head, and a measure. -/
theorem W.loop {c : Code} (I : Fr → World → Prop) (μ : Fr → World → Nat) (h0 : I f w)
    (round : ∀ f w, I f w → W fc P c n D (ThenQ (fun f' w' => I f' w' ∧ μ f' w' < μ f w) Q) f w) : W fc P (Code.loop c) n D Q f w := by
  intro a ha hf
  subst hf
  refine wpIn_loop (fun a w => Good n D a ∧ I (frOf a) w) (fun a w => μ (frOf a) w) ⟨ha, h0⟩ ?_
  rintro a w ⟨g, hI⟩
  refine wpIn_mono (round _ _ hI a g rfl) ?_
  rintro e a' w' ⟨g', q⟩
  cases e with
  | normal => exact ⟨⟨g', q.1⟩, q.2⟩
  | exit id => exact ⟨g', q⟩
  | goto l => exact ⟨g', q⟩
  | ret => exact ⟨g', q⟩
  | panic ch => exact ⟨g', q⟩
  | outgrown => exact ⟨g', q⟩

/-- A loop whose measure is told by a value that the relation bears. -/
theorem W.loopN {c : Code} (I : Nat → Fr → World → Prop) (k0 : Nat) (h0 : I k0 f w)
    (round : ∀ k f w, I k f w → W fc P c n D (ThenQ (fun f' w' => ∃ j, j < k ∧ I j f' w') Q) f w) : W fc P (Code.loop c) n D Q f w := by
  classical
  have ex : ∀ f w, (∃ k, I k f w) → ∃ k, I k f w ∧ ∀ j, I j f w → k ≤ j := by
    rintro f w ⟨k, hk⟩
    induction k using Nat.strongRecOn with
    | _ k ih =>
      by_cases h : ∃ j, j < k ∧ I j f w
      · obtain ⟨j, hj, hI⟩ := h; exact ih j hj hI
      · refine ⟨k, hk, fun j hj => ?_⟩
        rcases Nat.lt_or_ge j k with hl | hl
        · exact absurd ⟨j, hl, hj⟩ h
        · exact hl
  refine W.loop (fun f w => ∃ k, I k f w) (fun f w => if h : ∃ k, I k f w then Classical.choose (ex f w h) else 0) ⟨k0, h0⟩ ?_
  intro f w hI
  have hs := Classical.choose_spec (ex f w hI)
  refine W.mono (round _ f w hs.1) ?_
  intro e f' w' q
  cases e with
  | normal =>
    obtain ⟨j, hj, hI'⟩ := q
    have h' : ∃ k, I k f' w' := ⟨j, hI'⟩
    refine ⟨h', ?_⟩
    rw [dif_pos h', dif_pos hI]
    exact Nat.lt_of_le_of_lt ((Classical.choose_spec (ex f' w' h')).2 j hI') hj
  | exit id => exact q
  | goto l => exact q
  | ret => exact q
  | panic ch => exact q
  | outgrown => exact q

/-- A cut: what is known behind a piece of code. -/
theorem W.cut {c : Code} (M : Fr → World → Prop) (h : W fc P c n D (ThenQ M Q) f w) (k : ∀ f w, M f w → Q .normal f w) : W fc P c n D Q f w := by
  refine W.mono h ?_
  intro e f w q
  cases e with
  | normal => exact k f w q
  | exit id => exact q
  | goto l => exact q
  | ret => exact q
  | panic ch => exact q
  | outgrown => exact q
end

/-! ### operations -/

/-- One operation: K speaks of the value that it yields and of the world behind it, Kp of a panic. -/
def St (P : Program) (ρ : Operand → Value) (o : Oper) (w : World) (K : Value → World → Prop) (Kp : List PanicEntry → World → Prop) : Prop :=
  match (execOp ρ o).run P w with
  | .ok (.value v) w' => K v w'
  | .ok .skip w' => K undef w'
  | .ok (.enter g args) w' => Calls P g args w' fun
    | .returned v, w'' => K v w''
    | .panicked ch, w'' => Kp ch w''
    | .outgrown, _ => False
  | .ok (.round l g tmps assign body) w' => RoundIn Fence.wide 0 P l g tmps assign body w' fun
    | .returned v, w'' => K v w''
    | .panicked ch, w'' => Kp ch w''
    | .outgrown, _ => False
  | .halt (.panic v) w' => Kp [{ v, recovered := false }] w'
  | _ => False

theorem St.mono {P : Program} {ρ : Operand → Value} {o : Oper} {w : World} {K K' : Value → World → Prop} {Kp Kp' : List PanicEntry → World → Prop} (h : St P ρ o w K Kp)
    (hk : ∀ v w, K v w → K' v w) (hp : ∀ c w, Kp c w → Kp' c w) : St P ρ o w K' Kp' := by
  unfold St at h ⊢
  split at h
  · exact hk _ _ h
  · exact hk _ _ h
  · refine Calls.mono h ?_
    intro e w' h
    cases e with
    | returned v => exact hk _ _ h
    | panicked ch => exact hp _ _ h
    | outgrown => exact h
  · refine RoundIn.mono h ?_
    intro e w' h
    cases e with
    | returned v => exact hk _ _ h
    | panicked ch => exact hp _ _ h
    | outgrown => exact h
  · exact hp _ _ h
  · exact h.elim

def yieldedF (ops : Array Oper) (f : Fr) (j : Nat) : Option Bool :=
  match (((ops[j]?).bind (·.dst)).map f : Option Value) with
  | some (.bool b) => some b
  | _ => none

theorem yielded_eq (ops : Array Oper) (a : Act) (j : Nat) : yielded ops a.tmps j = yieldedF ops (frOf a) j := by
  unfold yielded yieldedF
  cases h : (ops[j]?).bind (·.dst) with
  | none => rfl
  | some d =>
    simp only [Option.bind_some, Option.map_some, frOf, Array.getD_eq_getD_getElem?]
    cases h2 : a.tmps[d]? with
    | none => rfl
    | some v => rfl

/-- The rest of a region, in a given order. -/
def Sq (P : Program) (ops : Array Oper) (n : Nat) (Q : Post) : List Oper → Fr → World → Prop
  | [], f, w => Q .normal f w
  | o :: r, f, w =>
    lo n o.dst ∧ (if Region.wanted o (yieldedF ops f) then St P (fe f) o w (fun v w' => Sq P ops n Q r (updO f o.dst v) w') (fun ch w' => Q (.panic ch) f w')
    else Sq P ops n Q r (updO f o.dst undef) w)

theorem St.nodefer {P : Program} {ρ : Operand → Value} {o : Oper} {w : World} {K : Value → World → Prop} {Kp : List PanicEntry → World → Prop} (h : St P ρ o w K Kp) (ro : Option Nat) : Oper.semAt ro ρ o = execOp ρ o := by
  refine Oper.semAt_eq ro ρ o fun c hc => ?_
  unfold St at h
  have e : execOp ρ o = (do pure (.defer (← resolve ρ c o.type))) := by unfold execOp; rw [hc]
  rw [e] at h
  simp only [Sem.run_bind] at h
  cases hr : (resolve ρ c o.type).run P w with
  | ok d w' => rw [hr] at h; exact h.elim
  | halt x w' =>
    rw [hr] at h
    cases x with
    | panic v =>
      -- resolving ends in no panic
      obtain ⟨ce, args, ts⟩ := c
      cases ce with
      | builtin b => simp [resolve] at hr
      | invoke r m => simp [resolve] at hr
      | value x =>
        simp only [resolve] at hr
        unfold Deferred.ofValue at hr
        split at hr <;> simp [stuck] at hr
    | _ => exact h.elim
theorem upon_of_St {fc : Fence} [Fw fc] {P : Program} {n : Nat} {D : List Deferred} {o : Oper} {a : Act} {w : World} {K : Value → World → Prop} {Kp : List PanicEntry → World → Prop}
    {next : Act → World → Prop} {Q : Exit → Act → World → Prop} (_ha : Good n D a)
    (h : St P (fe (frOf a)) o w K Kp) (hk : ∀ v w', K v w' → next (a.put o.dst v) w') (hp : ∀ c w', Kp c w' → Q (.panic c) a w') : o.wpIn fc 0 P a w next Q := by
  unfold Oper.wpIn
  refine ⟨fun f _ => Fw.fn f, ?_⟩
  rw [eval_eq, h.nodefer]
  have hd : fc.depth.isSome = true → 1 ≤ 0 := by rw [Fw.depth (fc := fc)]; intro h; cases h
  unfold St at h
  split at h
  · rename_i v w' hr; rw [hr]; exact hk _ _ h
  · rename_i w' hr; rw [hr]; exact hk _ _ h
  · rename_i g args w' hr
    rw [hr]
    refine ⟨hd, CallsIn.mono (Fw.calls h) ?_⟩
    intro e w'' h
    cases e with
    | returned v => exact hk _ _ h
    | panicked ch => exact hp _ _ h
    | outgrown => exact h.elim
  · rename_i l g tmps as bo w' hr
    rw [hr]
    refine ⟨hd, RoundIn.mono (Fw.round h) ?_⟩
    intro e w'' h
    cases e with
    | returned v => exact hk _ _ h
    | panicked ch => exact hp _ _ h
    | outgrown => exact h.elim
  · rename_i v w' hr; rw [hr]; exact hp _ _ h
  · exact h.elim

theorem wpOps_of_Sq {fc : Fence} [Fw fc] {P : Program} {n : Nat} {D : List Deferred} {ops : Array Oper} {Q : Post} :
    ∀ (l : List Nat) (a : Act) (w : World), Good n D a → Sq P ops n Q (l.filterMap fun i => ops[i]?) (frOf a) w →
      wpOpsIn fc 0 P ops (fun e a' w' => Good n D a' ∧ Q e (frOf a') w') l a w := by
  intro l
  induction l with
  | nil => intro a w ha h; exact ⟨ha, h⟩
  | cons i rest ih =>
    intro a w ha h
    simp only [wpOpsIn]
    cases ho : ops[i]? with
    | none =>
      simp only [List.filterMap_cons, ho] at h
      exact ih a w ha h
    | some o =>
      simp only [List.filterMap_cons, ho, Sq] at h
      obtain ⟨hlo, h⟩ := h
      have hy : yielded ops a.tmps = yieldedF ops (frOf a) := funext (yielded_eq ops a)
      simp only [hy]
      split at h <;> rename_i hw
      · rw [if_pos hw]
        refine upon_of_St ha h ?_ ?_
        · intro v w' hk
          exact ih _ _ (ha.put _ _) (by rw [frOf_put ha _ hlo]; exact hk)
        · intro c w' hk; exact ⟨ha, hk⟩
      · rw [if_neg hw]
        exact ⟨fun f _ => Fw.fn f, ih _ _ (ha.put _ _) (by rw [frOf_put ha _ hlo]; exact h)⟩

theorem W.region {fc : Fence} [Fw fc] {P : Program} {n : Nat} {D : List Deferred} {Q : Post} {f : Fr} {w : World} {id : Nat} {ops : Array Oper} (h : Sq P ops n Q ops.toList f w) :
    W fc P (Code.region id ops false) n D Q f w := by
  intro a ha hf
  subst hf
  refine wpIn_region (wpOps_of_Sq _ a w ha ?_)
  have : ((List.range ops.size).filterMap fun i => ops[i]?) = ops.toList := by
    apply List.ext_getElem?
    intro i
    have : ∀ (l : List Oper), ((List.range l.length).filterMap fun i => l[i]?) = l := by
      intro l
      induction l with
      | nil => rfl
      | cons x l ih =>
        rw [List.length_cons, List.range_succ_eq_map, List.filterMap_cons]
        simp only [List.getElem?_cons_zero, List.filterMap_map]
        congr 1
    have h2 := this ops.toList
    rw [Array.length_toList] at h2
    have h3 : (fun x : Nat => ops[x]?) = (fun x => ops.toList[x]?) := by funext x; simp
    rw [h3, h2]
  rw [this]; exact h

section
variable {P : Program} {ops : Array Oper} {n : Nat} {Q : Post} {r : List Oper} {f : Fr} {w : World}
theorem Sq.nil (h : Q .normal f w) : Sq P ops n Q [] f w := h
theorem Sq.op {dst : Option Tmp} {op : Op} {ty : TypeId} {pos : String} {after : Array Edge} (hlo : lo n dst)
    (h : St P (fe f) ⟨dst, op, ty, pos, after, none⟩ w (fun v w' => Sq P ops n Q r (updO f dst v) w') (fun ch w' => Q (.panic ch) f w')) :
    Sq P ops n Q (⟨dst, op, ty, pos, after, none⟩ :: r) f w := ⟨hlo, by simp only [Region.wanted, if_true]; exact h⟩
theorem Sq.opg {dst : Option Tmp} {op : Op} {ty : TypeId} {pos : String} {after : Array Edge} {j : Nat} {b : Bool} (hy : yieldedF ops f j = some b) (hlo : lo n dst)
    (h : St P (fe f) ⟨dst, op, ty, pos, after, some (j, b)⟩ w (fun v w' => Sq P ops n Q r (updO f dst v) w') (fun ch w' => Q (.panic ch) f w')) :
    Sq P ops n Q (⟨dst, op, ty, pos, after, some (j, b)⟩ :: r) f w := ⟨hlo, by simp only [Region.wanted, hy, beq_self_eq_true, if_true]; exact h⟩
theorem Sq.opn {dst : Option Tmp} {op : Op} {ty : TypeId} {pos : String} {after : Array Edge} {j : Nat} {b c : Bool} (hy : yieldedF ops f j = some c) (hc : (some c == some b) = false) (hlo : lo n dst)
    (h : Sq P ops n Q r (updO f dst undef) w) :
    Sq P ops n Q (⟨dst, op, ty, pos, after, some (j, b)⟩ :: r) f w := ⟨hlo, by simp only [Region.wanted, hy, hc]; exact h⟩
end

/-! ### a call -/
def retQ (P : Program) (fn : Func) (R : Ending → World → Prop) : Post
  | .normal, f, w | .ret, f, w => ∃ v, (∀ tmps : Array Value, (∀ t, tmps.getD t undef = f t) → (results fn tmps).run P w = .ok v w) ∧ R (.returned v) w
  | .panic chain, _, w => R (.panicked chain) w
  | _, _, _ => False

def argFr (args : List Value) : Fr := fun t => args.getD t undef

theorem Calls.ofW {P : Program} {k : FuncId} {fn : Func} {c : Code} {args : List Value} {w : World} {R : Ending → World → Prop} {n : Nat}
    (hf : P.funcs[k]? = some fn) (hb : fn.body = some c) (hn : fn.ntmps = n) (ha : args.length ≤ n)
    (h : W Fence.wide P c n [] (retQ P fn R) (argFr args) w) : Calls P k args.toArray w R := by
  refine calls_of_wp hf hb (wp_mono (W.wide h ⟨?_, rfl⟩ ?_) ?_)
  · simp [hn]; omega
  · funext t
    simp only [frOf, argFr, Array.getD_eq_getD_getElem?, List.getD_eq_getElem?_getD, Array.getElem?_append]
    by_cases ht : t < args.length
    · simp [ht]
    · simp only [List.size_toArray, ht, if_false]
      rw [List.getElem?_eq_none (by omega)]
      simp only [Array.getElem?_replicate]
      split <;> rfl
  · rintro e a w ⟨g, q⟩
    cases e with
    | normal => obtain ⟨v, h1, h2⟩ := q; exact ⟨g.defers, v, h1 _ (fun _ => rfl), h2⟩
    | ret => obtain ⟨v, h1, h2⟩ := q; exact ⟨g.defers, v, h1 _ (fun _ => rfl), h2⟩
    | panic ch => exact ⟨g.defers, q⟩
    | exit id => exact q.elim
    | goto l => exact q.elim
    | outgrown => exact q.elim
end Go.Wf
