/-
  Small tools of the walks: frames behind loops and open regions, values taken apart and put together, results, append, make.
-/
import Derived.Test.YtjadodiecjkmoaaGreatDoorCoreE
namespace Go.Wf
set_option linter.unusedVariables false
set_option linter.unusedSimpArgs false
open Go Go.RowKit

theorem lo_some {n d : Nat} (h : d < n) : lo n (some d) := h
theorem lo_none {n : Nat} : lo n none := trivial

/-! ### frames -/
def mixL (vals : List (Nat × Value)) (mods : List Nat) (f f0 : Fr) : Fr := fun t => match vals.lookup t with
  | some v => v
  | none => if mods.contains t then f t else f0 t
theorem lookup_mem : ∀ (vals : List (Nat × Value)) (t : Nat) (v : Value), vals.lookup t = some v → (t, v) ∈ vals := by
  intro vals
  induction vals with
  | nil => intro t v h; cases h
  | cons p r ih =>
    intro t v h
    obtain ⟨k, u⟩ := p
    rw [List.lookup_cons] at h
    split at h
    · rename_i e
      have e' : t = k := by simpa using e
      cases h; subst e'; exact List.mem_cons_self
    · exact List.mem_cons_of_mem _ (ih t v h)
theorem Keep.mix {mods : List Nat} {f0 f : Fr} (h : Keep mods f0 f) (vals : List (Nat × Value)) (hv : ∀ p ∈ vals, f p.1 = p.2) : ∃ f', f = mixL vals mods f' f0 := by
  refine ⟨f, ?_⟩
  funext t
  unfold mixL
  split
  · rename_i v hl
    exact hv (t, v) (lookup_mem _ _ _ hl)
  · split
    · rfl
    · rename_i hm; exact h t (by simpa using hm)
def keysIn (vals : List (Nat × Value)) (mods : List Nat) : Bool := vals.all fun p => mods.contains p.1
theorem Keep.mixL {vals : List (Nat × Value)} {mods : List Nat} {f f0 : Fr} (h : ∀ t v, vals.lookup t = some v → mods.contains t = true) : Keep mods f0 (mixL vals mods f f0) := by
  intro t ht
  unfold Wf.mixL
  split
  · rename_i v hl
    rw [h t v hl] at ht; cases ht
  · rw [ht]; rfl
theorem Keep.upd {mods : List Nat} {f f0 : Fr} {d : Nat} {v : Value} (hd : mods.contains d = true) (h : Keep mods f0 f) : Keep mods f0 (upd f d v) := by
  intro t ht
  unfold Wf.upd
  split
  · rename_i e; subst e; rw [hd] at ht; cases ht
  · exact h t ht
theorem Keep.refl {mods : List Nat} {f : Fr} : Keep mods f f := fun _ _ => rfl
theorem Keep.trans {m1 mods : List Nat} {f g h : Fr} (a : Keep mods f g) (b : Keep m1 g h) (hs : ∀ t, mods.contains t = false → m1.contains t = false) : Keep mods f h :=
  fun t ht => (b t (hs t ht)).trans (a t ht)
theorem keysNil {mods : List Nat} : ∀ t v, ([] : List (Nat × Value)).lookup t = some v → mods.contains t = true := fun _ _ h => by cases h
theorem keysCons {mods : List Nat} {d : Nat} {u : Value} {r : List (Nat × Value)} (hd : mods.contains d = true) (h : ∀ t v, r.lookup t = some v → mods.contains t = true) :
    ∀ t v, ((d, u) :: r).lookup t = some v → mods.contains t = true := by
  intro t v hl
  rw [List.lookup_cons] at hl
  split at hl
  · rename_i e
    have e' : t = d := by simpa using e
    rw [e']; exact hd
  · exact h t v hl
theorem allNil {f : Fr} : ∀ p ∈ ([] : List (Nat × Value)), f p.1 = p.2 := fun _ h => by cases h
theorem allCons {f : Fr} {d : Nat} {u : Value} {r : List (Nat × Value)} (hd : f d = u) (h : ∀ p ∈ r, f p.1 = p.2) : ∀ p ∈ (d, u) :: r, f p.1 = p.2 := by
  intro p hp
  cases hp with
  | head => exact hd
  | tail _ hp => exact h p hp

theorem Keep.mixB {vals : List (Nat × Value)} {mods : List Nat} {f f0 : Fr} (h : keysIn vals mods = true) : Keep mods f0 (Wf.mixL vals mods f f0) := by
  refine Keep.mixL fun t v hl => ?_
  unfold keysIn at h
  exact List.all_eq_true.1 h (t, v) (lookup_mem _ _ _ hl)
theorem Keep.mixS {vals : List (Nat × Value)} {m2 mods : List Nat} {f g f0 : Fr} (h : keysIn vals mods = true) (hs : (m2.all fun t => mods.contains t) = true) (k : Keep mods f0 g) : Keep mods f0 (Wf.mixL vals m2 f g) := by
  intro t ht
  unfold Wf.mixL
  split
  · rename_i v hl
    unfold keysIn at h
    have := List.all_eq_true.1 h (t, v) (lookup_mem _ _ _ hl)
    rw [ht] at this; cases this
  · split
    · rename_i hm
      have := List.all_eq_true.1 hs t (by simpa using hm)
      rw [ht] at this; cases this
    · exact k t ht
theorem Keep.updO {mods : List Nat} {f f0 : Fr} {d : Nat} {v : Value} (hd : mods.contains d = true) (h : Keep mods f0 f) : Keep mods f0 (Wf.updO f (some d) v) := Keep.upd hd h
theorem Keep.updN {mods : List Nat} {f f0 : Fr} {v : Value} (h : Keep mods f0 f) : Keep mods f0 (Wf.updO f none v) := h

theorem W.loopK {fc : Fence} {P : Program} {n : Nat} {D : List Deferred} {Q : Post} {f : Fr} {w : World} {c : Code} (mods : List Nat) (I : Nat → Fr → World → Prop) (k0 : Nat) (h0 : I k0 f w)
    (round : ∀ k f' w, Keep mods f f' → I k f' w → W fc P c n D (ThenQ (fun f'' w' => Keep mods f f'' ∧ ∃ j, j < k ∧ I j f'' w') Q) f' w) : W fc P (Code.loop c) n D Q f w := by
  refine W.loopN (fun k f' w => Keep mods f f' ∧ I k f' w) k0 ⟨Keep.refl, h0⟩ ?_
  intro k f' w h
  refine W.mono (round k f' w h.1 h.2) ?_
  intro e f'' w' q
  cases e with
  | normal => obtain ⟨hk, j, hj, hI⟩ := q; exact ⟨j, hj, hk, hI⟩
  | exit id => exact q
  | goto l => exact q
  | ret => exact q
  | panic ch => exact q
  | outgrown => exact q

/-! ### the state of a region in any order -/
abbrev Gh := (Nat → Prop) × (Nat → Prop)
structure RC (X0 : Nat → Prop) (w0 : Bs) (s : Gh) (w : World) (s' : Gh) (w' : World) : Prop where
  cx : Cx X0 w0 s'.1 s'.2 w'
  sp : Sp s.1 s.2 w s'.1 s'.2 w' nobody
theorem Sp.trans {x y x' y' x'' y'' : Nat → Prop} {a b c : World} (h : Sp x y a x' y' b nobody) (k : Sp x' y' b x'' y'' c nobody) : Sp x y a x'' y'' c nobody :=
  ⟨h.tx.trans k.tx, h.ty.trans k.ty, fun b hb => k.up b (h.up b hb), fun b hb _ => (k.same b (Nat.lt_of_lt_of_le hb h.tx.size) id).trans (h.same b hb id)⟩
theorem Sp.refl {x y : Nat → Prop} {w : World} : Sp x y w x y w nobody := ⟨Tr.refl _ _, Tr.refl _ _, fun _ h => h, fun _ _ _ => rfl⟩
theorem RC.trans {X0 : Nat → Prop} {w0 : Bs} : ∀ (s : Gh) (a : World) (t : Gh) (b : World) (u : Gh) (c : World), RC X0 w0 s a t b → RC X0 w0 t b u c → RC X0 w0 s a u c :=
  fun _ _ _ _ _ _ h k => ⟨k.cx, h.sp.trans k.sp⟩
theorem RC.draw {X0 : Nat → Prop} {w0 : Bs} {x y : Nat → Prop} {w : World} (C : Cx X0 w0 x y w) : RC X0 w0 (x, y) w (x, y) w.drew :=
  let ⟨c, s⟩ := C.next (Below.refl _ _).drew; ⟨c, s⟩
theorem RC.same {X0 : Nat → Prop} {w0 : Bs} {s : Gh} {w : World} (C : Cx X0 w0 s.1 s.2 w) : RC X0 w0 s w s w := ⟨C, Sp.refl⟩

theorem OpSt.op {P : Program} {ops : Array Oper} {f : Fr} {w : World} {K : Value → World → Prop} {Kp : List PanicEntry → World → Prop} {dst : Option Tmp} {op : Op} {ty : TypeId} {pos : String} {after : Array Edge}
    (h : St P (fe f) ⟨dst, op, ty, pos, after, none⟩ w K Kp) : OpSt P ops f ⟨dst, op, ty, pos, after, none⟩ w K Kp := by
  unfold OpSt; exact h
theorem OpSt.opg {P : Program} {ops : Array Oper} {f : Fr} {w : World} {K : Value → World → Prop} {Kp : List PanicEntry → World → Prop} {dst : Option Tmp} {op : Op} {ty : TypeId} {pos : String} {after : Array Edge} {j : Nat} {b : Bool}
    (hy : yieldedF ops f j = some b) (h : St P (fe f) ⟨dst, op, ty, pos, after, some (j, b)⟩ w K Kp) : OpSt P ops f ⟨dst, op, ty, pos, after, some (j, b)⟩ w K Kp := by
  unfold OpSt; rw [if_pos (by simp only [Region.wanted, hy, beq_self_eq_true])]; exact h
theorem OpSt.opn {P : Program} {ops : Array Oper} {f : Fr} {w : World} {K : Value → World → Prop} {Kp : List PanicEntry → World → Prop} {dst : Option Tmp} {op : Op} {ty : TypeId} {pos : String} {after : Array Edge} {j : Nat} {b c : Bool}
    (hy : yieldedF ops f j = some c) (hc : (some c == some b) = false) (h : K undef w) : OpSt P ops f ⟨dst, op, ty, pos, after, some (j, b)⟩ w K Kp := by
  unfold OpSt; rw [if_neg (by simp only [Region.wanted, hy, hc]; simp)]; exact h

/-! ### values -/
theorem RV.int {X : Nat → Prop} {w : World} {v : Value} {x : GInt} (h : RV intTy X w v x) : ∃ a c, v = .agg #[.bool x.neg, .slice a x.mag.length c] ∧ RS u32Ty X w (.slice a x.mag.length c) x.mag := by
  obtain ⟨cs, rfl, s, rfl, h⟩ := h
  obtain ⟨a, c, rfl, _⟩ := h.len
  exact ⟨a, c, rfl, h⟩
theorem mkInt {X : Nat → Prop} {w : World} {s : Value} {b : Bool} {l : List Nat} (h : RS u32Ty X w s l) : RV intTy X w (.agg #[.bool b, s]) ⟨b, l⟩ := ⟨[_, _], rfl, s, rfl, h⟩
theorem RV.rat {X : Nat → Prop} {w : World} {v : Value} {x : GRat} (h : RV ratTy X w v x) : ∃ a c a' c', v = .agg #[.bool x.num.neg, .slice a x.num.mag.length c, .bool x.den.neg, .slice a' x.den.mag.length c'] ∧
    RS u32Ty X w (.slice a x.num.mag.length c) x.num.mag ∧ RS u32Ty X w (.slice a' x.den.mag.length c') x.den.mag := by
  obtain ⟨cs, rfl, s, t, rfl, h, k⟩ := h
  obtain ⟨a, c, rfl, _⟩ := h.len
  obtain ⟨a', c', rfl, _⟩ := k.len
  exact ⟨a, c, a', c', rfl, h, k⟩
theorem mkRat {X : Nat → Prop} {w : World} {s t : Value} {b d : Bool} {l m : List Nat} (h : RS u32Ty X w s l) (k : RS u32Ty X w t m) : RV ratTy X w (.agg #[.bool b, s, .bool d, t]) ⟨⟨b, l⟩, ⟨d, m⟩⟩ := ⟨[_, _, _, _], rfl, s, t, rfl, h, k⟩
structure ExprParts (X : Nat → Prop) (w : World) (e : GExpr) (a1 : Option Addr) (c1 : Nat) (a2 : Option Addr) (c2 : Nat) (a3 : Option Addr) (c3 : Nat) (a4 : Option Addr) (c4 : Nat) : Prop where
  lo : -9223372036854775808 ≤ e.op
  hi : e.op ≤ 9223372036854775807
  name : e.name.length ≤ maxLen
  n : RS i64Ty X w (.slice a1 e.n.length c1) e.n
  num : RS u32Ty X w (.slice a2 e.c.num.mag.length c2) e.c.num.mag
  den : RS u32Ty X w (.slice a3 e.c.den.mag.length c3) e.c.den.mag
  args : RS exprTy X w (.slice a4 e.args.length c4) e.args
theorem exprTy_open {X : Nat → Prop} {w : World} {cs : List Value} {e : GExpr} (h : exprTy.rd X w cs e) : ∃ a1 c1 a2 c2 a3 c3 a4 c4, cs = [.int .i64 e.op, .slice a1 e.n.length c1, .bool e.c.num.neg, .slice a2 e.c.num.mag.length c2, .bool e.c.den.neg, .slice a3 e.c.den.mag.length c3, str e.name, .slice a4 e.args.length c4] ∧
    ExprParts X w e a1 c1 a2 c2 a3 c3 a4 c4 := by
  obtain ⟨s1, s2, s3, s4, rfl, g1, g2, g3, h1, h2, h3, h4⟩ := exprTy_iff.1 h
  obtain ⟨a1, c1, rfl, _⟩ := h1.len
  obtain ⟨a2, c2, rfl, _⟩ := h2.len
  obtain ⟨a3, c3, rfl, _⟩ := h3.len
  obtain ⟨a4, c4, rfl, _⟩ := h4.len
  exact ⟨a1, c1, a2, c2, a3, c3, a4, c4, rfl, g1, g2, g3, h1, h2, h3, h4⟩
theorem RV.expr {X : Nat → Prop} {w : World} {v : Value} {e : GExpr} (h : RV exprTy X w v e) : ∃ a1 c1 a2 c2 a3 c3 a4 c4,
    v = .agg #[.int .i64 e.op, .slice a1 e.n.length c1, .bool e.c.num.neg, .slice a2 e.c.num.mag.length c2, .bool e.c.den.neg, .slice a3 e.c.den.mag.length c3, str e.name, .slice a4 e.args.length c4] ∧
    ExprParts X w e a1 c1 a2 c2 a3 c3 a4 c4 := by
  obtain ⟨cs, rfl, h⟩ := h
  obtain ⟨a1, c1, a2, c2, a3, c3, a4, c4, rfl, h'⟩ := exprTy_open h
  exact ⟨a1, c1, a2, c2, a3, c3, a4, c4, rfl, h'⟩
theorem mkExprC {X : Nat → Prop} {w : World} {s1 s2 s3 s4 : Value} {o : Int} {b d : Bool} {nm : List UInt8} {l : List Int} {m1 m2 : List Nat} {as : List GExpr} (g1 : -9223372036854775808 ≤ o) (g2 : o ≤ 9223372036854775807) (g3 : nm.length ≤ maxLen)
    (h1 : RS i64Ty X w s1 l) (h2 : RS u32Ty X w s2 m1) (h3 : RS u32Ty X w s3 m2) (h4 : RS exprTy X w s4 as) :
    exprTy.rd X w [.int .i64 o, s1, .bool b, s2, .bool d, s3, str nm, s4] (.mk o l ⟨⟨b, m1⟩, ⟨d, m2⟩⟩ nm as) := exprTy_iff.2 ⟨s1, s2, s3, s4, rfl, g1, g2, g3, h1, h2, h3, h4⟩
theorem mkExpr {X : Nat → Prop} {w : World} {s1 s2 s3 s4 : Value} {o : Int} {b d : Bool} {nm : List UInt8} {l : List Int} {m1 m2 : List Nat} {as : List GExpr} (g1 : -9223372036854775808 ≤ o) (g2 : o ≤ 9223372036854775807) (g3 : nm.length ≤ maxLen)
    (h1 : RS i64Ty X w s1 l) (h2 : RS u32Ty X w s2 m1) (h3 : RS u32Ty X w s3 m2) (h4 : RS exprTy X w s4 as) :
    RV exprTy X w (.agg #[.int .i64 o, s1, .bool b, s2, .bool d, s3, str nm, s4]) (.mk o l ⟨⟨b, m1⟩, ⟨d, m2⟩⟩ nm as) := ⟨_, rfl, mkExprC g1 g2 g3 h1 h2 h3 h4⟩

/-! ### results -/
theorem Ret.intro {w w' : World} {Φ : Value → World → Prop} {v : Value} (h : Φ v w') (b : Bel w w') : Ret w Φ (.returned v) w' := ⟨h, ⟨b.os, b.tape, b.output, b.size, fun k hk => b.block k hk id⟩⟩
theorem RetM.intro {w w' : World} {g : Nat} {Φ : Value → World → Prop} {v : Value} (h : Φ v w') (b : Bel ⟨w, (· = g)⟩ w') : RetM w g Φ (.returned v) w' := ⟨h, b⟩
section
variable {P : Program} {fn : Func} {R : Ending → World → Prop} {f : Fr} {w : World}
theorem results_run1 {t : Nat} (hr : fn.results = #[.tmp t]) : ∀ tmps : Array Value, (∀ t, tmps.getD t undef = f t) → (results fn tmps).run P w = .ok (f t) w := by
  intro tmps ht
  have := ht t
  simp only [Array.getD_eq_getD_getElem?] at this
  simp [results, hr, this]
theorem ret_tmp {t : Nat} (hr : fn.results = #[.tmp t]) (h : R (.returned (f t)) w) : retQ P fn R .ret f w := ⟨f t, results_run1 hr, h⟩
theorem ret_end {t : Nat} (hr : fn.results = #[.tmp t]) (h : R (.returned (f t)) w) : retQ P fn R .normal f w := ⟨f t, results_run1 hr, h⟩
theorem results_run0 (hr : fn.results = #[]) : ∀ tmps : Array Value, (∀ t, tmps.getD t undef = f t) → (results fn tmps).run P w = .ok (.tuple #[]) w := by
  intro tmps ht
  simp [results, hr]
theorem ret_none (hr : fn.results = #[]) (h : R (.returned (.tuple #[])) w) : retQ P fn R .ret f w := ⟨_, results_run0 hr, h⟩
theorem ret_noneE (hr : fn.results = #[]) (h : R (.returned (.tuple #[])) w) : retQ P fn R .normal f w := ⟨_, results_run0 hr, h⟩
/-- what one result variable yields -/
def resV (f : Fr) (w : World) : ResultVar → Value → Prop
  | .tmp t, v => f t = v
  | .cell p t, v => ∃ (g o sz : Nat) (cs : List Value), f p = .pointer (some ⟨g, o, none⟩) ∧ v = .agg cs.toArray ∧ cs.length = sz ∧ aggTy P t sz = true ∧ ∀ j u, cs[j]? = some u → w.cell? ⟨g, o + j, none⟩ = some u
def resM (tmps : Array Value) : ResultVar → Sem Value
  | .tmp t => pure (tmps.getD t undef)
  | .cell a t => do loadVar t (← asAddr (tmps.getD a undef))
theorem results_eq (tmps : Array Value) : results fn tmps = (do let vs ← fn.results.mapM (resM tmps); pure (if h : vs.size = 1 then vs[0] else .tuple vs)) := by
  unfold results
  congr 1
theorem resV_run {r : ResultVar} {v : Value} (h : resV (P := P) f w r v) (tmps : Array Value) (ht : ∀ t, tmps.getD t undef = f t) :
    (resM tmps r).run P w = .ok v w := by
  unfold resM
  cases r with
  | tmp t =>
    have : f t = v := h
    simp only [Sem.run_pure, ht t, this]
  | cell p t =>
    obtain ⟨g, o, sz, cs, hp, rfl, hl, ha, hc⟩ := h
    have := run_loadCells_list (P := P) (w := w) ⟨g, o, none⟩ cs (fun j v hv => by rw [Addr.add_lit]; exact hc j v hv)
    rw [hl] at this
    simp only [ht p, hp]
    simp [asAddr, loadVar, run_isAgg_agg ha, this]
theorem results_run1c {r : ResultVar} {v : Value} (hr : fn.results = #[r]) (h : resV (P := P) f w r v) : ∀ tmps : Array Value, (∀ t, tmps.getD t undef = f t) → (results fn tmps).run P w = .ok v w := by
  intro tmps ht
  have := resV_run h tmps ht
  simp only [results_eq, hr, List.mapM_toArray, List.mapM_cons, List.mapM_nil, Sem.run_bind, Sem.run_map]
  rw [this]
  simp
theorem ret_1 {r : ResultVar} {v : Value} (hr : fn.results = #[r]) (h : resV (P := P) f w r v) (hR : R (.returned v) w) : retQ P fn R .ret f w := ⟨v, results_run1c hr h, hR⟩
theorem results_run2c {r s : ResultVar} {v u : Value} (hr : fn.results = #[r, s]) (h : resV (P := P) f w r v) (k : resV (P := P) f w s u) : ∀ tmps : Array Value, (∀ t, tmps.getD t undef = f t) → (results fn tmps).run P w = .ok (.tuple #[v, u]) w := by
  intro tmps ht
  have h1 := resV_run h tmps ht
  have h2 := resV_run k tmps ht
  simp only [results_eq, hr, List.mapM_toArray, List.mapM_cons, List.mapM_nil, Sem.run_bind, Sem.run_map]
  rw [h1]
  simp only [Result.andThen_ok]
  rw [h2]
  simp
theorem ret_2 {r s : ResultVar} {v u : Value} (hr : fn.results = #[r, s]) (h : resV (P := P) f w r v) (k : resV (P := P) f w s u) (hR : R (.returned (.tuple #[v, u])) w) : retQ P fn R .ret f w := ⟨_, results_run2c hr h k, hR⟩
theorem results_run3c {r s q : ResultVar} {v u z : Value} (hr : fn.results = #[r, s, q]) (h : resV (P := P) f w r v) (k : resV (P := P) f w s u) (m : resV (P := P) f w q z) : ∀ tmps : Array Value, (∀ t, tmps.getD t undef = f t) → (results fn tmps).run P w = .ok (.tuple #[v, u, z]) w := by
  intro tmps ht
  have h1 := resV_run h tmps ht
  have h2 := resV_run k tmps ht
  have h3 := resV_run m tmps ht
  simp only [results_eq, hr, List.mapM_toArray, List.mapM_cons, List.mapM_nil, Sem.run_bind, Sem.run_map]
  rw [h1]
  simp only [Result.andThen_ok]
  rw [h2]
  simp only [Result.andThen_ok]
  rw [h3]
  simp
theorem ret_3 {r s q : ResultVar} {v u z : Value} (hr : fn.results = #[r, s, q]) (h : resV (P := P) f w r v) (k : resV (P := P) f w s u) (m : resV (P := P) f w q z) (hR : R (.returned (.tuple #[v, u, z])) w) : retQ P fn R .ret f w := ⟨_, results_run3c hr h k m, hR⟩
theorem resV.t {t : Nat} {v : Value} (h : f t = v) : resV (P := P) f w (.tmp t) v := h
theorem resV.c {p t g sz : Nat} {w0 : Bs} {y : Nat → Prop} {cs : List Value} {T : TypeId} (hb : Own w0 y w g cs T) (hp : f p = .pointer (some ⟨g, 0, none⟩)) (ha : aggTy P t sz = true) (hl : cs.length = sz) : resV (P := P) f w (.cell p t) (.agg cs.toArray) :=
  ⟨g, 0, sz, cs, hp, rfl, hl, ha, hb.blk.cells (by simp)⟩
end

section
variable {P : Program} {ρ : Operand → Value} {dst : Option Tmp} {ty : TypeId} {pos : String} {after : Array Edge} {gd : Option (Nat × Bool)}
  {w : World} {K : Value → World → Prop} {Kp : List PanicEntry → World → Prop} {X0 x y : Nat → Prop} {w0 : Bs}
theorem St.build {t : TypeId} {parts : Array (Nat × Operand)} {ps : List (Nat × Value)} {cs : List Value} (hp : (parts.toList.map fun p => (p.1, ρ p.2)) = ps) (hb : P.built t ps = some cs.toArray) (h : K (.agg cs.toArray) w) :
    St P ρ ⟨dst, .build t parts, ty, pos, after, gd⟩ w K Kp := by
  refine St.of_run (v := .agg cs.toArray) ?_ h
  have e : (parts.map fun (i, x) => (i, ρ x)).toList = ps := by rw [← hp]; simp
  have := run_build (P := P) w t (parts.map fun (i, x) => (i, ρ x)) cs.toArray (by rw [e]; exact hb)
  simp [execOp, this]
/-- the cells of a slice literal -/
def litCells (z : Value) (sz len : Nat) (ps : List (Nat × Value)) : Option (Array Value) :=
  Instr.fill (fun i => some (i * sz, sz)) ((Array.range (len * sz)).map (z.cells[· % z.cells.size]!)) ps
theorem run_buildSlice {t e : TypeId} {z : Value} {sz by_ len : Nat} {ps : Array (Nat × Value)} {cs : List Value} (ht : P.underlying t = some (.slice e)) (hi : infoOf P e = some (z, sz, by_)) (hpos : 0 < sz) (h0 : 0 < len) (hl : len * sz ≤ 2 ^ 24)
    (hc : litCells z sz len ps.toList = some cs.toArray) : (Instr.buildSlice t len ps).run P w = .ok (.slice (some ⟨w.heap.size, 0, none⟩) len len) (w.alloc (.cells cs.toArray e (0, 0))) := by
  obtain ⟨i, hi', hz, hs, _⟩ := infoOf_parts hi
  subst hs
  have h1 : ¬ (len * i.size > 2 ^ 24) := by omega
  have h2 : ¬ (len * i.size = 0) := Nat.ne_of_gt (Nat.mul_pos h0 hpos)
  unfold litCells at hc
  simp [Instr.buildSlice, run_underlying ht, sizeOf, typeInfo, hi', h1, h2, zeroValue, hz, hc, newRow]
end
/-! ### tests that part the walk -/
section
variable {P : Program} {ρ : Operand → Value} {dst : Option Tmp} {ty : TypeId} {pos : String} {after : Array Edge} {gd : Option (Nat × Bool)}
  {w : World} {K : Value → World → Prop} {Kp : List PanicEntry → World → Prop} {x y : Operand} {xt yt : TypeId} {k : IntKind} {a b : Int}
theorem St.eql2 (hx : ρ x = .int k a) (hy : ρ y = .int k b) (ht : a = b → K (.bool true) w) (hf : ¬ a = b → K (.bool false) w) : St P ρ ⟨dst, .binOp .eql xt x y yt, ty, pos, after, gd⟩ w K Kp := by
  by_cases h : a = b
  · exact St.eql hx hy (decide_eq_true h) (ht h)
  · exact St.eql hx hy (decide_eq_false h) (hf h)
theorem St.neq2 (hx : ρ x = .int k a) (hy : ρ y = .int k b) (ht : ¬ a = b → K (.bool true) w) (hf : a = b → K (.bool false) w) : St P ρ ⟨dst, .binOp .neq xt x y yt, ty, pos, after, gd⟩ w K Kp := by
  by_cases h : a = b
  · exact St.neq hx hy (by rw [decide_eq_true h]; rfl) (hf h)
  · exact St.neq hx hy (by rw [decide_eq_false h]; rfl) (ht h)
theorem St.lss2 (hx : ρ x = .int k a) (hy : ρ y = .int k b) (ht : a < b → K (.bool true) w) (hf : ¬ a < b → K (.bool false) w) : St P ρ ⟨dst, .binOp .lss xt x y yt, ty, pos, after, gd⟩ w K Kp := by
  by_cases h : a < b
  · exact St.lss hx hy (decide_eq_true h) (ht h)
  · exact St.lss hx hy (decide_eq_false h) (hf h)
theorem St.leq2 (hx : ρ x = .int k a) (hy : ρ y = .int k b) (ht : a ≤ b → K (.bool true) w) (hf : ¬ a ≤ b → K (.bool false) w) : St P ρ ⟨dst, .binOp .leq xt x y yt, ty, pos, after, gd⟩ w K Kp := by
  by_cases h : a ≤ b
  · exact St.leq hx hy (decide_eq_true h) (ht h)
  · exact St.leq hx hy (decide_eq_false h) (hf h)
theorem St.gtr2 (hx : ρ x = .int k a) (hy : ρ y = .int k b) (ht : b < a → K (.bool true) w) (hf : ¬ b < a → K (.bool false) w) : St P ρ ⟨dst, .binOp .gtr xt x y yt, ty, pos, after, gd⟩ w K Kp := by
  by_cases h : b < a
  · exact St.gtr hx hy (decide_eq_true h) (ht h)
  · exact St.gtr hx hy (decide_eq_false h) (hf h)
theorem St.geq2 (hx : ρ x = .int k a) (hy : ρ y = .int k b) (ht : b ≤ a → K (.bool true) w) (hf : ¬ b ≤ a → K (.bool false) w) : St P ρ ⟨dst, .binOp .geq xt x y yt, ty, pos, after, gd⟩ w K Kp := by
  by_cases h : b ≤ a
  · exact St.geq hx hy (decide_eq_true h) (ht h)
  · exact St.geq hx hy (decide_eq_false h) (hf h)
theorem St.bool {o : Oper} (h : St P ρ o w (fun v w' => ∃ b, v = .bool b ∧ (b = true → K (.bool true) w') ∧ (b = false → K (.bool false) w')) Kp) : St P ρ o w K Kp := by
  refine h.mono ?_ fun _ _ h => h
  rintro v w' ⟨b, rfl, h1, h2⟩
  cases b
  · exact h2 rfl
  · exact h1 rfl
/-! strings as lists -/
theorem St.lenL {x : Operand} {t : TypeId} {s : List UInt8} (ht : P.underlying t = some .string) (hx : ρ x = str s) (h : K (.int .i64 s.length) w) :
    St P ρ ⟨dst, .call { callee := .builtin .len, args := #[x], argTypes := #[t] }, ty, pos, after, gd⟩ w K Kp := by
  refine St.lenS ht hx ?_
  have : (⟨s.toArray⟩ : ByteArray).size = s.length := by simp [ByteArray.size]
  rw [this]; exact h
theorem St.eqlL {s t : List UInt8} (hx : ρ x = str s) (hy : ρ y = str t) (ht : s = t → K (.bool true) w) (hf : ¬ s = t → K (.bool false) w) : St P ρ ⟨dst, .binOp .eql xt x y yt, ty, pos, after, gd⟩ w K Kp := by
  by_cases h : s = t
  · exact St.eqlS hx hy (by simpa using h) (ht h)
  · exact St.eqlS hx hy (by simpa using h) (hf h)
theorem St.neqL {s t : List UInt8} (hx : ρ x = str s) (hy : ρ y = str t) (ht : ¬ s = t → K (.bool true) w) (hf : s = t → K (.bool false) w) : St P ρ ⟨dst, .binOp .neq xt x y yt, ty, pos, after, gd⟩ w K Kp := by
  by_cases h : s = t
  · exact St.neqS hx hy (by simpa using h) (hf h)
  · exact St.neqS hx hy (by simpa using h) (ht h)
theorem St.addL {s t : List UInt8} (hx : ρ x = str s) (hy : ρ y = str t) (hl : s.length + t.length ≤ 9223372036854775807) (h : K (str (s ++ t)) w) : St P ρ ⟨dst, .binOp .add xt x y yt, ty, pos, after, gd⟩ w K Kp := by
  refine St.addS hx hy ?_ ?_
  · simp [ByteArray.size]; exact hl
  · have : (⟨s.toArray⟩ : ByteArray) ++ ⟨t.toArray⟩ = ⟨(s ++ t).toArray⟩ := by
      apply ByteArray.ext
      simp [ByteArray.data_append]
    rw [this]; exact h
theorem St.indexL {x i : Operand} {t : TypeId} {s : List UInt8} {k : IntKind} {a : Int} {j : Nat} {c : UInt8} (ht : P.underlying t = some .string) (hx : ρ x = str s) (hi : ρ i = .int k a) (ha : a = j) (hj : s[j]? = some c) (h : K (.int .u8 c.toNat) w) :
    St P ρ ⟨dst, .index t x i, ty, pos, after, gd⟩ w K Kp := by
  have hlt : j < s.length := by
    rcases Nat.lt_or_ge j s.length with h | h
    · exact h
    · rw [List.getElem?_eq_none h] at hj; cases hj
  refine St.indexS (j := j) ht hx hi ha (by simp [ByteArray.size]; exact hlt) ?_
  have : (⟨s.toArray⟩ : ByteArray)[j]'(by simp [ByteArray.size]; exact hlt) = c := by
    have : s[j] = c := by rw [List.getElem?_eq_getElem hlt] at hj; exact Option.some.inj hj
    rw [← this]; rfl
  rw [this]; exact h
theorem extract_list (s : List UInt8) (i j : Nat) : (⟨s.toArray⟩ : ByteArray).extract i j = ⟨((s.take j).drop i).toArray⟩ := by
  apply ByteArray.ext
  rw [ByteArray.data_extract]
  apply Array.ext'
  simp [List.drop_take]
theorem St.sliceL {x : Operand} {t : TypeId} {s : List UInt8} {l r : Operand} {kl kr : IntKind} {a b : Int} {i j : Nat} (ht : P.underlying t = some .string) (hx : ρ x = str s) (hl : ρ l = .int kl a) (hr : ρ r = .int kr b) (ha : a = i) (hb : b = j) (hij : i ≤ j) (hj : j ≤ s.length)
    (h : K (str ((s.take j).drop i)) w) : St P ρ ⟨dst, .slice t x (some l) (some r) none, ty, pos, after, gd⟩ w K Kp := by
  refine St.sliceS ht hx hl hr ha hb hij (by simp [ByteArray.size]; exact hj) ?_
  rw [extract_list]; exact h
theorem St.sliceLl {x : Operand} {t : TypeId} {s : List UInt8} {l : Operand} {kl : IntKind} {a : Int} {i : Nat} (ht : P.underlying t = some .string) (hx : ρ x = str s) (hl : ρ l = .int kl a) (ha : a = i) (hij : i ≤ s.length)
    (h : K (str (s.drop i)) w) : St P ρ ⟨dst, .slice t x (some l) none none, ty, pos, after, gd⟩ w K Kp := by
  refine St.sliceSl ht hx hl ha (by simp [ByteArray.size]; exact hij) ?_
  have : (⟨s.toArray⟩ : ByteArray).size = s.length := by simp [ByteArray.size]
  rw [extract_list, this, List.take_length]; exact h
theorem St.sliceLr {x : Operand} {t : TypeId} {s : List UInt8} {r : Operand} {kr : IntKind} {b : Int} {j : Nat} (ht : P.underlying t = some .string) (hx : ρ x = str s) (hr : ρ r = .int kr b) (hb : b = j) (hj : j ≤ s.length)
    (h : K (str (s.take j)) w) : St P ρ ⟨dst, .slice t x none (some r) none, ty, pos, after, gd⟩ w K Kp := by
  refine St.sliceSr ht hx hr hb (by simp [ByteArray.size]; exact hj) ?_
  rw [extract_list, List.drop_zero]; exact h
end
theorem RV.eqv {α : Type} {T : Ty α} {X : Nat → Prop} {w : World} {v : Value} {a b : α} (h : RV T X w v a) (e : a = b) : RV T X w v b := e ▸ h
theorem RS.eqv {α : Type} {T : Ty α} {X : Nat → Prop} {w : World} {v : Value} {a b : List α} (h : RS T X w v a) (e : a = b) : RS T X w v b := e ▸ h
theorem ExprParts.sp {x y x' y' : Nat → Prop} {w w' : World} {ch : Nat → Prop} {e : GExpr} {a1 : Option Addr} {c1 : Nat} {a2 : Option Addr} {c2 : Nat} {a3 : Option Addr} {c3 : Nat} {a4 : Option Addr} {c4 : Nat}
    (h : ExprParts x w e a1 c1 a2 c2 a3 c3 a4 c4) (s : Sp x y w x' y' w' ch) : ExprParts x' w' e a1 c1 a2 c2 a3 c3 a4 c4 := ⟨h.lo, h.hi, h.name, h.n.sp s, h.num.sp s, h.den.sp s, h.args.sp s⟩
end Go.Wf
