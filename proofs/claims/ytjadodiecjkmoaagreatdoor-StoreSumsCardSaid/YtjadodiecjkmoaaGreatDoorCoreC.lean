/-
  The operations, one law each, in the frame of CoreA. Each law takes what the operands are, and hands on the value and the world.
-/
import Derived.Test.YtjadodiecjkmoaaGreatDoorCoreB
import Derived.Lib.Hide
namespace Go.Wf
set_option linter.unusedVariables false
set_option linter.unusedSimpArgs false
open Go Go.RowKit

section
variable {P : Program} {ρ : Operand → Value} {dst : Option Tmp} {ty : TypeId} {pos : String} {after : Array Edge} {gd : Option (Nat × Bool)}
  {w : World} {K : Value → World → Prop} {Kp : List PanicEntry → World → Prop}

theorem St.of_run {o : Oper} {v : Value} {w' : World} (hr : (execOp ρ o).run P w = .ok (.value v) w') (h : K v w') : St P ρ o w K Kp := by
  unfold St; rw [hr]; exact h
theorem St.of_skip {o : Oper} {w' : World} (hr : (execOp ρ o).run P w = .ok .skip w') (h : K undef w') : St P ρ o w K Kp := by
  unfold St; rw [hr]; exact h

theorem St.move {x : Operand} (h : K (ρ x) w) : St P ρ ⟨dst, .move x, ty, pos, after, gd⟩ w K Kp := St.of_run (v := ρ x) rfl h
theorem St.assign {x : Operand} (h : K (ρ x) w) : St P ρ ⟨dst, .assign x, ty, pos, after, gd⟩ w K Kp := St.of_run (v := ρ x) rfl h
theorem St.pick {c a b : Operand} {t : Bool} (hc : ρ c = .bool t) (h : K (if t then ρ a else ρ b) w) : St P ρ ⟨dst, .pick c a b, ty, pos, after, gd⟩ w K Kp := by
  refine St.of_run (v := if t then ρ a else ρ b) ?_ h
  simp [execOp, asBool, hc]

theorem binOp_run {op : BinOp} {x y : Operand} {xt yt : TypeId} {v : Value} (hg : eqGuard op xt x y (ρ x) (ρ y) = pure ()) (hr : (binOp op xt (ρ x) (ρ y)).run P w = .ok v w) (h : K v w) :
    St P ρ ⟨dst, .binOp op xt x y yt, ty, pos, after, gd⟩ w K Kp := by
  refine St.of_run (v := v) ?_ h
  simp [execOp, hg, hr]

theorem listBeq (a b : List UInt8) : (a == b) = decide (a = b) := by rw [Bool.eq_iff_iff]; simp

section
variable {x y : Operand} {xt yt : TypeId} {k : IntKind} {a b z : Int}
theorem St.add (hx : ρ x = .int k a) (hy : ρ y = .int k b) (hz : k.wrap (a + b) = z) (h : K (.int k z) w) : St P ρ ⟨dst, .binOp .add xt x y yt, ty, pos, after, gd⟩ w K Kp := by
  subst hz; refine binOp_run (by rfl) ?_ h; rw [hx, hy, binOp_add]; rfl
theorem St.sub (hx : ρ x = .int k a) (hy : ρ y = .int k b) (hz : k.wrap (a - b) = z) (h : K (.int k z) w) : St P ρ ⟨dst, .binOp .sub xt x y yt, ty, pos, after, gd⟩ w K Kp := by
  subst hz; refine binOp_run (by rfl) ?_ h; rw [hx, hy, binOp_sub]; rfl
theorem St.mul (hx : ρ x = .int k a) (hy : ρ y = .int k b) (hz : k.wrap (a * b) = z) (h : K (.int k z) w) : St P ρ ⟨dst, .binOp .mul xt x y yt, ty, pos, after, gd⟩ w K Kp := by
  subst hz; refine binOp_run (by rfl) ?_ h; rw [hx, hy, binOp_mul]; rfl
theorem St.quo (hx : ρ x = .int k a) (hy : ρ y = .int k b) (hb : b ≠ 0) (hz : k.wrap (a.tdiv b) = z) (h : K (.int k z) w) : St P ρ ⟨dst, .binOp .quo xt x y yt, ty, pos, after, gd⟩ w K Kp := by
  subst hz; refine binOp_run (by rfl) ?_ h; rw [hx, hy, binOp_quo]; simp [Op.intDiv, hb]
theorem St.rem (hx : ρ x = .int k a) (hy : ρ y = .int k b) (hb : b ≠ 0) (hz : a.tmod b = z) (h : K (.int k z) w) : St P ρ ⟨dst, .binOp .rem xt x y yt, ty, pos, after, gd⟩ w K Kp := by
  subst hz; refine binOp_run (by rfl) ?_ h; rw [hx, hy, binOp_rem]; simp [Op.intDiv, hb]
theorem St.shl {yk : IntKind} (hx : ρ x = .int k a) (hy : ρ y = .int yk b) (hb : 0 ≤ b) (hz : k.wrap (a * 2 ^ min b.toNat k.bits) = z) (h : K (.int k z) w) : St P ρ ⟨dst, .binOp .shl xt x y yt, ty, pos, after, gd⟩ w K Kp := by
  subst hz; refine binOp_run (by rfl) ?_ h; rw [hx, hy, binOp_shl, shift_shl_any _ _ _ _ hb]; rfl
theorem St.shr {yk : IntKind} (hx : ρ x = .int k a) (hy : ρ y = .int yk b) (hb : 0 ≤ b) (hz : a / 2 ^ min b.toNat k.bits = z) (h : K (.int k z) w) : St P ρ ⟨dst, .binOp .shr xt x y yt, ty, pos, after, gd⟩ w K Kp := by
  subst hz; refine binOp_run (by rfl) ?_ h; rw [hx, hy, binOp_shr, shift_shr_any _ _ _ _ hb]; rfl
theorem St.and (hx : ρ x = .int k a) (hy : ρ y = .int k b) (hz : k.wrap (BitVec.ofInt k.bits a &&& BitVec.ofInt k.bits b).toNat = z) (h : K (.int k z) w) : St P ρ ⟨dst, .binOp .and xt x y yt, ty, pos, after, gd⟩ w K Kp := by
  subst hz; refine binOp_run (by rfl) ?_ h; rw [hx, hy, binOp_and]; rfl
theorem St.or (hx : ρ x = .int k a) (hy : ρ y = .int k b) (hz : k.wrap (BitVec.ofInt k.bits a ||| BitVec.ofInt k.bits b).toNat = z) (h : K (.int k z) w) : St P ρ ⟨dst, .binOp .or xt x y yt, ty, pos, after, gd⟩ w K Kp := by
  subst hz; refine binOp_run (by rfl) ?_ h; rw [hx, hy, binOp_or]; rfl
theorem St.eql {t : Bool} (hx : ρ x = .int k a) (hy : ρ y = .int k b) (hz : decide (a = b) = t) (h : K (.bool t) w) : St P ρ ⟨dst, .binOp .eql xt x y yt, ty, pos, after, gd⟩ w K Kp := by
  refine binOp_run (v := .bool t) ?_ ?_ h
  · rw [hx]; rfl
  · rw [hx, hy, binOp_eql, ← hz]; rfl
theorem St.neq {t : Bool} (hx : ρ x = .int k a) (hy : ρ y = .int k b) (hz : (!decide (a = b)) = t) (h : K (.bool t) w) : St P ρ ⟨dst, .binOp .neq xt x y yt, ty, pos, after, gd⟩ w K Kp := by
  refine binOp_run (v := .bool t) ?_ ?_ h
  · rw [hx]; rfl
  · rw [hx, hy, binOp_neq, ← hz]; rfl
theorem St.lss {t : Bool} (hx : ρ x = .int k a) (hy : ρ y = .int k b) (hz : decide (a < b) = t) (h : K (.bool t) w) : St P ρ ⟨dst, .binOp .lss xt x y yt, ty, pos, after, gd⟩ w K Kp := by
  subst hz; refine binOp_run (by rfl) ?_ h; rw [hx, hy, binOp_lss]; rfl
theorem St.leq {t : Bool} (hx : ρ x = .int k a) (hy : ρ y = .int k b) (hz : decide (a ≤ b) = t) (h : K (.bool t) w) : St P ρ ⟨dst, .binOp .leq xt x y yt, ty, pos, after, gd⟩ w K Kp := by
  subst hz; refine binOp_run (by rfl) ?_ h; rw [hx, hy, binOp_leq]; rfl
theorem St.gtr {t : Bool} (hx : ρ x = .int k a) (hy : ρ y = .int k b) (hz : decide (b < a) = t) (h : K (.bool t) w) : St P ρ ⟨dst, .binOp .gtr xt x y yt, ty, pos, after, gd⟩ w K Kp := by
  subst hz; refine binOp_run (by rfl) ?_ h; rw [hx, hy, binOp_gtr]; rfl
theorem St.geq {t : Bool} (hx : ρ x = .int k a) (hy : ρ y = .int k b) (hz : decide (b ≤ a) = t) (h : K (.bool t) w) : St P ρ ⟨dst, .binOp .geq xt x y yt, ty, pos, after, gd⟩ w K Kp := by
  subst hz; refine binOp_run (by rfl) ?_ h; rw [hx, hy, binOp_geq]; rfl
theorem St.neg (hx : ρ x = .int k a) (hz : k.wrap (0 - a) = z) (h : K (.int k z) w) : St P ρ ⟨dst, .unOp .neg xt x, ty, pos, after, gd⟩ w K Kp := by
  subst hz
  refine St.of_run (v := .int k (k.wrap (0 - a))) ?_ h
  simp [execOp, hx, Op.unary, Op.intArith]
theorem St.not {t : Bool} (hx : ρ x = .bool t) (h : K (.bool (!t)) w) : St P ρ ⟨dst, .unOp .not xt x, ty, pos, after, gd⟩ w K Kp := by
  refine St.of_run (v := .bool (!t)) ?_ h
  simp [execOp, hx, Op.unary]
theorem St.eqlB {s t u : Bool} (hT : P.underlying xt = some .bool) (hx : ρ x = .bool s) (hy : ρ y = .bool t) (hz : (s == t) = u) (h : K (.bool u) w) : St P ρ ⟨dst, .binOp .eql xt x y yt, ty, pos, after, gd⟩ w K Kp := by
  refine binOp_run (v := .bool u) ?_ ?_ h
  · rw [hx]; rfl
  · rw [hx, hy, run_eql_bool w xt s t hT, hz]
theorem St.neqB {s t u : Bool} (hT : P.underlying xt = some .bool) (hx : ρ x = .bool s) (hy : ρ y = .bool t) (hz : (s != t) = u) (h : K (.bool u) w) : St P ρ ⟨dst, .binOp .neq xt x y yt, ty, pos, after, gd⟩ w K Kp := by
  refine binOp_run (v := .bool u) ?_ ?_ h
  · rw [hx]; rfl
  · rw [hx, hy, run_neq_bool w xt s t hT, ← hz]; rfl
theorem St.eqlS {s t : ByteArray} {u : Bool} (hx : ρ x = .string s) (hy : ρ y = .string t) (hz : decide (s.data.toList = t.data.toList) = u) (h : K (.bool u) w) : St P ρ ⟨dst, .binOp .eql xt x y yt, ty, pos, after, gd⟩ w K Kp := by
  refine binOp_run (v := .bool u) ?_ ?_ h
  · rw [hx]; rfl
  · rw [hx, hy, binOp_string_eql, ← hz, ByteArray.toList_eq, ByteArray.toList_eq, listBeq]; rfl
theorem St.neqS {s t : ByteArray} {u : Bool} (hx : ρ x = .string s) (hy : ρ y = .string t) (hz : (!decide (s.data.toList = t.data.toList)) = u) (h : K (.bool u) w) : St P ρ ⟨dst, .binOp .neq xt x y yt, ty, pos, after, gd⟩ w K Kp := by
  refine binOp_run (v := .bool u) ?_ ?_ h
  · rw [hx]; rfl
  · rw [hx, hy, binOp_string_neq, ← hz, ByteArray.toList_eq, ByteArray.toList_eq, listBeq]; rfl
theorem St.lssS {s t : ByteArray} {u : Bool} (hx : ρ x = .string s) (hy : ρ y = .string t) (hz : Op.bytesLess s.data.toList t.data.toList = u) (h : K (.bool u) w) : St P ρ ⟨dst, .binOp .lss xt x y yt, ty, pos, after, gd⟩ w K Kp := by
  refine binOp_run (v := .bool u) ?_ ?_ h
  · rw [hx]; rfl
  · rw [hx, hy, binOp_string_lss, ← hz, ByteArray.toList_eq, ByteArray.toList_eq]; rfl
theorem St.addS {s t : ByteArray} (hx : ρ x = .string s) (hy : ρ y = .string t) (hl : s.size + t.size ≤ 9223372036854775807) (h : K (.string (s ++ t)) w) : St P ρ ⟨dst, .binOp .add xt x y yt, ty, pos, after, gd⟩ w K Kp := by
  refine binOp_run (v := .string (s ++ t)) ?_ ?_ h
  · rw [hx]; rfl
  · rw [hx, hy, binOp_string_add]
    have : ¬ (((s.size + t.size : Nat) : Int) > IntKind.i64.max) := by rw [IntKind.max_i64]; omega
    simp only [Op.stringOp, this, if_false]; rfl
end

/-! conversions -/
theorem St.conv {src d : TypeId} {x : Operand} {k j : IntKind} {a z : Int} (hs : (P.underlying src).isSome = true) (hd : P.underlying d = some (.int j)) (hx : ρ x = .int k a) (hz : j.wrap a = z) (h : K (.int j z) w) :
    St P ρ ⟨dst, .convert src d x, ty, pos, after, gd⟩ w K Kp := by
  subst hz
  refine St.of_run (v := .int j (j.wrap a)) ?_ h
  obtain ⟨dd, hd'⟩ := Option.isSome_iff_exists.mp hs
  simp [execOp, hx, convert, run_underlying hd', run_underlying hd, Conv.intToInt]

/-! len, min, max -/
theorem St.len {x : Operand} {t e : TypeId} {a : Option Addr} {n c : Nat} (ht : P.underlying t = some (.slice e)) (hx : ρ x = .slice a n c) (h : K (.int .i64 n) w) :
    St P ρ ⟨dst, .call { callee := .builtin .len, args := #[x], argTypes := #[t] }, ty, pos, after, gd⟩ w K Kp := by
  refine St.of_run (v := .int .i64 n) ?_ h
  simp [execOp, resolve, invoke, builtin, Builtin.len_, run_underlying ht, hx, goInt]
theorem St.lenS {x : Operand} {t : TypeId} {s : ByteArray} (ht : P.underlying t = some .string) (hx : ρ x = .string s) (h : K (.int .i64 s.size) w) :
    St P ρ ⟨dst, .call { callee := .builtin .len, args := #[x], argTypes := #[t] }, ty, pos, after, gd⟩ w K Kp := by
  refine St.of_run (v := .int .i64 s.size) ?_ h
  simp [execOp, resolve, invoke, builtin, Builtin.len_, run_underlying ht, hx, goInt]
theorem St.max {x y : Operand} {ts : Array TypeId} {k k' : IntKind} {a b z : Int} (hx : ρ x = .int k a) (hy : ρ y = .int k' b) (hz : (if b > a then b else a) = z) (h : K (.int k z) w) :
    St P ρ ⟨dst, .call { callee := .builtin .max, args := #[x, y], argTypes := ts }, ty, pos, after, gd⟩ w K Kp := by
  subst hz
  refine St.of_run (v := .int k (if b > a then b else a)) ?_ h
  simp [execOp, resolve, invoke, builtin, hx, hy, run_max_int2]
theorem St.min {x y : Operand} {ts : Array TypeId} {k k' : IntKind} {a b z : Int} (hx : ρ x = .int k a) (hy : ρ y = .int k' b) (hz : (if b < a then b else a) = z) (h : K (.int k z) w) :
    St P ρ ⟨dst, .call { callee := .builtin .min, args := #[x, y], argTypes := ts }, ty, pos, after, gd⟩ w K Kp := by
  subst hz
  refine St.of_run (v := .int k (if b < a then b else a)) ?_ h
  simp [execOp, resolve, invoke, builtin, hx, hy, run_min_int2]

/-! tuples -/
theorem St.extract {x : Operand} {i : Nat} {vs : Array Value} {v : Value} (hx : ρ x = .tuple vs) (hv : vs[i]? = some v) (h : K v w) : St P ρ ⟨dst, .extract x i, ty, pos, after, gd⟩ w K Kp := by
  refine St.of_run (v := v) ?_ h
  simp [execOp, hx, Instr.extract, hv]

/-! calls -/
theorem St.call {k : FuncId} {args : Array Operand} {ts : Array TypeId} {vs : List Value} {fn : Func} (hf : P.funcs[k]? = some fn) (hn : (fn.name == "runtime.NumGoroutine") = false) (hb : fn.body.isNone = false)
    (ha : args.toList.map ρ = vs) (h : Calls P k vs.toArray w fun
      | .returned v, w' => K v w'
      | .panicked ch, w' => Kp ch w'
      | .outgrown, _ => False) (he : ρ (.func k) = .func (.func k) #[] #[]) :
    St P ρ ⟨dst, .call { callee := .value (.func k), args := args, argTypes := ts }, ty, pos, after, gd⟩ w K Kp := by
  unfold St
  have hr : (execOp ρ ⟨dst, .call { callee := .value (.func k), args := args, argTypes := ts }, ty, pos, after, gd⟩).run P w = .ok (.enter k vs.toArray) w := by
    have ha' : args.map ρ = vs.toArray := by rw [← ha]; apply Array.ext'; simp
    have hn' : ¬ fn.name = "runtime.NumGoroutine" := by intro e; rw [e] at hn; simp at hn
    simp [execOp, resolve, Deferred.ofValue, he, invoke, callFunc, hf, ha', hn']
    intro e; rw [e] at hb; cases hb
  rw [hr]; exact h

theorem St.callV {x : Operand} {k : FuncId} {cap : Array Value} {args : Array Operand} {ts : Array TypeId} {vs : List Value} {fn : Func} (hx : ρ x = .func (.func k) #[] cap) (hf : P.funcs[k]? = some fn) (hn : (fn.name == "runtime.NumGoroutine") = false) (hb : fn.body.isNone = false)
    (ha : args.toList.map ρ ++ cap.toList = vs) (h : Calls P k vs.toArray w fun
      | .returned v, w' => K v w'
      | .panicked ch, w' => Kp ch w'
      | .outgrown, _ => False) :
    St P ρ ⟨dst, .call { callee := .value x, args := args, argTypes := ts }, ty, pos, after, gd⟩ w K Kp := by
  unfold St
  have hr : (execOp ρ ⟨dst, .call { callee := .value x, args := args, argTypes := ts }, ty, pos, after, gd⟩).run P w = .ok (.enter k vs.toArray) w := by
    have ha' : args.map ρ ++ cap = vs.toArray := by rw [← ha]; apply Array.ext'; simp
    have hn' : ¬ fn.name = "runtime.NumGoroutine" := by intro e; rw [e] at hn; simp at hn
    simp [execOp, resolve, Deferred.ofValue, hx, invoke, callFunc, hf, ha', hn']
    intro e; rw [e] at hb; cases hb
  rw [hr]; exact h

/-! panics -/
theorem St.panic {x : Operand} {t : TypeId} {v : Value} (hx : ρ x = .iface t v) (h : Kp [{ v := .iface t v, recovered := false }] w) : St P ρ ⟨dst, .panic x, ty, pos, after, gd⟩ w K Kp := by
  unfold St
  have hr : (execOp ρ ⟨dst, .panic x, ty, pos, after, gd⟩).run P w = .halt (.panic (.iface t v)) w := by
    simp [execOp, hx, Instr.panic]
  rw [hr]; exact h
theorem St.makeInterface {x : Operand} {t : TypeId} (ht : P.concrete t = true) (h : K (.iface t (ρ x)) w) : St P ρ ⟨dst, .makeInterface t x, ty, pos, after, gd⟩ w K Kp := by
  refine St.of_run (v := .iface t (ρ x)) ?_ h
  simp [execOp, run_makeInterface w t (ρ x) ht]

/-! strings -/
theorem St.indexS {x i : Operand} {t : TypeId} {s : ByteArray} {k : IntKind} {a : Int} {j : Nat} (ht : P.underlying t = some .string) (hx : ρ x = .string s) (hi : ρ i = .int k a) (ha : a = j) (hj : j < s.size) (h : K (.int .u8 (s[j]'hj).toNat) w) :
    St P ρ ⟨dst, .index t x i, ty, pos, after, gd⟩ w K Kp := by
  subst ha
  refine St.of_run (v := .int .u8 (s[j]'hj).toNat) ?_ h
  have : s[j]? = some (s[j]'hj) := ByteArray.getElem?_lt' s j hj
  simp [execOp, hx, hi, Instr.index, asIntOf, run_underlying ht, this]
theorem St.sliceS {x : Operand} {t : TypeId} {s : ByteArray} {l r : Operand} {kl kr : IntKind} {a b : Int} {i j : Nat} (ht : P.underlying t = some .string) (hx : ρ x = .string s) (hl : ρ l = .int kl a) (hr : ρ r = .int kr b) (ha : a = i) (hb : b = j) (hij : i ≤ j) (hj : j ≤ s.size)
    (h : K (.string (s.extract i j)) w) : St P ρ ⟨dst, .slice t x (some l) (some r) none, ty, pos, after, gd⟩ w K Kp := by
  subst ha; subst hb
  refine St.of_run (v := .string (s.extract i j)) ?_ h
  simp [execOp, hx, hl, hr, Instr.sliceAt, Instr.slice, run_underlying ht, Instr.sliceBounds, Instr.sliceBound, asIntOf, hij, hj]
theorem St.sliceSl {x : Operand} {t : TypeId} {s : ByteArray} {l : Operand} {kl : IntKind} {a : Int} {i : Nat} (ht : P.underlying t = some .string) (hx : ρ x = .string s) (hl : ρ l = .int kl a) (ha : a = i) (hij : i ≤ s.size)
    (h : K (.string (s.extract i s.size)) w) : St P ρ ⟨dst, .slice t x (some l) none none, ty, pos, after, gd⟩ w K Kp := by
  subst ha
  refine St.of_run (v := .string (s.extract i s.size)) ?_ h
  simp [execOp, hx, hl, Instr.sliceAt, Instr.slice, run_underlying ht, Instr.sliceBounds, Instr.sliceBound, asIntOf, hij]
theorem St.sliceSr {x : Operand} {t : TypeId} {s : ByteArray} {r : Operand} {kr : IntKind} {b : Int} {j : Nat} (ht : P.underlying t = some .string) (hx : ρ x = .string s) (hr : ρ r = .int kr b) (hb : b = j) (hj : j ≤ s.size)
    (h : K (.string (s.extract 0 j)) w) : St P ρ ⟨dst, .slice t x none (some r) none, ty, pos, after, gd⟩ w K Kp := by
  subst hb
  refine St.of_run (v := .string (s.extract 0 j)) ?_ h
  simp [execOp, hx, hr, Instr.sliceAt, Instr.slice, run_underlying ht, Instr.sliceBounds, Instr.sliceBound, asIntOf, hj]

/-! addresses -/
theorem St.nilCheck {x : Operand} {a : Addr} (hx : ρ x = .pointer (some a)) (h : K (.pointer (some a)) w) : St P ρ ⟨dst, .nilCheck x, ty, pos, after, gd⟩ w K Kp := by
  refine St.of_run (v := .pointer (some a)) ?_ h
  simp [execOp, hx]
/-- of a struct's field: where it lies, and that it has a size -/
def fieldOff (P : Program) (s : TypeId) (i : Nat) : Option Nat :=
  match P.underlying s with
  | some (.struct fs) => match fs[i]? with
    | some f => match P.info? f.type with
      | some inf => if inf.size = 0 then none else some f.offset
      | none => none
    | none => none
  | _ => none
theorem St.fieldAddr {x : Operand} {s i off : Nat} {b o : Nat} (hs : fieldOff P s i = some off) (hx : ρ x = .pointer (some ⟨b, o, none⟩)) (h : K (.pointer (some ⟨b, o + off, none⟩)) w) :
    St P ρ ⟨dst, .fieldAddr s x i, ty, pos, after, gd⟩ w K Kp := by
  refine St.of_run (v := .pointer (some ⟨b, o + off, none⟩)) ?_ h
  unfold fieldOff at hs
  split at hs
  · rename_i fs hu
    split at hs
    · rename_i f hf
      split at hs
      · rename_i inf hi
        split at hs
        · cases hs
        · rename_i hz
          cases hs
          simp [execOp, hx, Instr.fieldAt, run_underlying hu, hf, Instr.sureAddr, fieldPlace, sizeOf, typeInfo, hi, hz, Addr.add_lit]
      · cases hs
    · cases hs
  · cases hs
theorem St.indexAddr {x i : Operand} {t e sz : Nat} {b o n c : Nat} {k : IntKind} {a : Int} {j : Nat} {inf : TypeInfo} (ht : P.underlying t = some (.slice e)) (hi : P.info? e = some inf) (hsz : inf.size = sz)
    (hx : ρ x = .slice (some ⟨b, o, none⟩) n c) (hy : ρ i = .int k a) (ha : a = j) (hj : j < n) (h : K (.pointer (some ⟨b, o + j * sz, none⟩)) w) :
    St P ρ ⟨dst, .indexAddr t x i, ty, pos, after, gd⟩ w K Kp := by
  subst ha; subst hsz
  refine St.of_run (v := .pointer (some ⟨b, o + j * inf.size, none⟩)) ?_ h
  simp [execOp, hx, hy, Instr.indexAt, asIntOf, run_underlying ht, sizeOf, typeInfo, hi, hj, Addr.add_lit]

/-! loads and stores -/
def plainTy (P : Program) (t : TypeId) : Bool := match P.underlying t with
  | none | some (.struct _) | some (.array _ _) => false
  | some _ => true
def aggTy (P : Program) (t : TypeId) (sz : Nat) : Bool := (match P.underlying t with
  | some (.struct _) | some (.array _ _) => true
  | _ => false) && (match P.info? t with | some i => i.size == sz | none => false)
theorem run_isAgg_plain {t : TypeId} (h : plainTy P t = true) : (isAgg t).run P w = .ok false w := by
  unfold plainTy at h
  split at h
  · cases h
  · cases h
  · cases h
  · rename_i d h1 h2 hu
    simp only [isAgg, Sem.run_bind, run_underlying hu, Result.andThen_ok]
    cases d <;> first | rfl | (exfalso; first | exact h1 _ rfl | exact h2 _ _ rfl)
theorem run_isAgg_agg {t : TypeId} {sz : Nat} (h : aggTy P t sz = true) : (isAgg t).run P w = .ok true w ∧ (sizeOf t).run P w = .ok sz w := by
  simp only [aggTy, Bool.and_eq_true] at h
  obtain ⟨h1, h2⟩ := h
  constructor
  · split at h1
    · rename_i hu; simp [isAgg, run_underlying hu]
    · rename_i hu; simp [isAgg, run_underlying hu]
    · cases h1
  · split at h2
    · rename_i i hi
      have : i.size = sz := by simpa using h2
      simp [sizeOf, typeInfo, hi, this]
    · cases h2
theorem St.load1 {x : Operand} {t : TypeId} {a : Addr} {v : Value} (ht : plainTy P t = true) (hx : ρ x = .pointer (some a)) (hc : w.cell? a = some v) (h : K v w) :
    St P ρ ⟨dst, .load t x, ty, pos, after, gd⟩ w K Kp := by
  refine St.of_run (v := v) ?_ h
  simp [execOp, hx, Instr.loadAt, Instr.sureAddr, loadVar, run_isAgg_plain ht, hc]
theorem St.loadA {x : Operand} {t : TypeId} {sz b o : Nat} {cs : List Value} (ht : aggTy P t sz = true) (hx : ρ x = .pointer (some ⟨b, o, none⟩)) (hl : cs.length = sz)
    (hc : ∀ j v, cs[j]? = some v → w.cell? ⟨b, o + j, none⟩ = some v) (h : K (.agg cs.toArray) w) :
    St P ρ ⟨dst, .load t x, ty, pos, after, gd⟩ w K Kp := by
  refine St.of_run (v := .agg cs.toArray) ?_ h
  have := run_loadCells_list (P := P) (w := w) ⟨b, o, none⟩ cs (fun j v hv => by rw [Addr.add_lit]; exact hc j v hv)
  rw [hl] at this
  simp [execOp, hx, Instr.loadAt, Instr.sureAddr, loadVar, run_isAgg_agg ht, this]

/-- a block whose cells are known -/
def Blk (w : World) (g : Nat) (C : List Value) (T : TypeId) : Prop := w.heap[g]? = some (.cells C.toArray T (0, 0))
theorem Blk.cell {g : Nat} {C : List Value} {T : TypeId} (h : Blk w g C T) {j : Nat} {v : Value} (hv : C[j]? = some v) : w.cell? ⟨g, j, none⟩ = some v := by
  rw [cell_of_row w g j C.toArray T (0, 0) h]; simpa using hv
theorem Blk.cells {g : Nat} {C : List Value} {T : TypeId} (h : Blk w g C T) {o : Nat} {cs : List Value} (hcs : (C.drop o).take cs.length = cs) : ∀ j v, cs[j]? = some v → w.cell? ⟨g, o + j, none⟩ = some v := by
  intro j v hv
  refine h.cell ?_
  rw [← hcs, List.getElem?_take] at hv
  split at hv
  · rw [List.getElem?_drop] at hv; exact hv
  · cases hv
theorem Blk.lt {g : Nat} {C : List Value} {T : TypeId} (h : Blk w g C T) : g < w.heap.size := (Array.getElem?_eq_some_iff.1 h).1
theorem Blk.same {g : Nat} {C : List Value} {T : TypeId} {w' : World} (h : Blk w g C T) (hs : w'.heap[g]? = w.heap[g]?) : Blk w' g C T := by unfold Blk; rw [hs]; exact h
def setBlk (w : World) (g : Nat) (C : List Value) : World := w.setRow g C.toArray
theorem Blk.set {g : Nat} {C C' : List Value} {T : TypeId} (h : Blk w g C T) : Blk (setBlk w g C') g C' T := setRow_heap w g _ _ T (0, 0) h
theorem setBlk_other {g k : Nat} {C : List Value} (h : k ≠ g) : (setBlk w g C).heap[k]? = w.heap[k]? := setRow_other w g k _ h

theorem St.store {x y : Operand} {t : TypeId} {sz g o : Nat} {inf : TypeInfo} {C : List Value} {T : TypeId} {vs : List Value} (hi : P.info? t = some inf) (hsz : inf.size = sz)
    (hx : ρ x = .pointer (some ⟨g, o, none⟩)) (hy : (ρ y).cells = vs.toArray) (hl : vs.length = sz) (hb : Blk w g C T) (hfit : o + sz ≤ C.length) (h1 : vs.all Value.oneCell' = true)
    (h : ∀ C', C' = C.take o ++ vs ++ C.drop (o + vs.length) → K undef (setBlk w g C')) : St P ρ ⟨dst, .store t x y, ty, pos, after, gd⟩ w K Kp := by
  refine St.of_skip ?_ (h _ rfl)
  have hst := run_storeCells_at P g o T vs 0 C.toArray w hb (by simp; omega) (fun v hv => List.all_eq_true.1 h1 v hv)
  simp only [Nat.add_zero] at hst
  simp [execOp, hx, hy, Instr.storeAt, Instr.sureAddr, storeVar, sizeOf, typeInfo, hi, hsz, hl, hst, setBlk]

/-! new blocks -/
theorem St.box {e : TypeId} {x : Operand} {vs : List Value} (hx : (ρ x).cells = vs.toArray) (h : K (.pointer (some ⟨w.heap.size, 0, none⟩)) (w.alloc (.cells vs.toArray e (0, 0)))) :
    St P ρ ⟨dst, .box e x, ty, pos, after, gd⟩ w K Kp := by
  refine St.of_run (v := .pointer (some ⟨w.heap.size, 0, none⟩)) ?_ h
  simp [execOp, Instr.box, newVar, newRow, hx]
theorem St.alloc {e : TypeId} {inf : TypeInfo} {z : Value} {vs : List Value} (hi : P.info? e = some inf) (hz : inf.zero = some z) (hv : z.cells = vs.toArray) (h : K (.pointer (some ⟨w.heap.size, 0, none⟩)) (w.alloc (.cells vs.toArray e (0, 0)))) :
    St P ρ ⟨dst, .alloc e, ty, pos, after, gd⟩ w K Kp := by
  refine St.of_run (v := .pointer (some ⟨w.heap.size, 0, none⟩)) ?_ h
  simp [execOp, Instr.alloc, zeroValue, typeInfo, hi, hz, newVar, newRow, hv]
theorem Blk.alloc {C : List Value} {T : TypeId} : Blk (w.alloc (.cells C.toArray T (0, 0))) w.heap.size C T := heap_alloc_new w _
theorem alloc_other {o : Obj} {k : Nat} (h : k < w.heap.size) : (w.alloc o).heap[k]? = w.heap[k]? := Below.heap_alloc w o k h
end
end Go.Wf
