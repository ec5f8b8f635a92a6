/-
  Rows that a call turns for its caller, rows handed back fresh, and own rows given up.
-/
import Derived.Test.YtjadodiecjkmoaaGreatDoorCoreH
namespace Go.Wf
set_option linter.unusedVariables false
set_option linter.unusedSimpArgs false
open Go Go.RowKit

section
variable {P : Program} {ρ : Operand → Value} {dst : Option Tmp} {ty : TypeId} {pos : String} {after : Array Edge} {gd : Option (Nat × Bool)}
  {w : World} {K : Value → World → Prop} {Kp : List PanicEntry → World → Prop} {X0 x y : Nat → Prop} {w0 : Bs}
theorem St.idxRowO {a i : Operand} {t e : TypeId} {z : Value} {by_ g n c o : Nat} {k : IntKind} {m : Int} {j : Nat} (ht : P.underlying t = some (.slice e)) (hi : infoOf P e = some (z, 1, by_))
    (hx : ρ a = .slice (some ⟨g, o, none⟩) n c) (hy : ρ i = .int k m) (hm : m = j) (hj : j < n) (h : K (.pointer (some ⟨g, o + j, none⟩)) w) : St P ρ ⟨dst, .indexAddr t a i, ty, pos, after, gd⟩ w K Kp := by
  obtain ⟨inf, hi', _, hs, _⟩ := infoOf_parts hi
  refine St.indexAddr ht hi' hs hx hy hm hj ?_
  rw [Nat.mul_one]; exact h
theorem St.loadRowO {a : Operand} {t g j o u : Nat} {A U Z : List Nat} {E : TypeId} (hA : A.length = o) (ow : Own w0 y w g ((A ++ U ++ Z).map u32v) E) (ht : plainTy P t = true) (hx : ρ a = .pointer (some ⟨g, o + j, none⟩)) (hu : U[j]? = some u) (h : K (.int .u32 u) w) :
    St P ρ ⟨dst, .load t a, ty, pos, after, gd⟩ w K Kp := by
  refine St.loadRow ow ht hx ?_ h
  have hj := (List.getElem?_eq_some_iff.1 hu).1
  rw [List.append_assoc, List.getElem?_append_right (by omega), hA, Nat.add_sub_cancel_left, List.getElem?_append_left hj, hu]
theorem St.storeRowO {a v : Operand} {t g j o u : Nat} {z : Value} {by_ : Nat} {A U Z : List Nat} {E : TypeId} (hA : A.length = o) (C : Cx X0 w0 x y w) (ow : Own w0 y w g ((A ++ U ++ Z).map u32v) E) (hi : infoOf P t = some (z, 1, by_)) (hx : ρ a = .pointer (some ⟨g, o + j, none⟩)) (hv : ρ v = .int .u32 u) (hj : j < U.length)
    (h : ∀ w', Cx X0 w0 x y w' → Sp x y w x y w' (· = g) → Own w0 y w' g ((A ++ U.set j u ++ Z).map u32v) E → K undef w') : St P ρ ⟨dst, .store t a v, ty, pos, after, gd⟩ w K Kp := by
  refine St.storeRow C ow hi hx hv (by simp only [List.length_append]; omega) ?_
  have e : (A ++ U ++ Z).set (o + j) u = A ++ U.set j u ++ Z := by
    rw [List.append_assoc, List.set_append, if_neg (by omega), hA, Nat.add_sub_cancel_left, List.set_append, if_pos hj, List.append_assoc]
  rw [e]; exact h
/-- x[i:j] of a row -/
theorem St.sliceRow {a lo r : Operand} {t e : TypeId} {z : Value} {by_ g n c : Nat} {k k' : IntKind} {m m' : Int} {i j : Nat}
    (ht : P.underlying t = some (.slice e)) (hi : infoOf P e = some (z, 1, by_)) (hx : ρ a = .slice (some ⟨g, 0, none⟩) n c) (hy : ρ lo = .int k m) (hm : m = i) (hy' : ρ r = .int k' m') (hm' : m' = j) (hij : i ≤ j) (hj : j ≤ c) (hic : i < c)
    (h : K (.slice (some ⟨g, i, none⟩) (j - i) (c - i)) w) : St P ρ ⟨dst, .slice t a (some lo) (some r) none, ty, pos, after, gd⟩ w K Kp := by
  subst hm; subst hm'
  obtain ⟨inf, hi', _, hs, _⟩ := infoOf_parts hi
  refine St.of_run (v := .slice (some ⟨g, i, none⟩) (j - i) (c - i)) ?_ h
  have h0 : ¬ c = i := by omega
  have h1 : c - i ≠ 0 := by omega
  simp [execOp, hx, hy, hy', Instr.sliceAt, Instr.slice, run_underlying ht, Instr.sliceBounds, Instr.sliceBound, asIntOf, hij, hj, sizeOf, typeInfo, hi', hs, h0, h1, Addr.add]
  try exact fun e => e.symm
theorem St.sliceRowR {a r : Operand} {t e : TypeId} {z : Value} {by_ g n c : Nat} {k' : IntKind} {m' : Int} {j : Nat}
    (ht : P.underlying t = some (.slice e)) (hi : infoOf P e = some (z, 1, by_)) (hx : ρ a = .slice (some ⟨g, 0, none⟩) n c) (hy' : ρ r = .int k' m') (hm' : m' = j) (hj : j ≤ c)
    (h : K (.slice (some ⟨g, 0, none⟩) j c) w) : St P ρ ⟨dst, .slice t a none (some r) none, ty, pos, after, gd⟩ w K Kp := by
  subst hm'
  obtain ⟨inf, hi', _, hs, _⟩ := infoOf_parts hi
  refine St.of_run (v := .slice (some ⟨g, 0, none⟩) j c) ?_ h
  simp [execOp, hx, hy', Instr.sliceAt, Instr.slice, run_underlying ht, Instr.sliceBounds, Instr.sliceBound, asIntOf, hj, sizeOf, typeInfo, hi', hs, Addr.add]
/-- a call by its contract that turns a block of one's own into cs' -/
theorem St.callT {k : FuncId} {args : Array Operand} {ts : Array TypeId} {vs : List Value} {g : Nat} {cs cs' : List Value} {T : TypeId} {φ : Value → World → Prop} (C : Cx X0 w0 x y w) (o : Own w0 y w g cs T) (hk : callable P k = true)
    (ha : args.toList.map ρ = vs) (he : ρ (.func k) = .func (.func k) #[] #[]) (hc : Calls P k vs.toArray w (RetM w g fun v w' => φ v w' ∧ Blk w' g cs' T))
    (h : ∀ v w', Cx X0 w0 x y w' → Sp x y w x y w' (· = g) → Own w0 y w' g cs' T → φ v w' → K v w') :
    St P ρ ⟨dst, .call { callee := .value (.func k), args := args, argTypes := ts }, ty, pos, after, gd⟩ w K Kp :=
  St.callM (Ψ := fun v w' c => c = cs' ∧ φ v w') C o hk ha he hc (fun _ _ h => ⟨_, h.2, rfl, h.1⟩) (fun v w' c hC hS hO hp => by obtain ⟨rfl, hp⟩ := hp; exact h v w' hC hS hO hp)
/-- what a call hands back fresh: a block of its own making -/
def Fresh (w : World) (cs : List Value) (n : Nat) (T : TypeId) (v : Value) (w' : World) : Prop := ∃ g, v = .slice (some ⟨g, 0, none⟩) n n ∧ w.heap.size ≤ g ∧ Blk w' g cs T
theorem Cx.adopt {w' : World} {g : Nat} {cs : List Value} {T : TypeId} (C : Cx X0 w0 x y w) (h : Below w.heap.size w w') (hg : w.heap.size ≤ g) (hb : Blk w' g cs T) :
    Cx X0 w0 (fun b => x b ∨ b = g) (fun b => y b ∨ b = g) w' ∧ Sp x y w (fun b => x b ∨ b = g) (fun b => y b ∨ b = g) w' nobody ∧ Own w0 (fun b => y b ∨ b = g) w' g cs T := by
  have hle := C.below.size
  refine ⟨⟨C.below.trans (h.mono hle), fun b hb => .inl (C.base b hb), ?_, ?_⟩, ⟨⟨?_, fun b hb _ => h.block b hb, h.size⟩, ⟨?_, fun b hb _ => h.block b hb, h.size⟩, fun _ h => .inl h, fun b hb _ => h.block b hb⟩, ⟨.inr rfl, .inl (by omega), hb⟩⟩
  · rintro b (hx | rfl)
    · exact Nat.lt_of_lt_of_le (C.bd b hx) h.size
    · exact hb.lt
  · rintro b (hy | rfl)
    · exact .inl (C.yx b hy)
    · exact .inr rfl
  · rintro b hlt (hx | rfl)
    · exact hx
    · omega
  · rintro b hlt (hx | rfl)
    · exact hx
    · omega
theorem St.callF {k : FuncId} {args : Array Operand} {ts : Array TypeId} {vs : List Value} {cs : List Value} {n : Nat} {T : TypeId} (C : Cx X0 w0 x y w) (hk : callable P k = true)
    (ha : args.toList.map ρ = vs) (he : ρ (.func k) = .func (.func k) #[] #[]) (hc : Calls P k vs.toArray w (Ret w fun v w' => Fresh w cs n T v w'))
    (h : ∀ g w' x' y', (∀ b, b < w.heap.size → b ≠ g) → Cx X0 w0 x' y' w' → Sp x y w x' y' w' nobody → Own w0 y' w' g cs T → K (.slice (some ⟨g, 0, none⟩) n n) w') :
    St P ρ ⟨dst, .call { callee := .value (.func k), args := args, argTypes := ts }, ty, pos, after, gd⟩ w K Kp := by
  unfold callable at hk
  split at hk
  · rename_i fn hf
    simp only [Bool.and_eq_true, Bool.not_eq_true'] at hk
    refine St.call hf hk.1 hk.2 ha (Calls.mono hc ?_) he
    intro e w' hr
    cases e with
    | returned v =>
      obtain ⟨⟨g, rfl, hg, hb⟩, h2⟩ := hr
      obtain ⟨c, s, o⟩ := C.adopt h2 hg hb
      exact h g w' _ _ (fun b hb => by omega) c s o
    | panicked ch => exact hr.elim
    | outgrown => exact hr.elim
  · cases hk
end
/-- an own row given up: it may be read from now on, and is turned no more -/
def less1 (x : Nat → Prop) (g : Nat) : Nat → Prop := fun b => x b ∧ b ≠ g
section
variable {X0 x y : Nat → Prop} {w0 : Bs} {w : World}
theorem Cx.freeze (C : Cx X0 w0 x y w) (hX : ∀ b, X0 b → b < w0.heap.size) {g : Nat} {cs : List Value} {T : TypeId} (o : Own w0 y w g cs T) (hM : ¬ w0.M g) : Cx X0 w0 (less1 x g) (less1 y g) w := by
  refine ⟨C.below, fun b hb => ⟨C.base b hb, ?_⟩, fun b hb => C.bd b hb.1, fun b hb => ⟨C.yx b hb.1, hb.2⟩⟩
  rintro rfl
  have := hX b hb
  rcases o.ge with h | h
  · omega
  · exact hM h
theorem Own.frz {g g' : Nat} {cs : List Value} {T : TypeId} (o : Own w0 y w g' cs T) (hn : g' ≠ g) : Own w0 (less1 y g) w g' cs T := ⟨⟨o.mem, hn⟩, o.ge, o.blk⟩
theorem Tr.frz {g : Nat} : Tr x w (less1 x g) w := Tr.weak fun _ h => h.1
theorem Own.frRS {g n c : Nat} {L : List Nat} {E : TypeId} (o : Own w0 y w g (L.map u32v) E) (hn : n ≤ L.length) (hc : n ≤ c) (hb : c ≤ 1099511627776) (hL : ∀ u ∈ L, u < 4294967296) :
    RS u32Ty (less1 x g) w (.slice (some ⟨g, 0, none⟩) n c) (L.take n) := by
  have hl : (L.take n).length = n := by rw [List.length_take]; omega
  refine ⟨_, c, by rw [hl], by omega, by unfold maxLen; omega, .inr ⟨g, 0, rfl, fun h => h.2 rfl, ?_⟩⟩
  intro i u hi
  have hi' : L[i]? = some u := by
    have hlt := (List.getElem?_eq_some_iff.1 hi).1
    rw [hl] at hlt
    rw [List.getElem?_take, if_pos hlt] at hi; exact hi
  refine ⟨[u32v u], ⟨rfl, hL u (List.mem_of_getElem? hi')⟩, ?_⟩
  intro j v hj
  cases j with
  | zero =>
    simp at hj; subst hj
    have := o.blk.cell (j := i) (v := u32v u) (by rw [List.getElem?_map, hi']; rfl)
    rw [show 0 + i * u32Ty.sz + 0 = i by simp [u32Ty]]; exact this
  | succ j => simp at hj
end
end Go.Wf
