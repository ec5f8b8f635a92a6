/-
  The operations' laws in the words of CoreD: a call's own boxes, readings, calls by contract.
-/
import Derived.Test.YtjadodiecjkmoaaGreatDoorCoreD
import Derived.Laws.AppendOwnNone
namespace Go.Wf
set_option linter.unusedVariables false
set_option linter.unusedSimpArgs false
open Go Go.RowKit

/-- The world as a call began, and the blocks of its caller that it may turn. -/
structure Bs where
  w : World
  M : Nat → Prop
instance : Coe World Bs := ⟨fun w => ⟨w, fun _ => False⟩⟩
abbrev Bs.heap (B : Bs) := B.w.heap
structure Bel (B : Bs) (w : World) : Prop where
  os : w.os = B.w.os
  tape : w.tape = B.w.tape
  output : w.output = B.w.output
  size : B.heap.size ≤ w.heap.size
  block : ∀ k, k < B.heap.size → ¬ B.M k → w.heap[k]? = B.heap[k]?
theorem Bel.refl (B : Bs) : Bel B B.w := ⟨rfl, rfl, rfl, Nat.le_refl _, fun _ _ _ => rfl⟩
theorem Bel.trans {B : Bs} {w w' : World} (h : Bel B w) (k : Below B.heap.size w w') : Bel B w' :=
  ⟨k.os.trans h.os, k.tape.trans h.tape, k.output.trans h.output, Nat.le_trans h.size k.size, fun i hi hm => (k.block i hi).trans (h.block i hi hm)⟩
theorem Bel.turn {B : Bs} {w w' : World} {g : Nat} (h : Bel B w) (k : Bel ⟨w, (· = g)⟩ w') (hg : B.heap.size ≤ g ∨ B.M g) : Bel B w' :=
  ⟨k.os.trans h.os, k.tape.trans h.tape, k.output.trans h.output, Nat.le_trans h.size k.size,
   fun i hi hm => (k.block i (Nat.lt_of_lt_of_le hi h.size) (fun e => hg.elim (fun q => by subst e; omega) (fun q => hm (e ▸ q)))).trans (h.block i hi hm)⟩
/-- Where a walk stands: X0: what its caller keeps apart; w0: the world as the call began; x: what is kept apart now; y: the call's own boxes. -/
structure Cx (X0 : Nat → Prop) (w0 : Bs) (x y : Nat → Prop) (w : World) : Prop where
  below : Bel w0 w
  base : ∀ b, X0 b → x b
  bd : ∀ b, x b → b < w.heap.size
  yx : ∀ b, y b → x b
/-- One step of the walk; ch: the old blocks that it may have turned. -/
structure Sp (x y : Nat → Prop) (w : World) (x' y' : Nat → Prop) (w' : World) (ch : Nat → Prop) : Prop where
  tx : Tr x w x' w'
  ty : Tr y w y' w'
  up : ∀ b, y b → y' b
  same : ∀ b, b < w.heap.size → ¬ ch b → w'.heap[b]? = w.heap[b]?
structure Own (w0 : Bs) (y : Nat → Prop) (w : World) (g : Nat) (C : List Value) (T : TypeId) : Prop where
  mem : y g
  ge : w0.heap.size ≤ g ∨ w0.M g
  blk : Blk w g C T
def nobody : Nat → Prop := fun _ => False
theorem Own.sp {w0 : Bs} {x y x' y' : Nat → Prop} {w w' : World} {ch : Nat → Prop} {g : Nat} {C : List Value} {T : TypeId} (h : Own w0 y w g C T) (s : Sp x y w x' y' w' ch) (hn : ¬ ch g) : Own w0 y' w' g C T :=
  ⟨s.up _ h.mem, h.ge, h.blk.same (s.same g h.blk.lt hn)⟩
theorem Own.spn {w0 : Bs} {x y x' y' : Nat → Prop} {w w' : World} {g : Nat} {C : List Value} {T : TypeId} (h : Own w0 y w g C T) (s : Sp x y w x' y' w' nobody) : Own w0 y' w' g C T := h.sp s id
theorem Own.spo {w0 : Bs} {x y x' y' : Nat → Prop} {w w' : World} {g g' : Nat} {C : List Value} {T : TypeId} (h : Own w0 y w g C T) (s : Sp x y w x' y' w' (· = g')) (hn : g ≠ g') : Own w0 y' w' g C T := h.sp s hn
theorem RS.sp {α : Type} {T : Ty α} {x y x' y' : Nat → Prop} {w w' : World} {ch : Nat → Prop} {v : Value} {l : List α} (h : RS T x w v l) (s : Sp x y w x' y' w' ch) : RS T x' w' v l := h.tr s.tx

/-- What a call returns: a value and a world of which something holds, and nothing old has turned. -/
def Ret (w : World) (Φ : Value → World → Prop) : Ending → World → Prop
  | .returned v, w' => Φ v w' ∧ Below w.heap.size w w'
  | _, _ => False

/-- The same of a call that may turn the block g. -/
def RetM (w : World) (g : Nat) (Φ : Value → World → Prop) : Ending → World → Prop
  | .returned v, w' => Φ v w' ∧ Bel ⟨w, (· = g)⟩ w'
  | _, _ => False

def callable (P : Program) (k : FuncId) : Bool := match P.funcs[k]? with
  | some fn => !(fn.name == "runtime.NumGoroutine") && !fn.body.isNone
  | none => false
def infoOf (P : Program) (t : TypeId) : Option (Value × Nat × Nat) := (P.info? t).bind fun i => i.zero.map fun z => (z, i.size, i.bytes)
theorem infoOf_parts {P : Program} {t : TypeId} {z : Value} {s b : Nat} (h : infoOf P t = some (z, s, b)) : ∃ i, P.info? t = some i ∧ i.zero = some z ∧ i.size = s ∧ i.bytes = b := by
  unfold infoOf at h
  cases hi : P.info? t with
  | none => rw [hi] at h; cases h
  | some i =>
    rw [hi] at h
    simp only [Option.bind_some, Option.map_eq_some_iff] at h
    obtain ⟨z', hz, e⟩ := h
    cases e
    exact ⟨i, rfl, hz, rfl, rfl⟩

section
variable {X0 x y : Nat → Prop} {w0 : Bs} {w w' : World}
theorem Cx.start {X0 : Nat → Prop} {w0 : World} (h : ∀ b, X0 b → b < w0.heap.size) : Cx X0 w0 X0 nobody w0 := ⟨Bel.refl _, fun _ h => h, h, fun _ h => h.elim⟩
theorem Cx.next (C : Cx X0 w0 x y w) (h : Below w.heap.size w w') : Cx X0 w0 x y w' ∧ Sp x y w x y w' nobody := by
  have hle := C.below.size
  refine ⟨⟨C.below.trans (h.mono hle), C.base, fun b hb => Nat.lt_of_lt_of_le (C.bd b hb) h.size, C.yx⟩, ⟨Tr.below h, Tr.below h, fun _ h => h, fun b hb _ => h.block b hb⟩⟩
theorem below_alloc (w : World) (o : Obj) : Below w.heap.size w (w.alloc o) := (Below.refl _ _).alloc (Nat.le_refl _) o
/-- a box more -/
theorem Cx.box (C : Cx X0 w0 x y w) (vs : List Value) (T : TypeId) :
    Cx X0 w0 (fun b => x b ∨ b = w.heap.size) (fun b => y b ∨ b = w.heap.size) (w.alloc (.cells vs.toArray T (0, 0))) ∧
    Sp x y w (fun b => x b ∨ b = w.heap.size) (fun b => y b ∨ b = w.heap.size) (w.alloc (.cells vs.toArray T (0, 0))) nobody ∧
    Own w0 (fun b => y b ∨ b = w.heap.size) (w.alloc (.cells vs.toArray T (0, 0))) w.heap.size vs T := by
  have hle := C.below.size
  refine ⟨⟨C.below.trans ((below_alloc w _).mono hle), fun b h => .inl (C.base b h), ?_, ?_⟩, ⟨?_, ?_, fun _ h => .inl h, fun b hb _ => alloc_other hb⟩, ⟨.inr rfl, .inl hle, Blk.alloc⟩⟩
  · rintro b (h | rfl)
    · have := C.bd b h; simp; omega
    · simp
  · rintro b (h | rfl)
    · exact .inl (C.yx b h)
    · exact .inr rfl
  · refine ⟨?_, fun b hb _ => alloc_other hb, by simp⟩
    rintro b hb (h | rfl)
    · exact h
    · omega
  · refine ⟨?_, fun b hb _ => alloc_other hb, by simp⟩
    rintro b hb (h | rfl)
    · exact h
    · omega
theorem Cx.set (C : Cx X0 w0 x y w) {g : Nat} {cs cs' : List Value} {T : TypeId} (o : Own w0 y w g cs T) :
    Cx X0 w0 x y (setBlk w g cs') ∧ Sp x y w x y (setBlk w g cs') (· = g) ∧ Own w0 y (setBlk w g cs') g cs' T := by
  have hs : (setBlk w g cs').heap.size = w.heap.size := by simp [setBlk, World.setRow]
  have hsame : ∀ b, b < w.heap.size → ¬ b = g → (setBlk w g cs').heap[b]? = w.heap[b]? := fun b _ hb => setBlk_other hb
  have hb2 : Bel w0 (setBlk w g cs') := C.below.turn (g := g) ⟨rfl, rfl, rfl, by rw [hs]; exact Nat.le_refl _, fun b hb hm => hsame b hb hm⟩ o.ge
  refine ⟨⟨hb2, C.base, fun b hb => by rw [hs]; exact C.bd b hb, C.yx⟩,
    ⟨⟨fun _ _ h => h, fun b hb hx => hsame b hb (fun e => hx (e ▸ C.yx _ o.mem)), by omega⟩, ⟨fun _ _ h => h, fun b hb hx => hsame b hb (fun e => hx (e ▸ o.mem)), by omega⟩, fun _ h => h, hsame⟩,
    ⟨o.mem, o.ge, o.blk.set⟩⟩
theorem Cx.turn (C : Cx X0 w0 x y w) {g : Nat} {cs cs' : List Value} {T : TypeId} (o : Own w0 y w g cs T) (h : Bel ⟨w, (· = g)⟩ w') (hb : Blk w' g cs' T) :
    Cx X0 w0 x y w' ∧ Sp x y w x y w' (· = g) ∧ Own w0 y w' g cs' T :=
  ⟨⟨C.below.turn h o.ge, C.base, fun b hb => Nat.lt_of_lt_of_le (C.bd b hb) h.size, C.yx⟩,
    ⟨⟨fun _ _ h => h, fun b hb hx => h.block b hb (fun e => hx (e ▸ C.yx _ o.mem)), h.size⟩, ⟨fun _ _ h => h, fun b hb hx => h.block b hb (fun e => hx (e ▸ o.mem)), h.size⟩, fun _ h => h, fun b hb hn => h.block b hb hn⟩,
    ⟨o.mem, o.ge, hb⟩⟩
theorem Cx.startM {X0 : Nat → Prop} {w : World} (g : Nat) (h : ∀ b, X0 b → b < w.heap.size) (hg : X0 g) : Cx X0 ⟨w, (· = g)⟩ X0 (· = g) w :=
  ⟨Bel.refl _, fun _ h => h, h, fun _ h => h ▸ hg⟩
theorem Own.startM {w : World} {g : Nat} {cs : List Value} {T : TypeId} (h : Blk w g cs T) : Own ⟨w, (· = g)⟩ (· = g) w g cs T := ⟨rfl, .inr rfl, h⟩
theorem Cx.bds (C : Cx X0 w0 x y w) : ∀ b, x b → b < w.heap.size := C.bd
end

section
variable {P : Program} {ρ : Operand → Value} {dst : Option Tmp} {ty : TypeId} {pos : String} {after : Array Edge} {gd : Option (Nat × Bool)}
  {w : World} {K : Value → World → Prop} {Kp : List PanicEntry → World → Prop} {X0 x y : Nat → Prop} {w0 : Bs}

/-- a call by its contract -/
theorem St.callR {k : FuncId} {args : Array Operand} {ts : Array TypeId} {vs : List Value} {Φ : Value → World → Prop} (C : Cx X0 w0 x y w) (hk : callable P k = true)
    (ha : args.toList.map ρ = vs) (he : ρ (.func k) = .func (.func k) #[] #[]) (hc : Calls P k vs.toArray w (Ret w Φ))
    (h : ∀ v w', Cx X0 w0 x y w' → Sp x y w x y w' nobody → Φ v w' → K v w') :
    St P ρ ⟨dst, .call { callee := .value (.func k), args := args, argTypes := ts }, ty, pos, after, gd⟩ w K Kp := by
  unfold callable at hk
  split at hk
  · rename_i fn hf
    simp only [Bool.and_eq_true, Bool.not_eq_true'] at hk
    refine St.call hf hk.1 hk.2 ha (Calls.mono hc ?_) he
    intro e w' hr
    cases e with
    | returned v => obtain ⟨h1, h2⟩ := hr; obtain ⟨c, s⟩ := C.next h2; exact h v w' c s h1
    | panicked ch => exact hr.elim
    | outgrown => exact hr.elim
  · cases hk
/-- a call by its contract that may turn a block of one's own -/
theorem St.callM {k : FuncId} {args : Array Operand} {ts : Array TypeId} {vs : List Value} {g : Nat} {cs : List Value} {T : TypeId} {Φ : Value → World → Prop} {Ψ : Value → World → List Value → Prop} (C : Cx X0 w0 x y w) (o : Own w0 y w g cs T) (hk : callable P k = true)
    (ha : args.toList.map ρ = vs) (he : ρ (.func k) = .func (.func k) #[] #[]) (hc : Calls P k vs.toArray w (RetM w g Φ)) (hs : ∀ v w', Φ v w' → ∃ cs', Blk w' g cs' T ∧ Ψ v w' cs')
    (h : ∀ v w' cs', Cx X0 w0 x y w' → Sp x y w x y w' (· = g) → Own w0 y w' g cs' T → Ψ v w' cs' → K v w') :
    St P ρ ⟨dst, .call { callee := .value (.func k), args := args, argTypes := ts }, ty, pos, after, gd⟩ w K Kp := by
  unfold callable at hk
  split at hk
  · rename_i fn hf
    simp only [Bool.and_eq_true, Bool.not_eq_true'] at hk
    refine St.call hf hk.1 hk.2 ha (Calls.mono hc ?_) he
    intro e w' hr
    cases e with
    | returned v =>
      obtain ⟨h1, h2⟩ := hr
      obtain ⟨cs', hb, hp⟩ := hs v w' h1
      obtain ⟨c, s, o'⟩ := C.turn o h2 hb
      exact h v w' cs' c s o' hp
    | panicked ch => exact hr.elim
    | outgrown => exact hr.elim
  · cases hk
/-- a call that may panic, or that may turn what it is handed: its contract as it stands -/
theorem St.callP {k : FuncId} {args : Array Operand} {ts : Array TypeId} {vs : List Value} {R : Ending → World → Prop} (hk : callable P k = true)
    (ha : args.toList.map ρ = vs) (he : ρ (.func k) = .func (.func k) #[] #[]) (hc : Calls P k vs.toArray w R)
    (h : ∀ v w', R (.returned v) w' → K v w') (hp : ∀ c w', R (.panicked c) w' → Kp c w') (ho : ∀ w', ¬ R .outgrown w') :
    St P ρ ⟨dst, .call { callee := .value (.func k), args := args, argTypes := ts }, ty, pos, after, gd⟩ w K Kp := by
  unfold callable at hk
  split at hk
  · rename_i fn hf
    simp only [Bool.and_eq_true, Bool.not_eq_true'] at hk
    refine St.call hf hk.1 hk.2 ha (Calls.mono hc ?_) he
    intro e w' hr
    cases e with
    | returned v => exact h v w' hr
    | panicked ch => exact hp ch w' hr
    | outgrown => exact (ho w' hr).elim
  · cases hk

theorem St.boxC {e : TypeId} {o : Operand} {vs : List Value} (C : Cx X0 w0 x y w) (hx : (ρ o).cells = vs.toArray)
    (h : ∀ g w' x' y', (∀ b, b < w.heap.size → b ≠ g) → Cx X0 w0 x' y' w' → Sp x y w x' y' w' nobody → Own w0 y' w' g vs e → K (.pointer (some ⟨g, 0, none⟩)) w') :
    St P ρ ⟨dst, .box e o, ty, pos, after, gd⟩ w K Kp :=
  St.box hx (h _ _ _ _ (fun b hb => by omega) (C.box vs e).1 (C.box vs e).2.1 (C.box vs e).2.2)
theorem St.allocC {e : TypeId} {z : Value} {sz by_ : Nat} {vs : List Value} (C : Cx X0 w0 x y w) (hi : infoOf P e = some (z, sz, by_)) (hv : z.cells = vs.toArray)
    (h : ∀ g w' x' y', (∀ b, b < w.heap.size → b ≠ g) → Cx X0 w0 x' y' w' → Sp x y w x' y' w' nobody → Own w0 y' w' g vs e → K (.pointer (some ⟨g, 0, none⟩)) w') :
    St P ρ ⟨dst, .alloc e, ty, pos, after, gd⟩ w K Kp := by
  obtain ⟨i, hi', hz, _, _⟩ := infoOf_parts hi
  exact St.alloc hi' hz hv (h _ _ _ _ (fun b hb => by omega) (C.box vs e).1 (C.box vs e).2.1 (C.box vs e).2.2)
theorem St.storeC {a v : Operand} {t : TypeId} {z : Value} {sz by_ g o : Nat} {cs vs cs' : List Value} {T : TypeId} (C : Cx X0 w0 x y w) (hb : Own w0 y w g cs T) (hi : infoOf P t = some (z, sz, by_))
    (hx : ρ a = .pointer (some ⟨g, o, none⟩)) (hy : (ρ v).cells = vs.toArray) (hl : vs.length = sz) (hfit : Nat.ble (o + sz) cs.length = true) (h1 : vs.all Value.oneCell' = true) (hc : cs.take o ++ vs ++ cs.drop (o + vs.length) = cs')
    (h : ∀ w', Cx X0 w0 x y w' → Sp x y w x y w' (· = g) → Own w0 y w' g cs' T → K undef w') : St P ρ ⟨dst, .store t a v, ty, pos, after, gd⟩ w K Kp := by
  obtain ⟨i, hi', hz, hs, _⟩ := infoOf_parts hi
  refine St.store hi' hs hx hy hl hb.blk (Nat.le_of_ble_eq_true hfit) h1 ?_
  intro C' hC'
  rw [hc] at hC'
  subst hC'
  exact h _ (C.set hb).1 (C.set hb).2.1 (C.set hb).2.2
theorem St.loadO1 {a : Operand} {t : TypeId} {g o : Nat} {cs : List Value} {T : TypeId} {v : Value} (hb : Own w0 y w g cs T) (ht : plainTy P t = true) (hx : ρ a = .pointer (some ⟨g, o, none⟩)) (hv : cs[o]? = some v) (h : K v w) :
    St P ρ ⟨dst, .load t a, ty, pos, after, gd⟩ w K Kp := St.load1 ht hx (hb.blk.cell hv) h
theorem St.loadOA {a : Operand} {t : TypeId} {g o sz : Nat} {cs vs : List Value} {T : TypeId} (hb : Own w0 y w g cs T) (ht : aggTy P t sz = true) (hx : ρ a = .pointer (some ⟨g, o, none⟩)) (hl : vs.length = sz) (hv : (cs.drop o).take vs.length = vs)
    (h : K (.agg vs.toArray) w) : St P ρ ⟨dst, .load t a, ty, pos, after, gd⟩ w K Kp := St.loadA ht hx hl (hb.blk.cells hv) h
/-- the address of an element that reads as u -/
structure ElAt {α : Type} (T : Ty α) (x : Nat → Prop) (w : World) (b o : Nat) (cs : List Value) (u : α) : Prop where
  out : ¬ x b
  rd : T.rd x w cs u
  cell : ∀ q v, cs[q]? = some v → w.cell? ⟨b, o + q, none⟩ = some v
theorem ElAt.tr {α : Type} {T : Ty α} {x x' : Nat → Prop} {w w' : World} {b o : Nat} {cs : List Value} {u : α} (h : ElAt T x w b o cs u) (t : Tr x w x' w') : ElAt T x' w' b o cs u := by
  refine ⟨?_, T.tr h.rd t, fun q v hq => t.cell h.out (h.cell q v hq)⟩
  have hp : 0 < cs.length := by rw [T.len h.rd]; exact T.pos
  have hlt := World.block_lt_of_cell? w _ (h.cell 0 cs[0] (by simp [hp]))
  exact fun hx => h.out (t.sub b hlt hx)
theorem ElAt.sp {α : Type} {T : Ty α} {x y x' y' : Nat → Prop} {w w' : World} {b o : Nat} {cs : List Value} {u : α} {ch : Nat → Prop} (h : ElAt T x w b o cs u) (s : Sp x y w x' y' w' ch) : ElAt T x' w' b o cs u := h.tr s.tx
/-- an element of a slice that reads as a list -/
theorem St.idx {α : Type} {T : Ty α} {a i : Operand} {t e : TypeId} {z : Value} {by_ : Nat} {ad : Option Addr} {n c : Nat} {l : List α} {k : IntKind} {m : Int} {j : Nat} {u : α} (hr : RS T x w (.slice ad n c) l)
    (ht : P.underlying t = some (.slice e)) (hi : infoOf P e = some (z, T.sz, by_)) (hx : ρ a = .slice ad n c) (hy : ρ i = .int k m) (hm : m = j) (hj : l[j]? = some u)
    (h : ∀ b o cs, ElAt T x w b o cs u → K (.pointer (some ⟨b, o, none⟩)) w) : St P ρ ⟨dst, .indexAddr t a i, ty, pos, after, gd⟩ w K Kp := by
  obtain ⟨b, o, cs, rfl, hout, hrd, hc⟩ := hr.at hj
  obtain ⟨inf, hi', _, hs, _⟩ := infoOf_parts hi
  have hlt : j < n := by
    have := (RS.le hr).1
    rw [this]
    rcases Nat.lt_or_ge j l.length with h | h
    · exact h
    · rw [List.getElem?_eq_none h] at hj; cases hj
  exact St.indexAddr ht hi' hs hx hy hm hlt (h b _ cs ⟨hout, hrd, hc⟩)
/-- x[:j], x[i:], x[i:j] -/
theorem St.slr {α : Type} {T : Ty α} {a r : Operand} {t e : TypeId} {z : Value} {by_ : Nat} {ad : Option Addr} {n c : Nat} {l : List α} {k : IntKind} {m : Int} {j : Nat} (hr : RS T x w (.slice ad n c) l)
    (ht : P.underlying t = some (.slice e)) (hi : infoOf P e = some (z, T.sz, by_)) (hx : ρ a = .slice ad n c) (hy : ρ r = .int k m) (hm : m = j) (hj : j ≤ l.length)
    (h : RS T x w (.slice ad j c) (l.take j) → K (.slice ad j c) w) : St P ρ ⟨dst, .slice t a none (some r) none, ty, pos, after, gd⟩ w K Kp := by
  subst hm
  obtain ⟨inf, hi', _, hs, _⟩ := infoOf_parts hi
  obtain ⟨hn, hle, hc⟩ := RS.le hr
  have hjc : j ≤ c := by omega
  refine St.of_run (v := .slice ad j c) ?_ (h ?_)
  · simp [execOp, hx, hy, Instr.sliceAt, Instr.slice, run_underlying ht, Instr.sliceBounds, Instr.sliceBound, asIntOf, hjc, sizeOf, typeInfo, hi', Addr.add]
  · have := RS.sub hr (Nat.zero_le j) hj
    simp only [Nat.zero_mul, Nat.sub_zero, List.drop_zero, Addr.add_zero'] at this
    have e : (if c = 0 then ad else Option.map (fun x => x) ad) = ad := by split <;> cases ad <;> rfl
    rw [e] at this; exact this
theorem St.sll {α : Type} {T : Ty α} {a lo : Operand} {t e : TypeId} {z : Value} {by_ : Nat} {ad : Option Addr} {n c : Nat} {l : List α} {k : IntKind} {m : Int} {i : Nat} (hr : RS T x w (.slice ad n c) l)
    (ht : P.underlying t = some (.slice e)) (hi : infoOf P e = some (z, T.sz, by_)) (hx : ρ a = .slice ad n c) (hy : ρ lo = .int k m) (hm : m = i) (hj : i ≤ l.length)
    (h : ∀ ad', RS T x w (.slice ad' (l.length - i) (c - i)) (l.drop i) → K (.slice ad' (l.length - i) (c - i)) w) : St P ρ ⟨dst, .slice t a (some lo) none none, ty, pos, after, gd⟩ w K Kp := by
  subst hm
  obtain ⟨inf, hi', _, hs, _⟩ := infoOf_parts hi
  obtain ⟨hn, hle, hc⟩ := RS.le hr
  subst hn
  have hic : i ≤ l.length := hj
  refine St.of_run (v := .slice (if c = i then ad else ad.map (·.add (i * T.sz))) (l.length - i) (c - i)) ?_ (h _ ?_)
  · simp [execOp, hx, hy, Instr.sliceAt, Instr.slice, run_underlying ht, Instr.sliceBounds, Instr.sliceBound, asIntOf, hic, sizeOf, typeInfo, hi', hs]
  · have := RS.sub hr (i := i) (j := l.length) hj (Nat.le_refl _)
    rw [List.take_length] at this; exact this
theorem St.sllr {α : Type} {T : Ty α} {a lo r : Operand} {t e : TypeId} {z : Value} {by_ : Nat} {ad : Option Addr} {n c : Nat} {l : List α} {k k' : IntKind} {m m' : Int} {i j : Nat} (hr : RS T x w (.slice ad n c) l)
    (ht : P.underlying t = some (.slice e)) (hi : infoOf P e = some (z, T.sz, by_)) (hx : ρ a = .slice ad n c) (hy : ρ lo = .int k m) (hm : m = i) (hy' : ρ r = .int k' m') (hm' : m' = j) (hij : i ≤ j) (hj : j ≤ l.length)
    (h : ∀ ad', RS T x w (.slice ad' (j - i) (c - i)) ((l.take j).drop i) → K (.slice ad' (j - i) (c - i)) w) : St P ρ ⟨dst, .slice t a (some lo) (some r) none, ty, pos, after, gd⟩ w K Kp := by
  subst hm; subst hm'
  obtain ⟨inf, hi', _, hs, _⟩ := infoOf_parts hi
  obtain ⟨hn, hle, hc⟩ := RS.le hr
  subst hn
  have hjc : j ≤ c := by omega
  refine St.of_run (v := .slice (if c = i then ad else ad.map (·.add (i * T.sz))) (j - i) (c - i)) ?_ (h _ (RS.sub hr hij hj))
  simp [execOp, hx, hy, hy', Instr.sliceAt, Instr.slice, run_underlying ht, Instr.sliceBounds, Instr.sliceBound, asIntOf, hij, hjc, sizeOf, typeInfo, hi', hs]

/-! ### rows that the call itself fills -/
/-- A slice in a block of the call's own (or nil): its cells are cs, its elements read as l. -/
structure OS {α : Type} (T : Ty α) (E : TypeId) (w0 : Bs) (x y : Nat → Prop) (w : World) (v : Value) (l : List α) : Prop where
  ex : ∃ css : List (List Value), css.length = l.length ∧ (∀ (i : Nat) (cs : List Value) (u : α), css[i]? = some cs → l[i]? = some u → T.rd x w cs u) ∧ w.ownsRow w0.heap.size E T.sz v l.length css.flatten
  mem : ∀ k, v.ownBlock = some k → x k ∧ ¬ y k
theorem OS.nil {α : Type} {T : Ty α} {E : TypeId} : OS T E w0 x y w (.slice none 0 0) ([] : List α) :=
  ⟨⟨[], rfl, fun i cs u h => by simp at h, World.ownsRow_nil _ _ _ _⟩, fun k h => by simp [Value.ownBlock] at h⟩
theorem OS.len {α : Type} {T : Ty α} {E : TypeId} {v : Value} {l : List α} (h : OS T E w0 x y w v l) : ∃ a c, v = .slice a l.length c ∧ l.length ≤ c ∧ c ≤ maxLen := by
  obtain ⟨⟨css, h1, h2, h3⟩, _⟩ := h
  rcases h3.2 with ⟨rfl, h⟩ | ⟨g, cap, cur, rfl, _, _, h4, h5, _⟩
  · exact ⟨none, 0, by rw [h], by omega, by unfold maxLen; omega⟩
  · exact ⟨_, cap, rfl, h4, h5⟩
theorem OS.sp {α : Type} {T : Ty α} {E : TypeId} {v : Value} {l : List α} {x' y' : Nat → Prop} {w' : World} {ch : Nat → Prop} (h : OS T E w0 x y w v l) (s : Sp x y w x' y' w' ch) (C : Cx X0 w0 x' y' w') (hup : ∀ b, x b → x' b) : OS T E w0 x' y' w' v l := by
  obtain ⟨⟨css, h1, h2, h3⟩, hm⟩ := h
  refine ⟨⟨css, h1, fun i cs u hi hl => T.tr (h2 i cs u hi hl) s.tx, h3.1, ?_⟩, ?_⟩
  · rcases h3.2 with h | ⟨g, cap, cur, rfl, hb, hg, r⟩
    · exact .inl h
    · refine .inr ⟨g, cap, cur, rfl, hb, ?_, r⟩
      rw [s.ty.blk g (Array.getElem?_eq_some_iff.1 hg).1 (hm g rfl).2]; exact hg
  · intro k hk
    have hlt := (h3.lt k hk).2
    exact ⟨hup k (hm k hk).1, fun hy => (hm k hk).2 (s.ty.sub k hlt hy)⟩
theorem flatten_get {sz : Nat} : ∀ (css : List (List Value)), (∀ cs ∈ css, cs.length = sz) → ∀ (i j : Nat) (cs : List Value), css[i]? = some cs → j < cs.length → css.flatten[i * sz + j]? = cs[j]? := by
  intro css
  induction css with
  | nil => intro _ i j cs h; simp at h
  | cons c css ih =>
    intro hs i j cs hi hj
    have hc := hs c (by simp)
    rw [List.flatten_cons]
    cases i with
    | zero =>
      simp at hi; subst hi
      rw [Nat.zero_mul, Nat.zero_add, List.getElem?_append_left hj]
    | succ i =>
      rw [List.getElem?_append_right (by rw [hc, Nat.succ_mul]; omega)]
      have := ih (fun cs h => hs cs (by simp [h])) i j cs (by simpa using hi) hj
      rw [← this]
      congr 1
      rw [hc, Nat.succ_mul]; omega
/-- A row of the call's own, handed back. -/
theorem OS.toRS {α : Type} {T : Ty α} {E : TypeId} {v : Value} {l : List α} (h : OS T E w0 x y w v l) (C : Cx X0 w0 x y w) (hX : ∀ b, X0 b → b < w0.heap.size) : RS T X0 w v l := by
  obtain ⟨⟨css, h1, h2, h3⟩, hm⟩ := h
  rcases h3.2 with ⟨rfl, h⟩ | ⟨g, cap, cur, rfl, hb, hg, h4, h5, _⟩
  · exact ⟨none, 0, by rw [h], by omega, by unfold maxLen; omega, .inl (List.eq_nil_of_length_eq_zero h)⟩
  · refine ⟨_, cap, rfl, h4, h5, ?_⟩
    by_cases hl : l = []
    · exact .inl hl
    · refine .inr ⟨g, 0, rfl, fun hx => by have := hX g hx; omega, ?_⟩
      intro i u hi
      have hlt : i < l.length := by
        rcases Nat.lt_or_ge i l.length with h | h
        · exact h
        · rw [List.getElem?_eq_none h] at hi; cases hi
      have hci : css[i]? = some css[i] := by simp [h1, hlt]
      have hr := h2 i _ u hci hi
      refine ⟨css[i], T.tr hr (Tr.weak C.base), ?_⟩
      intro j v hv
      have hall : ∀ cs ∈ css, cs.length = T.sz := by
        intro cs hcs
        obtain ⟨q, hq, rfl⟩ := List.mem_iff_getElem.1 hcs
        have hq' : q < l.length := by omega
        exact T.len (h2 q _ l[q] (by simp [hq]) (by simp [hq']))
      have hj : j < css[i].length := by
        rcases Nat.lt_or_ge j css[i].length with h | h
        · exact h
        · rw [List.getElem?_eq_none h] at hv; cases hv
      have := flatten_get css hall i j _ hci hj
      rw [hv] at this
      have hcell := h3.cells (g := g) rfl (i * T.sz + j) v this
      rw [Addr.add_lit] at hcell
      rw [show 0 + i * T.sz + j = 0 + (i * T.sz + j) by omega]
      exact hcell
end
end Go.Wf
