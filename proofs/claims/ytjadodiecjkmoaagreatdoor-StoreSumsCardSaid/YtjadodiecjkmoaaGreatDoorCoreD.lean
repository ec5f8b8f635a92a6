/-
  What a call may rely on and what it hands on: sets of blocks that are a call's own, readings of data in memory, and the operations' laws in these words.
-/
import Derived.Test.YtjadodiecjkmoaaGreatDoorCoreC
import Derived.Test.YtjadodiecjkmoaaGreatDoorModel
namespace Go.Wf
set_option linter.unusedVariables false
set_option linter.unusedSimpArgs false
open Go Go.RowKit

/-- From w to w' no block outside X turned, and X' holds no old block that X does not hold. -/
structure Tr (X : Nat → Prop) (w : World) (X' : Nat → Prop) (w' : World) : Prop where
  sub : ∀ b, b < w.heap.size → X' b → X b
  blk : ∀ b, b < w.heap.size → ¬ X b → w'.heap[b]? = w.heap[b]?
  size : w.heap.size ≤ w'.heap.size
theorem Tr.refl (X : Nat → Prop) (w : World) : Tr X w X w := ⟨fun _ _ h => h, fun _ _ _ => rfl, Nat.le_refl _⟩
theorem Tr.trans {X Y Z : Nat → Prop} {a b c : World} (h : Tr X a Y b) (k : Tr Y b Z c) : Tr X a Z c :=
  ⟨fun i hi hz => h.sub i hi (k.sub i (Nat.lt_of_lt_of_le hi h.size) hz),
   fun i hi hx => (k.blk i (Nat.lt_of_lt_of_le hi h.size) (fun hy => hx (h.sub i hi hy))).trans (h.blk i hi hx),
   Nat.le_trans h.size k.size⟩
theorem Tr.weak {X X' : Nat → Prop} {w : World} (h : ∀ b, X' b → X b) : Tr X w X' w := ⟨fun b _ hb => h b hb, fun _ _ _ => rfl, Nat.le_refl _⟩
theorem Tr.below {X : Nat → Prop} {w w' : World} (h : Below w.heap.size w w') : Tr X w X w' := ⟨fun _ _ h => h, fun b hb _ => h.block b hb, h.size⟩
theorem Tr.cell {X X' : Nat → Prop} {w w' : World} (h : Tr X w X' w') {a : Addr} {v : Value} (hx : ¬ X a.block) (hc : w.cell? a = some v) : w'.cell? a = some v :=
  (World.cell?_of_block (h.blk a.block (World.block_lt_of_cell? w a hc) hx)).trans hc

/-! ### readings -/
/-- How data of a type lie in a row of cells. -/
structure Ty (α : Type) where
  sz : Nat
  pos : 0 < sz
  rd : (Nat → Prop) → World → List Value → α → Prop
  len : ∀ {X w cs a}, rd X w cs a → cs.length = sz
  one : ∀ {X w cs a}, rd X w cs a → ∀ u ∈ cs, u.oneCell' = true
  tr : ∀ {X w X' w' cs a}, rd X w cs a → Tr X w X' w' → rd X' w' cs a

section
variable {α : Type} (T : Ty α)
/-- A slice that reads as a list. -/
def RS (X : Nat → Prop) (w : World) (v : Value) (l : List α) : Prop :=
  ∃ a c, v = .slice a l.length c ∧ l.length ≤ c ∧ c ≤ maxLen ∧ (l = [] ∨ ∃ b o, a = some ⟨b, o, none⟩ ∧ ¬ X b ∧
    ∀ i x, l[i]? = some x → ∃ cs, T.rd X w cs x ∧ ∀ j u, cs[j]? = some u → w.cell? ⟨b, o + i * T.sz + j, none⟩ = some u)
end
section
variable {α : Type} {T : Ty α} {X X' : Nat → Prop} {w w' : World} {v : Value} {l : List α}
theorem RS.tr (h : RS T X w v l) (t : Tr X w X' w') : RS T X' w' v l := by
  obtain ⟨a, c, rfl, h1, h2, h3⟩ := h
  refine ⟨a, c, rfl, h1, h2, ?_⟩
  by_cases hl : l = []
  · exact .inl hl
  rcases h3 with h3 | ⟨b, o, rfl, hx, h3⟩
  · exact .inl h3
  · refine .inr ⟨b, o, rfl, ?_, ?_⟩
    · have hpos : 0 < l.length := List.length_pos_iff.2 hl
      obtain ⟨cs, hr, hc⟩ := h3 0 l[0] (by simp [hpos])
      have hp : 0 < cs.length := by rw [T.len hr]; exact T.pos
      have := hc 0 cs[0] (by simp [hp])
      have hlt := World.block_lt_of_cell? w _ this
      exact fun hx' => hx (t.sub b hlt hx')
    · intro i x hi
      obtain ⟨cs, hr, hc⟩ := h3 i x hi
      exact ⟨cs, T.tr hr t, fun j u hu => t.cell hx (hc j u hu)⟩
theorem RS.len (h : RS T X w v l) : ∃ a c, v = .slice a l.length c ∧ l.length ≤ c ∧ c ≤ maxLen := by
  obtain ⟨a, c, rfl, h1, h2, _⟩ := h; exact ⟨a, c, rfl, h1, h2⟩
theorem RS.le {a : Option Addr} {n c : Nat} (h : RS T X w (.slice a n c) l) : n = l.length ∧ l.length ≤ c ∧ c ≤ maxLen := by
  obtain ⟨a', c', e, h1, h2, _⟩ := h; cases e; exact ⟨rfl, h1, h2⟩
theorem RS.nil : RS T X w (.slice none 0 0) [] := ⟨none, 0, rfl, Nat.le_refl _, by unfold maxLen; omega, .inl rfl⟩
theorem RS.one (h : RS T X w v l) : v.oneCell' = true := by obtain ⟨a, c, rfl, _⟩ := h; rfl
/-- an element's cells -/
theorem RS.at {a : Option Addr} {n c : Nat} (h : RS T X w (.slice a n c) l) {i : Nat} {x : α} (hi : l[i]? = some x) :
    ∃ b o cs, a = some ⟨b, o, none⟩ ∧ ¬ X b ∧ T.rd X w cs x ∧ ∀ j u, cs[j]? = some u → w.cell? ⟨b, o + i * T.sz + j, none⟩ = some u := by
  obtain ⟨a', c', e, h1, h2, h3⟩ := h
  cases e
  rcases h3 with h3 | ⟨b, o, rfl, hx, h3⟩
  · subst h3; simp at hi
  · obtain ⟨cs, hr, hc⟩ := h3 i x hi
    exact ⟨b, o, cs, rfl, hx, hr, hc⟩
/-- s[i:j] -/
theorem RS.sub {a : Option Addr} {n c : Nat} (h : RS T X w (.slice a n c) l) {i j : Nat} (hij : i ≤ j) (hj : j ≤ l.length) :
    RS T X w (.slice (if c = i then a else a.map (·.add (i * T.sz))) (j - i) (c - i)) ((l.take j).drop i) := by
  obtain ⟨a', c', e, h1, h2, h3⟩ := h
  cases e
  refine ⟨if c = i then a else a.map (·.add (i * T.sz)), c - i, ?_, ?_, ?_, ?_⟩
  · have : ((l.take j).drop i).length = j - i := by rw [List.length_drop, List.length_take]; omega
    rw [this]
  · rw [List.length_drop, List.length_take]; omega
  · omega
  · by_cases he : (l.take j).drop i = []
    · exact .inl he
    · have hlt : i < j := by
        rcases Nat.lt_or_ge i j with h | h
        · exact h
        · exact absurd (List.drop_of_length_le (by rw [List.length_take]; omega)) he
      rcases h3 with h3 | ⟨b, o, rfl, hx, h3⟩
      · subst h3; simp at he
      · have hci : ¬ c = i := by omega
        refine .inr ⟨b, o + i * T.sz, ?_, hx, ?_⟩
        · simp only [hci, if_false, Option.map_some, Addr.add_lit]
        · intro k x hk
          rw [List.getElem?_drop, List.getElem?_take] at hk
          split at hk
          · obtain ⟨cs, hr, hc⟩ := h3 (i + k) x hk
            refine ⟨cs, hr, fun m u hu => ?_⟩
            have := hc m u hu
            rw [Nat.add_mul] at this
            rw [show o + i * T.sz + k * T.sz + m = o + (i * T.sz + k * T.sz) + m by omega]
            exact this
          · cases hk
end

def u32Ty : Ty Nat where
  sz := 1
  pos := by omega
  rd _ _ cs n := cs = [.int .u32 n] ∧ n < 4294967296
  len h := by rw [h.1]; rfl
  one h := by rw [h.1]; intro u hu; simp at hu; subst hu; rfl
  tr h _ := h
def u8Ty : Ty UInt8 where
  sz := 1
  pos := by omega
  rd _ _ cs n := cs = [.int .u8 n.toNat]
  len h := by rw [h]; rfl
  one h := by rw [h]; intro u hu; simp at hu; subst hu; rfl
  tr h _ := h
def i64Ty : Ty Int where
  sz := 1
  pos := by omega
  rd _ _ cs n := cs = [.int .i64 n] ∧ -9223372036854775808 ≤ n ∧ n ≤ 9223372036854775807
  len h := by rw [h.1]; rfl
  one h := by rw [h.1]; intro u hu; simp at hu; subst hu; rfl
  tr h _ := h
/-- a string that is a list of bytes -/
def str (l : List UInt8) : Value := .string ⟨l.toArray⟩
def strTy : Ty (List UInt8) where
  sz := 1
  pos := by omega
  rd _ _ cs s := cs = [str s] ∧ s.length ≤ maxLen
  len h := by rw [h.1]; rfl
  one h := by rw [h.1]; intro u hu; simp at hu; subst hu; rfl
  tr h _ := h

/-! ### the data of this program -/
def intRd (X : Nat → Prop) (w : World) (cs : List Value) (x : GInt) : Prop := ∃ s, cs = [.bool x.neg, s] ∧ RS u32Ty X w s x.mag
def intTy : Ty GInt where
  sz := 2
  pos := by omega
  rd := intRd
  len h := by obtain ⟨s, rfl, _⟩ := h; rfl
  one h := by
    obtain ⟨s, rfl, h⟩ := h
    intro u hu
    simp at hu
    rcases hu with rfl | rfl
    · rfl
    · exact h.one
  tr h t := by obtain ⟨s, rfl, h⟩ := h; exact ⟨s, rfl, h.tr t⟩
def ratRd (X : Nat → Prop) (w : World) (cs : List Value) (x : GRat) : Prop :=
  ∃ s t, cs = [.bool x.num.neg, s, .bool x.den.neg, t] ∧ RS u32Ty X w s x.num.mag ∧ RS u32Ty X w t x.den.mag
def ratTy : Ty GRat where
  sz := 4
  pos := by omega
  rd := ratRd
  len h := by obtain ⟨s, t, rfl, _⟩ := h; rfl
  one h := by
    obtain ⟨s, t, rfl, h, k⟩ := h
    intro u hu
    simp at hu
    rcases hu with rfl | rfl | rfl | rfl
    · rfl
    · exact h.one
    · rfl
    · exact k.one
  tr h t := by obtain ⟨s, s', rfl, h, k⟩ := h; exact ⟨s, s', rfl, h.tr t, k.tr t⟩
/-- an expression at most so deep -/
def exprTyN : Nat → Ty GExpr
  | 0 => { sz := 8, pos := by omega, rd := fun _ _ _ _ => False, len := fun h => h.elim, one := fun h => h.elim, tr := fun h _ => h.elim }
  | k + 1 =>
    { sz := 8
      pos := by omega
      rd := fun X w cs e => ∃ s1 s2 s3 s4, cs = [.int .i64 e.op, s1, .bool e.c.num.neg, s2, .bool e.c.den.neg, s3, str e.name, s4] ∧
        -9223372036854775808 ≤ e.op ∧ e.op ≤ 9223372036854775807 ∧ e.name.length ≤ maxLen ∧
        RS i64Ty X w s1 e.n ∧ RS u32Ty X w s2 e.c.num.mag ∧ RS u32Ty X w s3 e.c.den.mag ∧ RS (exprTyN k) X w s4 e.args
      len := by rintro X w cs a ⟨s1, s2, s3, s4, rfl, _⟩; rfl
      one := by
        rintro X w cs a ⟨s1, s2, s3, s4, rfl, _, _, _, h1, h2, h3, h4⟩ u hu
        simp at hu
        rcases hu with rfl | rfl | rfl | rfl | rfl | rfl | rfl | rfl
        · rfl
        · exact h1.one
        · rfl
        · exact h2.one
        · rfl
        · exact h3.one
        · rfl
        · exact h4.one
      tr := by
        rintro X w X' w' cs a ⟨s1, s2, s3, s4, rfl, g1, g2, g3, h1, h2, h3, h4⟩ t
        exact ⟨s1, s2, s3, s4, rfl, g1, g2, g3, h1.tr t, h2.tr t, h3.tr t, h4.tr t⟩ }
theorem exprTyN_sz (k : Nat) : (exprTyN k).sz = 8 := by cases k <;> rfl
theorem RS.up {α : Type} {T T' : Ty α} {X : Nat → Prop} {w : World} {v : Value} {l : List α} (h : RS T X w v l) (hs : T'.sz = T.sz) (hr : ∀ cs x, T.rd X w cs x → T'.rd X w cs x) : RS T' X w v l := by
  obtain ⟨a, c, rfl, h1, h2, h3⟩ := h
  refine ⟨a, c, rfl, h1, h2, ?_⟩
  rcases h3 with h3 | ⟨b, o, rfl, hx, h3⟩
  · exact .inl h3
  · refine .inr ⟨b, o, rfl, hx, fun i x hi => ?_⟩
    obtain ⟨cs, hr', hc⟩ := h3 i x hi
    exact ⟨cs, hr _ _ hr', by rw [hs]; exact hc⟩
theorem exprTyN_up {X : Nat → Prop} {w : World} : ∀ (k j : Nat) (cs : List Value) (e : GExpr), k ≤ j → (exprTyN k).rd X w cs e → (exprTyN j).rd X w cs e := by
  intro k
  induction k with
  | zero => intro j cs e _ h; exact h.elim
  | succ k ih =>
    intro j cs e hj h
    cases j with
    | zero => omega
    | succ j =>
      obtain ⟨s1, s2, s3, s4, rfl, g1, g2, g3, h1, h2, h3, h4⟩ := h
      exact ⟨s1, s2, s3, s4, rfl, g1, g2, g3, h1, h2, h3, h4.up (by rw [exprTyN_sz, exprTyN_sz]) fun cs x hx => ih j cs x (by omega) hx⟩
def exprTy : Ty GExpr where
  sz := 8
  pos := by omega
  rd X w cs e := ∃ k, (exprTyN k).rd X w cs e
  len h := by obtain ⟨k, h⟩ := h; rw [(exprTyN k).len h, exprTyN_sz]
  one h := by obtain ⟨k, h⟩ := h; exact (exprTyN k).one h
  tr h t := by obtain ⟨k, h⟩ := h; exact ⟨k, (exprTyN k).tr h t⟩
theorem RS.exprs {X : Nat → Prop} {w : World} {v : Value} : ∀ {l : List GExpr}, RS exprTy X w v l → ∃ k, RS (exprTyN k) X w v l := by
  rintro l ⟨a, c, rfl, h1, h2, h3⟩
  rcases h3 with h3 | ⟨b, o, rfl, hx, h3⟩
  · exact ⟨0, a, c, rfl, h1, h2, .inl h3⟩
  · have : ∃ K, ∀ i x, l[i]? = some x → ∃ cs, (exprTyN K).rd X w cs x ∧ ∀ j u, cs[j]? = some u → w.cell? ⟨b, o + i * 8 + j, none⟩ = some u := by
      clear h1 h2
      have key : ∀ n, ∃ K, ∀ i x, i < n → l[i]? = some x → ∃ cs, (exprTyN K).rd X w cs x ∧ ∀ j u, cs[j]? = some u → w.cell? ⟨b, o + i * 8 + j, none⟩ = some u := by
        intro n
        induction n with
        | zero => exact ⟨0, fun i x h => by omega⟩
        | succ n ih =>
          obtain ⟨K, hK⟩ := ih
          by_cases hn : n < l.length
          · obtain ⟨cs, ⟨k, hk⟩, hc⟩ := h3 n l[n] (by simp [hn])
            refine ⟨max K k, fun i x hi hx => ?_⟩
            rcases Nat.lt_or_ge i n with hl | hl
            · obtain ⟨cs, hr, hc⟩ := hK i x hl hx
              exact ⟨cs, exprTyN_up K _ cs x (by omega) hr, hc⟩
            · have : i = n := by omega
              subst this
              have : x = l[i] := by simpa [hn] using hx.symm
              subst this
              exact ⟨cs, exprTyN_up k _ cs _ (by omega) hk, hc⟩
          · refine ⟨K, fun i x hi hx => ?_⟩
            rcases Nat.lt_or_ge i n with hl | hl
            · exact hK i x hl hx
            · rw [List.getElem?_eq_none (by omega)] at hx; cases hx
      obtain ⟨K, hK⟩ := key l.length
      refine ⟨K, fun i x hi => hK i x ?_ hi⟩
      rcases Nat.lt_or_ge i l.length with h | h
      · exact h
      · rw [List.getElem?_eq_none (by omega)] at hi; cases hi
    obtain ⟨K, hK⟩ := this
    exact ⟨K, some ⟨b, o, none⟩, c, rfl, h1, h2, .inr ⟨b, o, rfl, hx, fun i x hi => by
      obtain ⟨cs, hr, hc⟩ := hK i x hi
      exact ⟨cs, hr, by rw [exprTyN_sz]; exact hc⟩⟩⟩
/-- an expression's cells -/
theorem exprTy_iff {X : Nat → Prop} {w : World} {cs : List Value} {e : GExpr} : exprTy.rd X w cs e ↔
    ∃ s1 s2 s3 s4, cs = [.int .i64 e.op, s1, .bool e.c.num.neg, s2, .bool e.c.den.neg, s3, str e.name, s4] ∧
        -9223372036854775808 ≤ e.op ∧ e.op ≤ 9223372036854775807 ∧ e.name.length ≤ maxLen ∧
        RS i64Ty X w s1 e.n ∧ RS u32Ty X w s2 e.c.num.mag ∧ RS u32Ty X w s3 e.c.den.mag ∧ RS exprTy X w s4 e.args := by
  constructor
  · rintro ⟨k, h⟩
    cases k with
    | zero => exact h.elim
    | succ k =>
      obtain ⟨s1, s2, s3, s4, rfl, g1, g2, g3, h1, h2, h3, h4⟩ := h
      exact ⟨s1, s2, s3, s4, rfl, g1, g2, g3, h1, h2, h3, h4.up (by rw [exprTyN_sz]; rfl) fun cs x hx => ⟨k, hx⟩⟩
  · rintro ⟨s1, s2, s3, s4, rfl, g1, g2, g3, h1, h2, h3, h4⟩
    obtain ⟨k, h4⟩ := h4.exprs
    exact ⟨k + 1, s1, s2, s3, s4, rfl, g1, g2, g3, h1, h2, h3, h4⟩
/-- a struct's value -/
def RV {α : Type} (T : Ty α) (X : Nat → Prop) (w : World) (v : Value) (x : α) : Prop := ∃ cs, v = .agg cs.toArray ∧ T.rd X w cs x
theorem RV.tr {α : Type} {T : Ty α} {X X' : Nat → Prop} {w w' : World} {v : Value} {x : α} (h : RV T X w v x) (t : Tr X w X' w') : RV T X' w' v x := by
  obtain ⟨cs, rfl, h⟩ := h; exact ⟨cs, rfl, T.tr h t⟩
end Go.Wf
