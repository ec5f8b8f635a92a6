/-
  Rows of bytes of the call's own: a copy that may be stored to, and then read.
-/
import Derived.Test.YtjadodiecjkmoaaGreatDoorCoreI
namespace Go.Wf
set_option linter.unusedVariables false
set_option linter.unusedSimpArgs false
open Go Go.RowKit
def u8v (c : UInt8) : Value := .int .u8 c.toNat
theorem flat8 : ∀ (css : List (List Value)) (m : List UInt8), css.length = m.length → (∀ (i : Nat) (cs : List Value) (u : UInt8), css[i]? = some cs → m[i]? = some u → cs = [u8v u]) → css.flatten = m.map u8v := by
  intro css
  induction css with
  | nil =>
    intro m hl _
    cases m with
    | nil => rfl
    | cons a m => simp at hl
  | cons c css ih =>
    intro m hl h
    cases m with
    | nil => simp at hl
    | cons a m =>
      have h0 := h 0 c a rfl rfl
      subst h0
      rw [List.flatten_cons, ih m (by simpa using hl) fun i cs u hi hu => h (i + 1) cs u (by simpa using hi) (by simpa using hu)]
      rfl
theorem bv8 {a : Nat} (h : a < 256) : (BitVec.ofInt IntKind.u8.bits (a : Int)).toNat = a := by
  rw [BitVec.toNat_ofInt]; simp [IntKind.bits]; omega
theorem nat_xor_u8 (a b : UInt8) : IntKind.u8.wrap (BitVec.ofInt IntKind.u8.bits (a.toNat : Int) ^^^ BitVec.ofInt IntKind.u8.bits (b.toNat : Int)).toNat = (((a ^^^ b).toNat : Nat) : Int) := by
  have ha := a.toNat_lt
  have hb := b.toNat_lt
  have := Nat.xor_lt_two_pow (n := 8) ha hb
  rw [BitVec.toNat_xor, bv8 ha, bv8 hb, IntKind.wrap_u8, UInt8.toNat_xor]
  omega
section
variable {X0 x y : Nat → Prop} {w0 : Bs} {w : World} {E : TypeId}
theorem OS.own8 {m : List UInt8} {v : Value} (h : OS u8Ty E w0 x y w v m) (C : Cx X0 w0 x y w) (hm : m ≠ []) :
    ∃ g cap R, v = .slice (some ⟨g, 0, none⟩) m.length cap ∧ m.length ≤ cap ∧ cap ≤ maxLen ∧ Cx X0 w0 x (fun b => y b ∨ b = g) w ∧ Own w0 (fun b => y b ∨ b = g) w g (m.map u8v ++ R) E := by
  obtain ⟨⟨css, h1, h2, h3⟩, hmem⟩ := h
  rcases h3.2 with ⟨rfl, hn⟩ | ⟨g, cap, cur, rfl, hb, hg, h4, h5, h6, h7⟩
  · exact absurd (List.eq_nil_of_length_eq_zero hn) hm
  · have e : css.flatten = m.map u8v := flat8 css m h1 fun i cs u hi hu => h2 i cs u hi hu
    refine ⟨g, cap, cur.toList.drop m.length, rfl, h4, h5, ⟨C.below, C.base, C.bd, ?_⟩, ⟨.inr rfl, .inl hb, ?_⟩⟩
    · rintro b (hy | rfl)
      · exact C.yx b hy
      · exact (hmem _ rfl).1
    · show w.heap[g]? = some (.cells (m.map u8v ++ cur.toList.drop m.length).toArray E (0, 0))
      have e2 : m.map u8v ++ cur.toList.drop m.length = cur.toList := by
        rw [← e, ← h7, show m.length * u8Ty.sz = m.length from Nat.mul_one _]
        exact List.take_append_drop _ _
      rw [e2, hg]
theorem Own.frRS8 {g n c : Nat} {L : List UInt8} {R : List Value} (o : Own w0 y w g (L.map u8v ++ R) E) (hn : n = L.length) (hc : n ≤ c) (hb : c ≤ maxLen) :
    RS u8Ty (less1 x g) w (.slice (some ⟨g, 0, none⟩) n c) L := by
  subst hn
  refine ⟨_, c, rfl, hc, hb, .inr ⟨g, 0, rfl, fun h => h.2 rfl, ?_⟩⟩
  intro i u hi
  refine ⟨[u8v u], rfl, ?_⟩
  intro j v hj
  cases j with
  | zero =>
    simp at hj; subst hj
    have hlt := (List.getElem?_eq_some_iff.1 hi).1
    have := o.blk.cell (j := i) (v := u8v u) (by rw [List.getElem?_append_left (by simpa using hlt), List.getElem?_map, hi]; rfl)
    rw [show 0 + i * u8Ty.sz + 0 = i by simp [u8Ty]]; exact this
  | succ j => simp at hj
theorem row8_get {m : List UInt8} {R : List Value} {k : Nat} (hk : k < m.length) : (m.map u8v ++ R)[k]? = some (u8v (m.getD k 0)) := by
  rw [List.getElem?_append_left (by simpa using hk), List.getElem?_map, List.getD_eq_getElem?_getD, List.getElem?_eq_getElem hk]; rfl
theorem row8_set {m : List UInt8} {R : List Value} {k : Nat} (hk : k < m.length) (u : UInt8) : (m.map u8v ++ R).take k ++ [u8v u] ++ (m.map u8v ++ R).drop (k + 1) = (m.set k u).map u8v ++ R := by
  rw [List.map_set, List.set_eq_take_append_cons_drop, if_pos (by simpa using hk), List.take_append_of_le_length (by simp; omega), List.drop_append_of_le_length (by simp; omega)]
  simp
end
end Go.Wf
