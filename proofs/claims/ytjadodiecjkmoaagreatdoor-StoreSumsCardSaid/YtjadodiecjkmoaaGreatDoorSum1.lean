/-
  The checksum, in plain words: one byte turned turns it.
-/
import Derived.Test.YtjadodiecjkmoaaGreatDoorCoreG
namespace Go.Wf
set_option linter.unusedVariables false
set_option linter.unusedSimpArgs false
open Go Go.RowKit
def fnvS (h c : Nat) : Nat := (h ^^^ c) * 16777619 % 4294967296
def fnvF (h : Nat) (m : List UInt8) : Nat := m.foldl (fun h c => fnvS h c.toNat) h
def fnv (m : List UInt8) : Nat := fnvF 2166136261 m
theorem fnvF_append (h : Nat) (l m : List UInt8) : fnvF h (l ++ m) = fnvF (fnvF h l) m := by unfold fnvF; rw [List.foldl_append]
theorem fnvF_cons (h : Nat) (c : UInt8) (m : List UInt8) : fnvF h (c :: m) = fnvF (fnvS h c.toNat) m := by unfold fnvF; rw [List.foldl_cons]
theorem fnvF_nil (h : Nat) : fnvF h [] = h := by unfold fnvF; rw [List.foldl_nil]
theorem fnvF_one (h : Nat) (c : UInt8) : fnvF h [c] = fnvS h c.toNat := by rw [fnvF_cons, fnvF_nil]
theorem fnvS_lt (h c : Nat) : fnvS h c < 4294967296 := by
  unfold fnvS
  exact Nat.mod_lt _ (by decide)
theorem fnvF_lt {h : Nat} (hh : h < 4294967296) : ∀ m : List UInt8, fnvF h m < 4294967296 := by
  intro m
  induction m generalizing h with
  | nil => rw [fnvF_nil]; exact hh
  | cons c m ih => rw [fnvF_cons]; exact ih (fnvS_lt _ _)
theorem u8lt (c : UInt8) : c.toNat < 4294967296 := Nat.lt_of_lt_of_le c.toNat_lt (by decide)
theorem mul_fnv (h c : Nat) : IntKind.u32.wrap (((h ^^^ c : Nat) : Int) * 16777619) = ((fnvS h c : Nat) : Int) := by
  have e : ((h ^^^ c : Nat) : Int) * 16777619 = (((h ^^^ c) * 16777619 : Nat) : Int) := by simp
  rw [e, wrap_nat_u32]
  unfold fnvS
  exact rfl
theorem fnv_step {m : List UInt8} {j h : Nat} (hv : fnv (m.take j) = h) (hj : j < m.length) : fnv (m.take (j + 1)) = fnvS h (m.getD j 0).toNat := by
  have e : m.take (j + 1) = m.take j ++ [m.getD j 0] := by
    rw [List.take_add_one, List.getD_eq_getElem?_getD, List.getElem?_eq_getElem hj]; simp
  unfold fnv at hv ⊢
  rw [e, fnvF_append, hv, fnvF_one]
theorem fnv_end {m : List UInt8} {j h : Nat} (hv : fnv (m.take j) = h) (hj : m.length ≤ j) : ((h : Nat) : Int) = ((fnv m : Nat) : Int) := by
  rw [List.take_of_length_le hj] at hv
  rw [hv]
theorem fnvS_inj {h h' c : Nat} (hh : h < 4294967296) (hh' : h' < 4294967296) (hc : c < 4294967296) (e : fnvS h c = fnvS h' c) : h = h' := by
  unfold fnvS at e
  have h1 := Nat.xor_lt_two_pow (n := 32) hh hc
  have h2 := Nat.xor_lt_two_pow (n := 32) hh' hc
  have key : h ^^^ c = h' ^^^ c := by
    generalize h ^^^ c = p at *
    generalize h' ^^^ c = q at *
    have e2 : (p * 16777619 % 4294967296) * 899433627 % 4294967296 = (q * 16777619 % 4294967296) * 899433627 % 4294967296 := by rw [e]
    have e3 : ∀ p : Nat, p < 4294967296 → (p * 16777619 % 4294967296) * 899433627 % 4294967296 = p := by
      intro p hp
      rw [Nat.mul_mod, Nat.mod_mod, ← Nat.mul_mod, Nat.mul_assoc, show 16777619 * 899433627 = 1 + 4294967296 * 3513497 by decide, Nat.mul_add, Nat.mul_one, Nat.mul_left_comm, Nat.add_mul_mod_self_left, Nat.mod_eq_of_lt hp]
    rwa [e3 p h1, e3 q h2] at e2
  have := congrArg (· ^^^ c) key
  simpa [Nat.xor_assoc] using this
theorem fnvF_inj {h h' : Nat} (hh : h < 4294967296) (hh' : h' < 4294967296) : ∀ m : List UInt8, fnvF h m = fnvF h' m → h = h' := by
  intro m
  induction m generalizing h h' with
  | nil => rw [fnvF_nil, fnvF_nil]; exact id
  | cons c m ih => rw [fnvF_cons, fnvF_cons]; exact fun e => fnvS_inj hh hh' (u8lt c) (ih (fnvS_lt _ _) (fnvS_lt _ _) e)
theorem xor_ne {c d : UInt8} (hd : d ≠ 0) : (c ^^^ d).toNat ≠ c.toNat := by
  intro e
  have e : c ^^^ d = c := UInt8.toNat_inj.1 e
  apply hd
  have := congrArg (c ^^^ ·) e
  simpa [← UInt8.xor_assoc] using this
theorem fnv_set {m : List UInt8} {k : Nat} (hk : k < m.length) {d : UInt8} (hd : d ≠ 0) : fnv (m.set k (m.getD k 0 ^^^ d)) ≠ fnv m := by
  intro e
  have e1 : m = m.take k ++ m.getD k 0 :: m.drop (k + 1) := by
    rw [List.getD_eq_getElem?_getD, List.getElem?_eq_getElem hk]; simp
  have e2 : m.set k (m.getD k 0 ^^^ d) = m.take k ++ (m.getD k 0 ^^^ d) :: m.drop (k + 1) := by
    rw [List.set_eq_take_append_cons_drop, if_pos hk]
  rw [e2] at e
  conv at e => rhs; rw [e1]
  unfold fnv at e
  rw [fnvF_append, fnvF_append, fnvF_cons, fnvF_cons] at e
  have hlt := fnvF_lt (h := 2166136261) (by decide) (m.take k)
  generalize fnvF 2166136261 (m.take k) = h at *
  have e3 := fnvF_inj (fnvS_lt _ _) (fnvS_lt _ _) (m.drop (k + 1)) e
  -- the same state, other bytes
  have e4 : (m.getD k 0 ^^^ d).toNat = (m.getD k 0).toNat := by
    have c1 : fnvS (m.getD k 0 ^^^ d).toNat h = fnvS (m.getD k 0).toNat h := by
      unfold fnvS at e3 ⊢; rw [Nat.xor_comm, Nat.xor_comm (m.getD k 0).toNat]; exact e3
    exact fnvS_inj (u8lt _) (u8lt _) hlt c1
  exact xor_ne hd e4
theorem tmod_bd (a : Int) {n : Int} (hn : 0 < n) : -n < a.tmod n ∧ a.tmod n < n := by
  have h1 := Int.tmod_lt_of_pos a hn
  have h2 : -n < a.tmod n := by
    have := Int.tmod_lt_of_pos (-a) hn
    rw [Int.neg_tmod] at this; omega
  exact ⟨h2, h1⟩
theorem tmod_neg {a n : Int} (hn : 0 < n) (h : a.tmod n < 0) : a.tmod n + n = a % n := by
  have hb := tmod_bd a hn
  have e : a.tmod n % n = a % n := by
    have := Int.tmod_add_mul_tdiv a n
    conv => rhs; rw [← this]
    rw [Int.add_mul_emod_self_left]
  rw [← e, ← Int.emod_eq_of_lt (a := a.tmod n + n) (b := n) (by omega) (by omega), Int.add_emod_right]
theorem tmod_pos {a n : Int} (hn : 0 < n) (h : 0 ≤ a.tmod n) : a.tmod n = a % n := by
  have hb := tmod_bd a hn
  have e : a.tmod n % n = a % n := by
    have := Int.tmod_add_mul_tdiv a n
    conv => rhs; rw [← this]
    rw [Int.add_mul_emod_self_left]
  rw [← e, Int.emod_eq_of_lt h hb.2]
end Go.Wf
